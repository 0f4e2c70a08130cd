/- Segment: a torn segment is made whole (cut). -/
import Derived.Deep.DeepCutAuto
import Derived.Test.YtgpefiacbipfpaaGreatDoorC33
set_option maxRecDepth 100000
set_option maxHeartbeats 8000000
namespace Go.Proofs.YtgpefiacbipfpaaGreatDoor
open Go.RowKit Go.Maps
structure gQ (w0 w : World) (v p room : Nat) (m : Nat → Option Bs) (U c : Nat) (G : List Nat) : Prop where
 ex : ∃ fs last, Lv w0 w v p room fs last c G ∧ gP fs m ∧ (bH last).length ≤ U ∧ 1 ≤ room
theorem IP {α : Type} [DecidableEq α] : ∀ (l k : List α), l.Nodup → (∀ x ∈ l, x ∈ k) → l.length ≤ k.length := by
 intro l
 induction l with
 | nil => intro k _ _; simp
 | cons x l ih =>
  intro k hn hs
  rw [kC] at hn
  have hx := hs x (by simp)
  have := ih (k.erase x) hn.2 fun y hy => by
   have h1 := hs y (iZ _ hy)
   exact (List.mem_erase_of_ne (fun e => hn.1 (by rw [← e]; exact hy))).2 h1
  rw [Kh hx] at this
  have := List.length_pos_of_mem hx
  simp
  omega
theorem IQ {room : Nat} {fs : aG} {m : Nat → Option Bs} (hok : dC room fs) (h : gP fs m) {k n : Nat} (hm : ∀ j y, j < 100 → m j = some y → j < n ∧ y.length ≤ 512 * k) : (bH fs).length ≤ k * n := by
 have hlen := h.len hok.srt n fun j hj hj2 => by
  cases hmj : m j with
  | none => rfl
  | some y => have := (hm j y hj2 hmj).1; omega
 have hk : ∀ q ∈ fs, q.2.data.length ≤ 512 * k := fun q hq => by
  have hgq := mW dD hok.srt hq
  obtain ⟨j, hj, e⟩ := h.only q.1 (by rw [hgq]; simp)
  have := h.at_ j hj
  rw [← e, hgq] at this
  exact (hm j _ hj this.symm).2
 have := IL hok hk
 exact bG this (Nat.mul_le_mul_left _ hlen)
section
variable {w0 w w' : World} {v p room c U : Nat} {m ml : Nat → Option Bs} {G : List Nat}
theorem cU.u (h : cU w0 w v p room m ml c G) (h1 : 1 ≤ room) {k n : Nat} (hm : ∀ j y, j < 100 → m j = some y → j < n ∧ y.length ≤ 512 * k) : gQ w0 w v p room m (k * n) c G := by
 obtain ⟨fs, last, h2, h3, h4, h5⟩ := h.ex
 obtain ⟨l, kk, s, hi⟩ := h2.inv
 exact ⟨fs, last, h2, h3, bG (IP _ _ hi.was.nodup h5) (IQ hi.now h3 hm), h1⟩
theorem gQ.upd (h : gQ w0 w v p room m U c G) : aB [] w0 w := by
 obtain ⟨fs, last, h1, -⟩ := h.ex
 exact h1.upd
theorem gQ.keep (h : gQ w0 w v p room m U c G) (u : aB [] w w') : gQ w0 w' v p room m U c G := by
 obtain ⟨fs, last, h1, h2⟩ := h.ex
 exact ⟨fs, last, h1.keep u, h2⟩
theorem gQ.ext {k : Nat → Option Bs} (h : gQ w0 w v p room m U c G) (e : ∀ i, i < 100 → m i = k i) : gQ w0 w v p room k U c G := by
 obtain ⟨fs, last, h1, h2, h3⟩ := h.ex
 exact ⟨fs, last, h1, h2.ext e, h3⟩
theorem gQ.remove (h : gQ w0 w v p room m U c G) {i : Nat} (hi : i < 100) :
  Calls Tryz.prog 116 #[.pointer (some ⟨v, 0, none⟩), .string (eK i)] w fun r w' => r = .returned (.int .i64 (if (m i).isSome = true then 0 else 80 : Nat)) ∧ gQ w0 w' v p room (fK m i none) U c G ∧ bT G w w' := by
 obtain ⟨fs, last, h1, h2, h3, h4⟩ := h.ex
 refine (h1.remove h4 (eK i) (rQ i)).mono fun r w' ⟨e, hl, hst⟩ => ⟨?_, ⟨_, last, hl, h2.del hi, h3, h4⟩, hst⟩
 rw [e]
 unfold nL
 rw [jV, aE Bool.false_ne_true]
 have := h2.at_ i hi
 cases hg : bF fs (bW i) with
 | none => rw [hg] at this; rw [← this]; rfl
 | some f => rw [hg] at this; rw [← this]; rfl
theorem gQ.create (h : gQ w0 w v p room m U c G) {i : Nat} (hm : ∀ j, i ≤ j → j < 100 → m j = none) (hi : i < 64) :
  Calls Tryz.prog 11 #[.pointer (some ⟨v, 0, none⟩), .string (eK i)] w fun r w' => r = .returned (.int .i64 0) ∧ gQ w0 w' v p room (fK m i (some [])) U c G ∧ bT G w w' := by
 obtain ⟨fs, last, h1, h2, h3, h4⟩ := h.ex
 obtain ⟨l, k, s, hi'⟩ := h1.inv
 have hg := h2.none (i := i) (by omega) (hm i (aQ _) (by omega))
 have hl := h2.len hi'.now.srt i hm
 have hc : iI false fs (eK i).data.toList = 0 := by
  have := wR i
  unfold iI
  rw [jV, aE Bool.false_ne_true, aE (by omega), aE (by rw [hg]; simp), aE (by omega)]
 refine (h1.create (eK i) (rQ i)).mono fun r w' ⟨e, hl', hst⟩ => ⟨by rw [e, hc]; rfl, ⟨_, last, hl', ?_, h3, h4⟩, hst⟩
 unfold uT
 rw [aF hc]
 exact h2.put hi'.now.srt (by omega) pT
theorem gQ.append (h : gQ w0 w v p room m U c G) (hc : c ≤ 1000000) {i n k : Nat} (hi : i < 100) {x : Bs} (hx : m i = some x) {dv : Value} {d : Bs} (hd : Rd w dv d) (hdo : d ≠ [] → ∀ g, dv.ownBlock = some g → g ∈ G ∨ g < w0.heap.size) (hm : ∀ j y, j < 100 → m j = some y → j < n ∧ y.length ≤ 512 * k) (hb : U + k * n + (d.length / 512 + 1) ≤ room) (hxd : x.length + d.length ≤ 32768) :
  Calls Tryz.prog 13 #[.pointer (some ⟨v, 0, none⟩), .string (eK i), dv] w fun r w' => r = .returned (.int .i64 0) ∧ gQ w0 w' v p room (fK m i (some (x ++ d))) U (c + 1) G ∧ bT G w w' := by
 obtain ⟨fs, last, h1, h2, h3, h4⟩ := h.ex
 obtain ⟨l, kk, s, hi'⟩ := h1.inv
 obtain ⟨f, hg, rfl⟩ := h2.get hi hx
 have hn := IM f d.length
 have hfree := Re hi'
 have hbl := IQ hi'.now h2 hm
 have hcode : lE room fs last (eK i).data.toList d.length = 0 := by
  unfold lE
  rw [jV, hg]
  dsimp only
  rw [aE (by omega), aE (by omega)]
 refine (h1.append hc (eK i) (rQ i) hd hdo (by omega)).mono fun r w' ⟨e, hl', hst⟩ => ⟨by rw [e, hcode]; rfl, ⟨_, last, hl', ?_, h3, h4⟩, hst⟩
 unfold xX
 rw [aF hcode]
 unfold uS
 rw [jV, hg]
 exact h2.put hi'.now.srt hi (tJ room fs last f d)
theorem gQ.sync (h : gQ w0 w v p room m U c G) (hc : c ≤ 1000000) :
  Calls Tryz.prog 14 #[.pointer (some ⟨v, 0, none⟩)] w fun r w' => r = .returned (.int .i64 0) ∧ cU w0 w' v p room m m (c + 1) G ∧ bT G w w' := by
 obtain ⟨fs, last, h1, h2, h3, h4⟩ := h.ex
 exact (h1.sync hc).mono fun r w' ⟨e, hl', hst⟩ => ⟨e, ⟨_, _, hl', h2, h2, fun b hb => hb⟩, hst⟩
end
theorem cU.ext2 {w0 w : World} {v p room c : Nat} {G : List Nat} {m k : Nat → Option Bs} (h : cU w0 w v p room m m c G) (hm : ∀ i, m i = k i) : cU w0 w v p room k k c G := by
 obtain rfl : m = k := funext hm
 exact h
def nR (ds : List Bs) (n k : Nat) : Nat → Option Bs := fun i => if n ≤ i ∧ i < k then none else ds[i]?
theorem IR (ds : List Bs) {n k i : Nat} (h : ¬ (n ≤ i ∧ i < k)) : nR ds n k i = ds[i]? := by unfold nR; rw [aE h]
theorem IS (ds : List Bs) (n k : Nat) (h : n ≤ k) : fK (nR ds n k) k none = nR ds n (k + 1) := by
 funext i
 unfold fK nR
 by_cases e : i = k
 ·rw [aF e, aF (by omega)]
 rw [aE e]
 by_cases h1 : n ≤ i ∧ i < k
 ·rw [aF h1, aF (by omega)]
 rw [aE h1, aE (by omega)]
theorem Rg (ds : List Bs) (n k : Nat) (hk : ds.length ≤ k) (b : Bs) (hn : n ≤ ds.length) : ∀ i, fK (fK (fK (nR ds (n + 1) k) n none) n (some [])) n (some ([] ++ b)) i = cO (ds.take n ++ [b]) i := by
 intro i
 have hl : (ds.take n).length = n := by rw [bX]; omega
 unfold fK nR cO
 by_cases e : i = n
 ·rw [aF e, e, oN (by omega), hl, tR]; rfl
 rw [aE e, aE e, aE e]
 by_cases h1 : n + 1 ≤ i ∧ i < k
 ·rw [aF h1, gG (by rw [bD, hl]; simp; omega)]
 rw [aE h1]
 by_cases h2 : i < n
 ·rw [kQ (by omega), qE h2]
 rw [gG (by omega), gG (by rw [bD, hl]; simp; omega)]
theorem Rh {w0 w : World} {v p room c U : Nat} {G : List Nat} {ds : List Bs} (h : gQ w0 w v p room (cO ds) U c G) (hc : c ≤ 900000) {l n : Nat} (hl : w.cell? ⟨l, 0, none⟩ = some (.pointer (some ⟨v, 0, none⟩))) (hG : l ∈ G) (hn : n < ds.length) (hds : ds.length ≤ 60) {ba : Option Addr} {bl bc : Nat} {b : Bs} (hb : Rd w (.slice ba bl bc) b) (hbo : b ≠ [] → ∀ g, (Value.slice ba bl bc).ownBlock = some g → g ∈ G) {k : Nat} (hk : ∀ d ∈ ds, d.length ≤ 512 * k) (hbk : b.length ≤ 32768) (hroom : U + k * ds.length + (b.length / 512 + 1) ≤ room) :
  Calls Tryz.prog 58 #[.pointer (some ⟨l, 0, none⟩), .int .i64 n, .slice ba bl bc] w fun e w' => e = .returned (.int .i64 0) ∧ cU w0 w' v p room (cO (ds.take n ++ [b])) (cO (ds.take n ++ [b])) (c + 2) G ∧ bT G w w' := by
 have HBX : Hid (∀ X, bT G w X → X.cell? ⟨l, 0, none⟩ = some (.pointer (some ⟨v, 0, none⟩))) := aA fun X s => (iD (s.block (kX _ _ hl) hG)).trans hl
 have HRB : Hid (∀ X, bT G w X → Rd X (.slice ba bl bc) b) := aA fun X s => by
  obtain ⟨F, u, hF⟩ := s
  exact hb.upd1 u fun hd g hg => hF g (hbo hd g hg)
 have HDS := aA (aC hk (aC hbo hbk))
 have H0 := aA h
 clear h hb hbo hk hbk
 go_in
 go_wp2_with fail
 go_loopg [7, 8] (61 - (n + 1)) (fun gh v7 v8 wr => ∃ kk : Nat, v7 = .int .i64 kk ∧ n + 1 ≤ kk ∧ kk ≤ ds.length ∧ gh = 61 - kk ∧ Hid (gQ w0 wr v p room (nR ds (n + 1) kk) U c G ∧ bT G w wr))
 case atStart =>
  refine ⟨n + 1, by go_num, aQ _, by omega, by omega, aA ⟨H0.out.ext fun i _ => ?_, .of (aB.refl [] w)⟩⟩
  unfold nR cO
  rw [aE (by omega)]
 case round =>
  obtain ⟨kk, rfl, hk1, hk2, rfl, HS⟩ := hrel
  have hcl := HBX.out _ HS.out.2
  have HN := aA fun X : World => xM X kk (by omega)
  obtain ⟨E, hE⟩ : ∃ E : Nat, E = if ((nR ds (n + 1) kk) kk).isSome = true then 0 else 80 := ⟨_, rfl⟩
  have HR := aA fun (X : World) (u : aB [] wr X) => (HS.out.1.keep u).remove (i := kk) (by omega)
  rw [← hE] at HR
  have HE := aA hE
  clear hE
  have hT : bT G wr wr.drew := .of (aB.refl [] wr).drew
  go_upto_region 3 with (fail)
  go_region_held3 (fun X => X.cell? ⟨l, 0, none⟩ = some (.pointer (some ⟨v, 0, none⟩)))
   (first
    | (with_reducible exact cN (aB.refl [] wr).drew hcl)
    | (with_reducible exact hq7))
   (first
    | (go_at_call 55; (with_reducible refine (HN.out _).mono ?_); rintro e w6 ⟨rfl, rfl⟩)
    | (go_at_call 116; (with_reducible refine (HR.out _ ?_).mono ?_); (exact (aB.refl [] wr).drew); rintro e w7 ⟨rfl, hs7, hst7⟩; have hq7 := HBX.out _ (HS.out.2.trans (hT.trans hst7))))
  by_cases hkl : kk < ds.length
  ·have hE0 : E = 0 := by
    rw [HE.out, IR ds (by omega), bL hkl]; rfl
   subst hE0
   rw [IS _ _ _ hk1] at hs7
   have H7 := aA (aC hs7 (HS.out.2.trans (hT.trans hst7)))
   clear hs7 hst7 hq7 hcl
   go_wp2_with fail
   go_roundg (61 - (kk + 1))
   case measure => omega
   case rel => exact ⟨kk + 1, by go_num, by omega, by omega, rfl, H7⟩
  have hE0 : E = 80 := by
   rw [HE.out, IR ds (by omega), gG (by omega)]; rfl
  subst hE0
  rw [IS _ _ _ hk1] at hs7
  have H7 := aA (aC hs7 (HS.out.2.trans (hT.trans hst7)))
  obtain rfl : kk = ds.length := by omega
  have hcl := hq7
  have HN := aA fun X : World => xM X n (by omega)
  have HR := aA fun (X : World) (u : aB [] w7 X) => (H7.out.1.keep u).remove (i := n) (by omega)
  have hE1 : ((nR ds (n + 1) (ds.length + 1)) n).isSome = true := by
   unfold nR
   rw [aE (by omega), bL hn]; rfl
  rw [aF hE1] at HR
  have hT : bT G w7 w7.drew := .of (aB.refl [] w7).drew
  clear hs7 hst7 hq7 hE1
  go_upto_region 7 with (fail)
  go_region_held3 (fun X => X.cell? ⟨l, 0, none⟩ = some (.pointer (some ⟨v, 0, none⟩)))
   (first
    | (with_reducible exact cN (aB.refl [] w7).drew hcl)
    | (with_reducible exact hq7))
   (first
    | (go_at_call 55; (with_reducible refine (HN.out _).mono ?_); rintro e w6 ⟨rfl, rfl⟩)
    | (go_at_call 116; (with_reducible refine (HR.out _ ?_).mono ?_); (exact (aB.refl [] w7).drew); rintro e w8 ⟨rfl, hs7, hst7⟩; have hq7 := HBX.out _ (H7.out.2.trans (hT.trans hst7))))
  have H8 := aA (aC hs7 (H7.out.2.trans (hT.trans hst7)))
  have hcl := hq7
  have HR := aA fun (X : World) (u : aB [] w8 X) => (H8.out.1.keep u).create (i := n) (fun j hj hj2 => by
   unfold fK nR
   by_cases e : j = n
   ·rw [aF e]
   rw [aE e]
   by_cases h1 : n + 1 ≤ j ∧ j < ds.length + 1
   ·rw [aF h1]
   rw [aE h1, gG (by omega)]) (by omega)
  have hT : bT G w8 w8.drew := .of (aB.refl [] w8).drew
  clear hs7 hst7 hq7
  go_upto_region 10 with (fail)
  go_region_held3 (fun X => X.cell? ⟨l, 0, none⟩ = some (.pointer (some ⟨v, 0, none⟩)))
   (first
    | (with_reducible exact cN (aB.refl [] w8).drew hcl)
    | (with_reducible exact hq7))
   (first
    | (go_at_call 55; (with_reducible refine (HN.out _).mono ?_); rintro e w6 ⟨rfl, rfl⟩)
    | (go_at_call 11; (with_reducible refine (HR.out _ ?_).mono ?_); (exact (aB.refl [] w8).drew); rintro e w9 ⟨rfl, hs7, hst7⟩; have hq7 := HBX.out _ (H8.out.2.trans (hT.trans hst7))))
  have H9 := aA (aC hs7 (H8.out.2.trans (hT.trans hst7)))
  have hcl := hq7
  have HR := aA fun (X : World) (u : aB [] w9 X) => (H9.out.1.keep u).append (i := n) (n := n + 1) (k := k) (x := []) (by omega) (by omega) (by unfold fK; rw [aF rfl]) ((HRB.out _ H9.out.2).keep u) (fun hd g hg => .inl (HDS.out.2.1 hd g hg)) (fun j y hj hy => by
   unfold fK nR at hy
   by_cases e : j = n
   ·rw [aF e] at hy
    cases hy
    exact ⟨by omega, by simp⟩
   rw [aE e, aE e] at hy
   by_cases h1 : n + 1 ≤ j ∧ j < ds.length + 1
   ·rw [aF h1] at hy; cases hy
   rw [aE h1] at hy
   obtain ⟨h2, h3⟩ := eX.1 hy
   exact ⟨by omega, HDS.out.1 y (by rw [← h3]; exact fX h2)⟩) (by have : k * (n + 1) ≤ k * ds.length := Nat.mul_le_mul_left _ hn; omega) (by have := HDS.out.2.2; simp; omega)
  have hT : bT G w9 w9.drew := .of (aB.refl [] w9).drew
  clear hs7 hst7 hq7
  go_upto_region 13 with (fail)
  go_region_held3 (fun X => X.cell? ⟨l, 0, none⟩ = some (.pointer (some ⟨v, 0, none⟩)))
   (first
    | (with_reducible exact cN (aB.refl [] w9).drew hcl)
    | (with_reducible exact hq7))
   (first
    | (go_at_call 55; (with_reducible refine (HN.out _).mono ?_); rintro e w6 ⟨rfl, rfl⟩)
    | (go_at_call 13; (with_reducible refine (HR.out _ ?_).mono ?_); (exact (aB.refl [] w9).drew); rintro e w10 ⟨rfl, hs7, hst7⟩; have hq7 := HBX.out _ (H9.out.2.trans (hT.trans hst7))))
  have H10 := aA (aC hs7 (H9.out.2.trans (hT.trans hst7)))
  have hcl := hq7
  have HSy := aA (H10.out.1.sync (by omega))
  clear hs7 hst7 hq7
  go_wp2_with fail
  refine HSy.out.mono ?_
  rintro e w11 ⟨rfl, hs11, hst11⟩
  have hs12 := hs11.ext2 (Rg ds n (ds.length + 1) (by omega) b (by omega))
  have H11 := aA (aC hs12 (H10.out.2.trans hst11))
  clear hs11 hst11 hs12
  go_wp2_with fail
  go_ret
  exact ⟨rfl, H11.out⟩
abbrev pI (v : Nat) (fv sv : Value) : Obj := .cells #[.pointer (some ⟨v, 0, none⟩), fv, sv] 104 (0, 0)
structure gC (w : World) (base l v : Nat) (fv sv : Value) (L : List aO) (sz : List Nat) : Prop where
 box : w.heap[l]? = some (pI v fv sv)
 fr : dP w base fv L
 sz : nE w base sv sz
 low : base ≤ l
 s1 : l ∉ eS fv L
 s2 : sv.ownBlock ≠ some l
 s3 : ∀ g, sv.ownBlock = some g → g ∉ eS fv L
def iB (l : Nat) (fv sv : Value) (L : List aO) : List Nat := l :: (sv.ownBlock.toList ++ eS fv L)
theorem dQ {l i : Nat} {fv sv : Value} {L : List aO} : i ∈ iB l fv sv L ↔ i = l ∨ sv.ownBlock = some i ∨ i ∈ eS fv L := by simp [iB]
theorem aB.grownIn {F : List Nat} {w a b : World} {row : Option Nat} (h : aB F w a) (hg : a.grownBy b row) (hr : ∀ k, row = some k → k ∈ F ∨ w.heap.size ≤ k) : aB F w b :=
 h.next (aB.ofGrown hg) fun k hk hlt => by
  rcases hr k (by simpa using hk) with q | q
  ·exact q
  omega
section
variable {w w' : World} {base l v : Nat} {fv sv : Value} {L : List aO} {sz : List Nat}
theorem gC.upd (h : gC w base l v fv sv L sz) {F : List Nat} (u : aB F w w') (hF : ∀ i ∈ iB l fv sv L, i ∉ F) : gC w' base l v fv sv L sz :=
 ⟨(u.block l (aH h.box) (hF _ (dQ.2 (.inl rfl)))).trans h.box, h.fr.upd u fun i hi => hF i (dQ.2 (.inr (.inr hi))), h.sz.upd u fun j hj e => hF j (dQ.2 (.inr (.inl e))) hj, h.low, h.s1, h.s2, h.s3⟩
theorem gC.keep (h : gC w base l v fv sv L sz) (u : aB [] w w') : gC w' base l v fv sv L sz := h.upd u (by simp)
theorem gC.lt (h : gC w base l v fv sv L sz) : ∀ i ∈ iB l fv sv L, base ≤ i ∧ i < w.heap.size := fun i hi => by
 rcases dQ.1 hi with rfl | e | e
 ·exact ⟨h.low, aH h.box⟩
 ·exact h.sz.block i e
 exact h.fr.lt i e
theorem gC.stay (h : gC w base l v fv sv L sz) {G : List Nat} (s : bT G w w') (hG : ∀ i ∈ iB l fv sv L, i ∈ G) : gC w' base l v fv sv L sz := by
 obtain ⟨F, u, hF⟩ := s
 exact h.upd u fun i hi => hF i (hG i hi)
end
structure AE (w : World) (base l : Nat) (fv sv : Value) (L1 : List aO) : Prop where
 rd : ∀ x ∈ L1, Rd w x.dv x.d
 sep : ∀ x ∈ L1, x.d ≠ [] → ∀ g, x.dv.ownBlock = some g → base ≤ g ∧ fv.ownBlock ≠ some g ∧ sv.ownBlock ≠ some g ∧ g ≠ l
structure wA (w W : World) (base l : Nat) (fv sv FV SV : Value) (L : List aO) (sz : List Nat) : Prop where
 fr : dP W base FV L
 sz : nE W base SV sz
 s1 : l ∉ eS FV L
 s2 : SV.ownBlock ≠ some l
 s3 : ∀ g, SV.ownBlock = some g → g ∉ eS FV L
 up : aB (fv.ownBlock.toList ++ sv.ownBlock.toList) w W
 n6 : ∀ g, FV.ownBlock = some g → fv.ownBlock = some g ∨ w.heap.size ≤ g
 n7 : ∀ g, SV.ownBlock = some g → sv.ownBlock = some g ∨ w.heap.size ≤ g
section
variable {w X Y w6 w7 : World} {base l v : Nat} {fv sv v6 v7 : Value} {L L1 : List aO} {sz s1 : List Nat}
theorem wB (hm : AE w base l fv sv L1) {g : Nat} (hg : g ∈ L1.flatMap uU) : base ≤ g ∧ g < w.heap.size ∧ fv.ownBlock ≠ some g ∧ sv.ownBlock ≠ some g ∧ g ≠ l := by
 obtain ⟨x, hx, hxg⟩ := lK.1 hg
 obtain ⟨hd, hb⟩ := yA.1 hxg
 have := hm.sep x hx hd g hb
 exact ⟨this.1, (hm.rd x hx).blk_lt hd hb, this.2⟩
theorem pJ {FV : Value} {g : Nat} : g ∈ eS FV (L ++ L1) ↔ FV.ownBlock = some g ∨ g ∈ L.flatMap uU ∨ g ∈ L1.flatMap uU := by
 unfold eS
 rw [vA, bK, bK]
 simp
theorem jR {FV : Value} {g : Nat} (h : g ∈ L.flatMap uU) : g ∈ eS FV L := fM _ h
theorem IT (h : gC w base l v fv sv L sz) (hm : AE w base l fv sv L1) (hX : aB [] w X)
  (ho6 : qR w6 base v6 (L ++ L1)) (hg6 : X.grownBy w6 fv.ownBlock) (hn6 : v6.ownBlock = fv.ownBlock ∨ ∀ g, v6.ownBlock = some g → X.heap.size ≤ g)
  (hY : aB [] w6 Y) (ho7 : nE w7 base v7 (sz ++ s1)) (hg7 : Y.grownBy w7 sv.ownBlock) (hn7 : v7.ownBlock = sv.ownBlock ∨ ∀ g, v7.ownBlock = some g → Y.heap.size ≤ g) : wA w w7 base l fv sv v6 v7 (L ++ L1) (sz ++ s1) := by
 have hf := h.fr.keep hX
 have hf6 : dP w6 base v6 (L ++ L1) := hf.app hg6 ho6 hn6 (fun x hx => (hm.rd x hx).keep hX) fun x hx hd g hg => ⟨(hm.sep x hx hd g hg).1, (hm.sep x hx hd g hg).2.1⟩
 have hlw : l < w.heap.size := aH h.box
 have hXs := hX.size
 have hYs := hY.size
 have h6s := (aB.ofGrown hg6).size
 have hv6 : ∀ g, v6.ownBlock = some g → fv.ownBlock = some g ∨ w.heap.size ≤ g := fun g hg => by
  rcases hn6 with e | e
  ·exact .inl (by rw [← e]; exact hg)
  have := e g hg; exact .inr (by omega)
 have hsv : ∀ g, sv.ownBlock = some g → g < w.heap.size := fun g hg => (h.sz.block g hg).2
 have hf7 : dP w7 base v6 (L ++ L1) := (hf6.keep hY).upd (aB.ofGrown hg7) fun i hi q => by
  have hq : sv.ownBlock = some i := by simpa using q
  rcases pJ.1 hi with e | e | e
  ·rcases hv6 i e with e2 | e2
   ·exact h.s3 i hq (eF.2 (.inl e2))
   have := hsv i hq; omega
  ·exact h.s3 i hq (jR e)
  exact (wB hm e).2.2.2.1 hq
 refine ⟨hf7, ho7, fun q => ?_, fun q => ?_, fun g hg q => ?_, ?_, hv6, fun g hg => hn7.elim (fun e => .inl (by rw [← e]; exact hg)) fun e => .inr (by have := e g hg; omega)⟩
 ·rcases pJ.1 q with e | e | e
  ·rcases hv6 l e with e2 | e2
   ·exact h.s1 (eF.2 (.inl e2))
   omega
  ·exact h.s1 (jR e)
  exact (wB hm e).2.2.2.2 rfl
 ·rcases hn7 with e | e
  ·exact h.s2 (by rw [← e]; exact q)
  have := e l q; omega
 ·rcases hn7 with e | e
  ·have hq : sv.ownBlock = some g := by rw [← e]; exact hg
   rcases pJ.1 q with e | e | e
   ·rcases hv6 g e with e2 | e2
    ·exact h.s3 g hq (eF.2 (.inl e2))
    have := hsv g hq; omega
   ·exact h.s3 g hq (jR e)
   exact (wB hm e).2.2.2.1 hq
  have h1 := e g hg
  have h2 := (hf6.lt g q).2
  omega
 refine aB.grownIn (((aB.grownIn (hX.mono (by simp)) hg6 fun k hk => .inl (by simp [hk])).trans (hY.mono (by simp)))) hg7 fun k hk => .inl (by simp [hk])
theorem Ri (h : gC w base l v fv sv L sz) (hm : AE w base l fv sv L1) (hX : aB [] w X)
  (ho7 : nE w7 base v7 (sz ++ s1)) (hg7 : X.grownBy w7 sv.ownBlock) (hn7 : v7.ownBlock = sv.ownBlock ∨ ∀ g, v7.ownBlock = some g → X.heap.size ≤ g)
  (hY : aB [] w7 Y) (ho6 : qR w6 base v6 (L ++ L1)) (hg6 : Y.grownBy w6 fv.ownBlock) (hn6 : v6.ownBlock = fv.ownBlock ∨ ∀ g, v6.ownBlock = some g → Y.heap.size ≤ g) : wA w w6 base l fv sv v6 v7 (L ++ L1) (sz ++ s1) := by
 have hlw : l < w.heap.size := aH h.box
 have hXs := hX.size
 have hYs := hY.size
 have h7s := (aB.ofGrown hg7).size
 have hsv : ∀ g, sv.ownBlock = some g → g < w.heap.size := fun g hg => (h.sz.block g hg).2
 have hu7 : aB sv.ownBlock.toList w w7 := aB.grownIn (hX.mono (by simp)) hg7 fun k hk => .inl (by simp [hk])
 have huY : aB sv.ownBlock.toList w Y := hu7.trans (hY.mono (by simp))
 have hf : dP Y base fv L := h.fr.upd huY fun i hi q => h.s3 i (by simpa using q) hi
 have hmr : ∀ x ∈ L1, Rd Y x.dv x.d := fun x hx => (hm.rd x hx).upd1 huY fun hd g hg q => (hm.sep x hx hd g hg).2.2.1 (by simpa using q)
 have hf6 : dP w6 base v6 (L ++ L1) := hf.app hg6 ho6 hn6 hmr fun x hx hd g hg => ⟨(hm.sep x hx hd g hg).1, (hm.sep x hx hd g hg).2.1⟩
 have hv6 : ∀ g, v6.ownBlock = some g → fv.ownBlock = some g ∨ Y.heap.size ≤ g := fun g hg => by
  rcases hn6 with e | e
  ·exact .inl (by rw [← e]; exact hg)
  exact .inr (e g hg)
 have hv7 : ∀ g, v7.ownBlock = some g → (sv.ownBlock = some g ∨ w.heap.size ≤ g) ∧ g < w7.heap.size := fun g hg => ⟨by
  rcases hn7 with e | e
  ·exact .inl (by rw [← e]; exact hg)
  have := e g hg; exact .inr (by omega), (ho7.block g hg).2⟩
 have hfl : ∀ g, fv.ownBlock = some g → g < w.heap.size := fun g hg => (h.fr.own.block g hg).2
 refine ⟨hf6, (ho7.upd hY (by simp)).upd (aB.ofGrown hg6) fun j hj e => ?_, fun q => ?_, fun q => ?_, fun g hg q => ?_, ?_, fun g hg => (hv6 g hg).imp id fun q => by omega, fun g hg => (hv7 g hg).1⟩
 ·have hq : fv.ownBlock = some j := by simpa using hj
  rcases (hv7 j e).1 with e2 | e2
  ·exact h.s3 j e2 (eF.2 (.inl hq))
  have := hfl j hq; omega
 ·rcases pJ.1 q with e | e | e
  ·rcases hv6 l e with e2 | e2
   ·exact h.s1 (eF.2 (.inl e2))
   omega
  ·exact h.s1 (jR e)
  exact (wB hm e).2.2.2.2 rfl
 ·rcases (hv7 l q).1 with e | e
  ·exact h.s2 e
  omega
 ·have h1 := hv7 g hg
  rcases pJ.1 q with e | e | e
  ·rcases hv6 g e with e2 | e2
   ·rcases h1.1 with e3 | e3
    ·exact h.s3 g e3 (eF.2 (.inl e2))
    have := hfl g e2; omega
   omega
  ·rcases h1.1 with e3 | e3
   ·exact h.s3 g e3 (jR e)
   have := (h.fr.lt g (jR e)).2; omega
  rcases h1.1 with e3 | e3
  ·exact (wB hm e).2.2.2.1 e3
  have := (wB hm e).2.1; omega
 refine aB.grownIn (huY.mono fun k hk _ => fM _ hk) hg6 fun k hk => .inl (by simp [hk])
theorem IU {W : World} {fv sv a b : Value} (h : W.heap[l]? = some (pI v fv sv)) : ((W.setCell ⟨l, 1, none⟩ a).setCell ⟨l, 2, none⟩ b).heap[l]? = some (pI v a b) := by
 rw [bJ, aF rfl, bJ, aF rfl, h]; rfl
theorem Rj {W : World} {fv sv a b : Value} (h : W.heap[l]? = some (pI v fv sv)) : ((W.setCell ⟨l, 2, none⟩ b).setCell ⟨l, 1, none⟩ a).heap[l]? = some (pI v a b) := by
 rw [bJ, aF rfl, bJ, aF rfl, h]; rfl
theorem wA.log {W W' : World} (h : wA w W base l fv sv v6 v7 L sz) (hb : W'.heap[l]? = some (pI v v6 v7)) (hl : base ≤ l) (u : aB [l] W W') : gC W' base l v v6 v7 L sz :=
 ⟨hb, h.fr.upd u fun i hi q => h.s1 (by rw [← aM.1 q]; exact hi), h.sz.upd u fun j hj e => h.s2 (by rw [← aM.1 hj]; exact e), hl, h.s1, h.s2, h.s3⟩
end
def lG (w w' : World) : List Nat := List.range' w.heap.size (w'.heap.size - w.heap.size)
theorem mA {w w' : World} {i : Nat} : i ∈ lG w w' ↔ w.heap.size ≤ i ∧ i < w'.heap.size := by unfold lG; rw [AW]; omega
theorem cU.fresh {w0 w w' : World} {v p room c : Nat} {m ml : Nat → Option Bs} {G : List Nat} (h : cU w0 w v p room m ml c G) (u : aB [] w w') : cU w0 w' v p room m ml c (lG w w' ++ G) := h.guard u fun b hb => mA.1 hb
theorem cU.freshF {w0 w w' : World} {v p room c : Nat} {m ml : Nat → Option Bs} {G F : List Nat} (h : cU w0 w v p room m ml c G) (u : aB F w w') (hF : ∀ i ∈ F, i ∈ G ∧ w0.heap.size ≤ i) : cU w0 w' v p room m ml c (lG w w' ++ G) := h.guardF u hF fun b hb => mA.1 hb
theorem Rk {w : World} {ops : Array Oper} {rest : List Oper} {o : Oper} {a : Act} {Q : Exit → Act → World → Prop} (hg : o.guard = none) (x z : Operand) (hop : o.op = Op.slice 23 x none (some z) none) {v : Value} {l : Bs} (hv : Rd w v l) {j : Nat} (hj : j ≤ l.length)
  (hx : a.eval x = v) (hz : a.eval z = .int .i64 j) (h : ∀ a' c' m, m = j - 0 → Rd w (.slice a' m c') ((l.drop 0).take (j - 0)) → (∀ g, (Value.slice a' m c').ownBlock = some g → v.ownBlock = some g) → wpList Tryz.prog ops Q rest (a.put o.dst (.slice a' m c')) w) : wpList Tryz.prog ops Q (o :: rest) a w := by
 obtain ⟨a', c', -, -, hrun, hr, hb⟩ := hv.cut 0 j (dH _) hj
 refine sP hg fun K' hK' => ?_
 unfold Oper.wp
 simp only [execOp, hop, hx, hz, Option.map, qF, vB, qG, run_sliceAt_slice (P := Tryz.prog) (w := w) _ _ _ _ _ rY, hrun rfl]
 exact hK' _ _ (h a' c' _ rfl hr hb)
theorem IV (ds : List Bs) {n : Nat} (hn : n < ds.length) : dB (ds.drop n) = if (cM ds[n]).2 = ds[n].length then (ds[n] :: (dB (ds.drop (n + 1))).1, (dB (ds.drop (n + 1))).2.1, (cM ds[n]).1 ++ (dB (ds.drop (n + 1))).2.2) else ([ds[n].take (cM ds[n]).2], true, (cM ds[n]).1) := by
 rw [pP hn, dB]
def pK (ds : List Bs) (n : Nat) (l : List eE) : Prop := dB ds = (ds.take n ++ (dB (ds.drop n)).1, (dB (ds.drop n)).2.1, l ++ (dB (ds.drop n)).2.2)
theorem IW (ds : List Bs) : pK ds 0 [] := rfl
theorem IX {ds : List Bs} {n : Nat} {l : List eE} (h : pK ds n l) (hn : n < ds.length) (hw : (cM ds[n]).2 = ds[n].length) : pK ds (n + 1) (l ++ (cM ds[n]).1) := by
 unfold pK at *
 rw [h, IV ds hn, aF hw, Ea hn]
 simp only [eJ, List.cons_append, List.nil_append]
theorem IY {ds : List Bs} {l : List eE} (h : pK ds ds.length l) : dB ds = (ds, false, l) := by
 unfold pK at h
 rw [h, DN, rL]
 simp [dB]
theorem IZ {ds : List Bs} {n : Nat} {l : List eE} (h : pK ds n l) (hn : n < ds.length) (hw : (cM ds[n]).2 ≠ ds[n].length) : dB ds = (ds.take n ++ [ds[n].take (cM ds[n]).2], true, l ++ (cM ds[n]).1) := by
 unfold pK at h
 rw [h, IV ds hn, aE hw]
structure nS (w0 w wr : World) (v p room : Nat) (ds : List Bs) (c lg : Nat) (fv sv : Value) (L : List aO) (sz : List Nat) (G G' : List Nat) : Prop where
 sub : ∀ i ∈ G, i ∈ G'
 foot : ∀ i ∈ iB lg fv sv L, i ∈ G'
 sg : cU w0 wr v p room (cO ds) (cO ds) c G'
 log : gC wr w.heap.size lg v fv sv L sz
 st : bT G w wr
section
variable {w0 w wr w' : World} {v p room c lg : Nat} {ds : List Bs} {fv sv : Value} {L : List aO} {sz : List Nat} {G G' : List Nat}
theorem nS.stay (h : nS w0 w wr v p room ds c lg fv sv L sz G G') {G'' : List Nat} (s : bT G' wr w') (hs : cU w0 w' v p room (cO ds) (cO ds) c G'') (hg : ∀ i ∈ G', i ∈ G'') : nS w0 w w' v p room ds c lg fv sv L sz G G'' :=
 ⟨fun i hi => hg i (h.sub i hi), fun i hi => hg i (h.foot i hi), hs, h.log.stay s h.foot, h.st.trans (s.sub h.sub)⟩
theorem nS.keep (h : nS w0 w wr v p room ds c lg fv sv L sz G G') (u : aB [] wr w') : nS w0 w w' v p room ds c lg fv sv L sz G (lG wr w' ++ G') := h.stay (.of u) (h.sg.fresh u) fun i hi => fM _ hi
theorem nS.grow (h : nS w0 w wr v p room ds c lg fv sv L sz G G') (hwl : w0.heap.size ≤ w.heap.size) (hG : ∀ i ∈ G, i < w.heap.size) {v6 v7 : Value} {L1 : List aO} {s1 : List Nat} {W W' : World} (hb : wA wr W w.heap.size lg fv sv v6 v7 (L ++ L1) (sz ++ s1))
  (hW : W' = (W.setCell ⟨lg, 1, none⟩ v6).setCell ⟨lg, 2, none⟩ v7 ∨ W' = (W.setCell ⟨lg, 2, none⟩ v7).setCell ⟨lg, 1, none⟩ v6) (hd : ∀ x ∈ L1, x.d ≠ [] → ∀ g, x.dv.ownBlock = some g → g ∈ G') : nS w0 w W' v p room ds c lg v6 v7 (L ++ L1) (sz ++ s1) G (lG wr W' ++ G') ∧ aB (iB lg fv sv L) wr W' := by
 have hl := h.log
 have hbx : W.heap[lg]? = some (pI v fv sv) := (hb.up.block lg (aH hl.box) fun q => (bK.1 q).elim (fun q => hl.s1 (eF.2 (.inl (by simpa using q)))) fun q => hl.s2 (by simpa using q)).trans hl.box
 have hbox : W'.heap[lg]? = some (pI v v6 v7) := by
  rcases hW with rfl | rfl
  ·exact IU hbx
  exact Rj hbx
 have hu : aB [lg] W W' := by
  rcases hW with rfl | rfl
  ·exact ((aB.refl _ _).setCell (by simp) _ _).setCell (by simp) _ _
  exact ((aB.refl _ _).setCell (by simp) _ _).setCell (by simp) _ _
 have hF : aB (lg :: (fv.ownBlock.toList ++ sv.ownBlock.toList)) wr W' := (hb.up.mono fun k hk _ => iZ _ hk).trans (hu.mono fun k hk _ => by rw [aM.1 hk]; exact sO ..)
 have hFl : ∀ i ∈ lg :: (fv.ownBlock.toList ++ sv.ownBlock.toList), i ∈ iB lg fv sv L := fun i hi => by
  rcases aJ.1 hi with e | e
  ·exact dQ.2 (.inl e)
  rcases bK.1 e with e | e
  ·exact dQ.2 (.inr (.inr (eF.2 (.inl (by simpa using e)))))
  exact dQ.2 (.inr (.inl (by simpa using e)))
 have hlog : gC W' w.heap.size lg v v6 v7 (L ++ L1) (sz ++ s1) := hb.log hbox hl.low hu
 refine ⟨⟨fun i hi => fM _ (h.sub i hi), fun i hi => ?_, h.sg.freshF hF fun i hi => ⟨h.foot i (hFl i hi), bG hwl (hl.lt i (hFl i hi)).1⟩, hlog, ?_⟩, hF.mono fun k hk _ => hFl k hk⟩
 ·have hlt := (hlog.lt i hi).2
  have hin : ∀ {q : Prop}, (q → i ∈ iB lg fv sv L) → q ∨ wr.heap.size ≤ i → i ∈ lG wr W' ++ G' := fun f q => q.elim (fun q => fM _ (h.foot i (f q))) fun q => iL _ (mA.2 ⟨q, hlt⟩)
  rcases dQ.1 hi with e | e | e
  ·exact hin (fun _ => dQ.2 (.inl e)) (.inl trivial)
  ·exact hin (fun q => dQ.2 (.inr (.inl q))) (hb.n7 i e)
  rcases pJ.1 e with e | e | e
  ·exact hin (fun q => dQ.2 (.inr (.inr (eF.2 (.inl q))))) (hb.n6 i e)
  ·exact hin (fun _ => dQ.2 (.inr (.inr (jR e)))) (.inl trivial)
  obtain ⟨x, hx, hxg⟩ := lK.1 e
  obtain ⟨h1, h2⟩ := yA.1 hxg
  exact fM _ (hd x hx h1 i h2)
 exact h.st.trans ⟨_, hF, fun i hi q => by have := hG i hi; have := (hl.lt i (hFl i q)).1; omega⟩
end
structure tK (w0 w : World) (v p room : Nat) (ds : List Bs) (c base lg : Nat) (fv sv : Value) (L : List aO) (G : List Nat) : Prop where
 sg : cU w0 w v p room (cO ds) (cO ds) c G
 log : gC w base lg v fv sv L (ds.map List.length)
 foot : ∀ i ∈ iB lg fv sv L, i ∈ G
 low : w0.heap.size ≤ base
theorem Dk {w0 w : World} {v p room c k : Nat} {ds : List Bs} {G : List Nat} (h : cU w0 w v p room (cO ds) (cO ds) c G) (hc : c ≤ 800000) (h1 : 1 ≤ room) (hds : ds.length ≤ 50) (hk : ∀ d ∈ ds, d.length ≤ 512 * k) (hk2 : 512 * k ≤ 32768) (hroom : (dB ds).2.1 = true → k * ds.length + k * ds.length + (k + 1) ≤ room) :
  Calls Tryz.prog 15 #[.pointer (some ⟨v, 0, none⟩)] w fun e w' => ∃ lg fv sv L G', e = .returned (.tuple #[.pointer (some ⟨lg, 0, none⟩), .int .i64 0]) ∧ tK w0 w' v p room (dB ds).1 (c + 2) w.heap.size lg fv sv L G' ∧ L.map aO.fr = (dB ds).2.2 ∧ (∀ i ∈ G, i ∈ G') ∧ bT G w w' := by
 have hlow := h.upd.size
 have hGl := h.lt
 have hu1 := (aB.refl [] w).alloc (pI v (.slice none 0 0) (.slice none 0 0))
 have hst : nS w0 w (w.alloc (pI v (.slice none 0 0) (.slice none 0 0))) v p room ds c w.heap.size (.slice none 0 0) (.slice none 0 0) [] [] G (lG w (w.alloc (pI v (.slice none 0 0) (.slice none 0 0))) ++ G) := by
  refine ⟨fun i hi => fM _ hi, fun i hi => ?_, h.fresh hu1, ⟨aX _ _, dP.nil _ _, aK.nil _ _, aQ _, by simp [eS, Value.ownBlock], by simp [Value.ownBlock], by simp [Value.ownBlock]⟩, .of hu1⟩
  have : i = w.heap.size := by
   rcases dQ.1 hi with e | e | e
   ·exact e
   ·cases e
   simp [eS, Value.ownBlock] at e
  subst this
  exact iL _ (mA.2 ⟨aQ _, by simp⟩)
 have HST := aA (aC hst (aC (IW ds) (dH (5500 * 0))))
 have HG := aA (aC hlow (aC hGl hk))
 have HRm := aA hroom
 clear h hst hu1 hk hGl hlow hroom
 go_in
 go_wp2_with fail
 go_loopg [5, 6, 7, 8, 9, 10, 11] (51 - 0) (fun gh v5 v6 v7 v8 v9 v10 v11 wr => ∃ (n : Nat) (fv sv : Value) (L : List aO) (G' : List Nat), v5 = .int .i64 n ∧ n ≤ ds.length ∧ gh = 51 - n ∧ Hid (nS w0 w wr v p room ds c w.heap.size fv sv L ((ds.take n).map List.length) G G' ∧ pK ds n (L.map aO.fr) ∧ L.length ≤ 5500 * n))
 case atStart => exact ⟨0, _, _, _, _, rfl, dH _, rfl, HST⟩
 case round =>
  obtain ⟨n, fv, sv, L, G', rfl, hn, rfl, HS⟩ := hrel
  have HN := aA fun X : World => xM X n (by omega)
  go_wp2_with fail
  refine (HN.out _).mono ?_
  rintro e w1 ⟨rfl, rfl⟩
  by_cases hnl : n < ds.length
  ·obtain ⟨d, hd⟩ : ∃ d, d = ds[n] := ⟨_, rfl⟩
   obtain ⟨dl, hdl⟩ : ∃ dl, dl = d.length := ⟨_, rfl⟩
   have hm : cO ds n = some d := by rw [hd]; exact bL hnl
   have hdk : dl ≤ 32768 := by have := HG.out.2.2 d (by rw [hd]; exact fX hnl); omega
   have hz := HS.out.1.sg.size (i := n) (by omega)
   rw [hm] at hz
   dsimp only at hz
   rw [← hdl] at hz
   have HZ := aA hz
   have HD := aA (aC hd (aC hdl hm))
   clear hz hd hdl hm
   go_wp2_with fail
   refine HZ.out.mono ?_
   rintro e w2 ⟨rfl, hs2, hst2⟩
   have H2 := aA (HS.out.1.stay hst2 hs2 fun i hi => hi)
   clear hs2 hst2 HZ
   go_wp2_with fail
   refine (HN.out _).mono ?_
   rintro e w3 ⟨rfl, rfl⟩
   have hr := H2.out.sg.read (by omega) (i := n) (by omega) HD.out.2.2
   rw [← HD.out.2.1] at hr
   have HR := aA hr
   clear hr
   go_wp2_with fail
   refine HR.out.mono ?_
   rintro e w4 ⟨rv, rfl, ho4, hs4, hst4⟩
   have H4 := aA (H2.out.stay hst4 hs4 fun i hi => fM _ hi)
   obtain ⟨ra, rc, rm, hrm, rfl⟩ := ho4.sliceM
   have hrm2 : rm = dl := by rw [hrm, HD.out.2.1]
   subst hrm2
   have HO4 := aA ho4
   clear hs4 hst4 HR hrm ho4
   go_wp2_with fail
   refine (Rf _ HO4.out.rd (by rw [← HD.out.2.1]; omega)).mono ?_
   rintro e w5 ⟨f5, L5, rfl, hf5, hL5, hu5⟩
   have H5 := aA (H4.out.keep hu5)
   have HF5 := aA (aC hf5 (aC hL5 hu5))
   obtain ⟨ga, gc, gm, hgm, rfl⟩ := hf5.own.sliceM
   obtain ⟨good, hgood⟩ : ∃ good, good = (cM d).2 := ⟨_, rfl⟩
   rw [← hgood]
   have hgl : good ≤ rm := by rw [hgood, HD.out.2.1]; exact rP d
   have HGD := aA (aC hgood hgm)
   clear hf5 hL5 hu5 hgood hgm
   go_upto_region 13 with (fail)
   have b1 := aD H5.out.log.box 1
   have b2 := aD H5.out.log.box 2
   simp only [bA, bB, bS] at b1 b2
   obtain ⟨fa, fc, fm, hfm, rfl⟩ := H5.out.log.fr.own.sliceM
   obtain ⟨sa, sc, sm, hsm, rfl⟩ := H5.out.log.sz.sliceM
   have HFM := aA (aC hfm hsm)
   clear hfm hsm
   go_cut [53, 60] (fun v53 v60 wx => ∃ (v6 v7 : Value) (G7 : List Nat), Hid (nS w0 w wx v p room ds c w.heap.size v6 v7 (L ++ L5) ((ds.take n).map List.length ++ [good]) G G7 ∧ (∀ g, (Value.slice ra rm rc).ownBlock = some g → g ∈ G7) ∧ Rd wx (.slice ra rm rc) d))
   case first =>
    have hL5l : L5.length ≤ 5461 := by
     have h1 := bM List.length HF5.out.2.1
     rw [dF] at h1
     have h2 := vE d
     have h3 := rP d
     have := HD.out.2.1
     omega
    have hLl : L.length ≤ 275000 := by have := HS.out.2.2; omega
    have hsml : ((ds.take n).map List.length).length ≤ 50 := by rw [dF, bX]; omega
    have HB := aA (show ((L.length + L5.length) * 32 ≤ 140737488355328 ∧ L.length + L5.length ≤ 140737488355328) ∧ (((ds.take n).map List.length).length + 1) * 8 ≤ 140737488355328 ∧ ((ds.take n).map List.length).length + 1 ≤ 140737488355328 by omega)
    have hbl : ∀ g, (Value.slice fa fm fc).ownBlock = some g → g < w5.heap.size := fun g hg => (H5.out.log.fr.own.block g hg).2
    have hbl2 : ∀ g, (Value.slice sa sm sc).ownBlock = some g → g < w4.heap.size := fun g hg => (H4.out.log.sz.block g hg).2
    have HK6 : Hid (∀ X, aB (Value.slice sa sm sc).ownBlock.toList w5 X → qR X w.heap.size (.slice fa fm fc) L ∧ hZ tD X ga L5 ∧ w.heap.size ≤ X.heap.size) := aA fun X u => ⟨H5.out.log.fr.own.upd u fun j hj e => H5.out.log.s3 j (by simpa using hj) (eF.2 (.inl e)), aK.src iH (HF5.out.1.own.upd u fun j hj e => by have := hbl2 j (by simpa using hj); have := (HF5.out.1.own.block j e).1; omega), bG (bG (tV (H5.out.log.lt _ (dQ.2 (.inl rfl))).2) (aQ _)) u.size⟩
    have HK7 : Hid (∀ X, aB (Value.slice fa fm fc).ownBlock.toList w5 X → nE X w.heap.size (.slice sa sm sc) ((ds.take n).map List.length) ∧ w.heap.size ≤ X.heap.size) := aA fun X u => ⟨H5.out.log.sz.upd u fun j hj e => H5.out.log.s3 j e (eF.2 (.inl (by simpa using hj))), bG (tV (H5.out.log.lt _ (dQ.2 (.inl rfl))).2) u.size⟩
    have HKC : Hid (∀ X, aB ((Value.slice fa fm fc).ownBlock.toList ++ (Value.slice sa sm sc).ownBlock.toList) w5 X → (X.cell? ⟨w.heap.size, 1, none⟩ = some (.slice fa fm fc) ∧ X.cell? ⟨w.heap.size, 2, none⟩ = some (.slice sa sm sc)) ∧ (X.frozen? ⟨w.heap.size, 1, none⟩ = false ∧ X.frozen? ⟨w.heap.size, 2, none⟩ = false)) := aA fun X u => by
     have hb := (u.block w.heap.size (aH H5.out.log.box) fun q => by
      rcases bK.1 q with q | q
      ·exact H5.out.log.s1 (eF.2 (.inl (by simpa using q)))
      exact H5.out.log.s2 (by simpa using q)).trans H5.out.log.box
     exact ⟨⟨aD hb 1, aD hb 2⟩, aZ hb 1, aZ hb 2⟩
    have HNB : Hid (w5.heap.size ∉ (Value.slice fa fm fc).ownBlock.toList) := aA fun q => Be _ (hbl _ (by simpa using q))
    have HD5 := aA HF5.out.1.dat
    have HMR : Hid (AE w5 w.heap.size w.heap.size (.slice fa fm fc) (.slice sa sm sc) L5) := aA ⟨HF5.out.1.dat, fun x hx hd g hg => by
     have h1 := (HF5.out.1.sep x hx hd g hg).1
     have h4 := H4.out.log.lt
     exact ⟨bG (tV (h4 _ (dQ.2 (.inl rfl))).2) h1, fun e => by have := (h4 g (dQ.2 (.inr (.inr (eF.2 (.inl e)))))).2; omega, fun e => by have := (h4 g (dQ.2 (.inr (.inl e)))).2; omega, fun e => by have := (h4 _ (dQ.2 (.inl rfl))).2; omega⟩⟩
    have HFIN : Hid (∀ W v6 v7, wA w5 W w.heap.size w.heap.size (.slice fa fm fc) (.slice sa sm sc) v6 v7 (L ++ L5) ((ds.take n).map List.length ++ [good]) → ∀ W', (W' = (W.setCell ⟨w.heap.size, 1, none⟩ v6).setCell ⟨w.heap.size, 2, none⟩ v7 ∨ W' = (W.setCell ⟨w.heap.size, 2, none⟩ v7).setCell ⟨w.heap.size, 1, none⟩ v6) →
      ∃ (v6 v7 : Value) (G7 : List Nat), Hid (nS w0 w W' v p room ds c w.heap.size v6 v7 (L ++ L5) ((ds.take n).map List.length ++ [good]) G G7 ∧ (∀ g, (Value.slice ra rm rc).ownBlock = some g → g ∈ G7) ∧ Rd W' (.slice ra rm rc) d)) := aA fun W v6 v7 hb W' hW => by
     obtain ⟨q1, q2⟩ := H5.out.grow HG.out.1 HG.out.2.1 hb hW fun x hx hd g hg => iL _ (mA.2 ⟨(HF5.out.1.sep x hx hd g hg).1, (HF5.out.1.dat x hx).blk_lt hd hg⟩)
     refine ⟨v6, v7, _, aA ⟨q1, fun g hg => fM _ (fM _ (iL _ (by simp [hg]))), ?_⟩⟩
     refine (HO4.out.rd.keep HF5.out.2.2).upd1 q2 fun hd g hg q => ?_
     have h1 := (HO4.out.block g hg).1
     have h2 := (H2.out.log.lt g q).2
     omega
    obtain ⟨⟨k1, k2⟩, f1, f2⟩ := HKC.out _ (((aB.refl [] w5).drew).mono (by simp))
    have ka : ∀ o, (w5.drew.alloc o).cell? ⟨w.heap.size, 1, none⟩ = some (.slice fa fm fc) ∧ (w5.drew.alloc o).cell? ⟨w.heap.size, 2, none⟩ = some (.slice sa sm sc) := fun o => (HKC.out _ ((((aB.refl [] w5).drew).alloc o).mono (by simp))).1
    have kb : ∀ o, (w5.alloc o).drew.cell? ⟨w.heap.size, 1, none⟩ = some (.slice fa fm fc) ∧ (w5.alloc o).drew.cell? ⟨w.heap.size, 2, none⟩ = some (.slice sa sm sc) := fun o => (HKC.out _ ((((aB.refl [] w5).alloc o).drew).mono (by simp))).1
    have kb1 := fun o => (kb o).1
    have kb2 := fun o => (kb o).2
    have ka1 := fun o => (ka o).1
    have ka2 := fun o => (ka o).2
    clear ka kb
    clear hL5l hLl hsml hbl hbl2 b1 b2
    go_region_law (first
     | (refine lA iH (by rfl) _ _ (by rfl) (base := w.heap.size) (l := L) (r := L5) (by rfl) (HK6.out _ ?_).1 (by rw [← HGD.out.2]; rfl) (HK6.out _ ?_).2.1 (uK HD5.out) HB.out.1.1 HB.out.1.2 (HK6.out _ ?_).2.2 ?_
      ; (first | exact ((aB.refl [] w5).drew).mono (by simp) | exact (((aB.refl [] w5).drew).alloc _).mono (by simp) | exact (((aB.refl [] w5).alloc _).drew).mono (by simp) | exact hv7)
      ; (first | exact ((aB.refl [] w5).drew).mono (by simp) | exact (((aB.refl [] w5).drew).alloc _).mono (by simp) | exact (((aB.refl [] w5).alloc _).drew).mono (by simp) | exact hv7)
      ; (first | exact ((aB.refl [] w5).drew).mono (by simp) | exact (((aB.refl [] w5).drew).alloc _).mono (by simp) | exact (((aB.refl [] w5).alloc _).drew).mono (by simp) | exact hv7)
      ; intro v6 w6 ho6 hg6 hn6
      ; obtain ⟨a6, c6, m6, hm6, rfl⟩ := ho6.sliceM
      ; (try have hv6 : aB (Value.slice fa fm fc).ownBlock.toList w5 w6 := (by first | exact (((aB.refl [] w5).drew).mono (by simp)).grownIn hg6 (fun k hk => .inl (by simp [hk])) | exact ((((aB.refl [] w5).drew).alloc _).mono (by simp)).grownIn hg6 (fun k hk => .inl (by simp [hk])) | exact ((((aB.refl [] w5).alloc _).drew).mono (by simp)).grownIn hg6 (fun k hk => .inl (by simp [hk]))))
      ; have hu6 : aB ((Value.slice fa fm fc).ownBlock.toList ++ (Value.slice sa sm sc).ownBlock.toList) w5 w6 := (by first | exact hv6.mono (fun k hk _ => iL _ hk) | exact (hv7.mono (fun k hk _ => fM _ hk)).grownIn hg6 (fun k hk => .inl (by simp [hk])))
      ; obtain ⟨⟨k16, k26⟩, f16, f26⟩ := HKC.out _ hu6
      ; have qa6 := fun o => (HKC.out _ (hu6.alloc o)).1.1
      ; have qb6 := fun o => (HKC.out _ (hu6.alloc o)).1.2
      ; (try have hB6 := ((aB.ofGrown hg6).block w5.heap.size (by simp) HNB.out).trans (aX _ _))
      ; clear hm6)
     | (refine lA TI (by rfl) _ _ (by rfl) (base := w.heap.size) (l := (ds.take n).map List.length) (r := [good]) (by rfl) (HK7.out _ ?_).1 (by rfl) (iS TI (ty := 3) ?_) (Ag _) HB.out.2.1 HB.out.2.2 (HK7.out _ ?_).2 ?_
      ; (first | exact (((aB.refl [] w5).drew).alloc _).mono (by simp) | exact (((aB.refl [] w5).alloc _).drew).mono (by simp) | exact hv6 | exact hv6.alloc _)
      ; (first | exact aX _ _ | exact hB6)
      ; (first | exact (((aB.refl [] w5).drew).alloc _).mono (by simp) | exact (((aB.refl [] w5).alloc _).drew).mono (by simp) | exact hv6 | exact hv6.alloc _)
      ; intro v7 w7 ho7 hg7 hn7
      ; obtain ⟨a7, c7, m7, hm7, rfl⟩ := ho7.sliceM
      ; (try have hv7 : aB (Value.slice sa sm sc).ownBlock.toList w5 w7 := (by first | exact (((aB.refl [] w5).drew.alloc _).mono (by simp)).grownIn hg7 (fun k hk => .inl (by simp [hk])) | exact ((((aB.refl [] w5).alloc _).drew).mono (by simp)).grownIn hg7 (fun k hk => .inl (by simp [hk]))))
      ; have hu7 : aB ((Value.slice fa fm fc).ownBlock.toList ++ (Value.slice sa sm sc).ownBlock.toList) w5 w7 := (by first | exact hv7.mono (fun k hk _ => fM _ hk) | exact (hv6.mono (fun k hk _ => iL _ hk)).grownIn hg7 (fun k hk => .inl (by simp [hk])) | exact ((hv6.alloc _).mono (fun k hk _ => iL _ hk)).grownIn hg7 (fun k hk => .inl (by simp [hk])))
      ; obtain ⟨⟨k17, k27⟩, f17, f27⟩ := HKC.out _ hu7
      ; have qa7 := fun o => (HKC.out _ (hu7.alloc o)).1.1
      ; have qb7 := fun o => (HKC.out _ (hu7.alloc o)).1.2
      ; clear hm7)
     | fail)
    all_goals
     first
      | have HF := aA (HFIN.out _ _ _ (IT H5.out.log HMR.out ((aB.refl [] w5).drew) ho6 hg6 hn6 ((aB.refl [] w6).alloc _) ho7 hg7 hn7) _ (.inl rfl))
      | have HF := aA (HFIN.out _ _ _ (IT H5.out.log HMR.out (((aB.refl [] w5).alloc _).drew) ho6 hg6 hn6 (aB.refl [] w6) ho7 hg7 hn7) _ (.inl rfl))
      | have HF := aA (HFIN.out _ _ _ (Ri H5.out.log HMR.out (((aB.refl [] w5).alloc _).drew) ho7 hg7 hn7 (aB.refl [] w7) ho6 hg6 hn6) _ (.inl rfl))
     clear ho6 hg6 hn6 ho7 hg7 hn7
     go_wp2_with fail
     go_meet
     case rel => exact HF.out
   case rest =>
    obtain ⟨v6, v7, G7, HC⟩ := hcut
    obtain ⟨w7, hw7⟩ : ∃ w7, w7 = wc := ⟨_, rfl⟩
    subst hw7
    clear b1 b2
    have hL5l : L5.length ≤ 5461 := by
     have h1 := bM List.length HF5.out.2.1
     rw [dF] at h1
     have h2 := vE d
     have h3 := rP d
     have := HD.out.2.1
     omega
    have HLL := aA (show (L ++ L5).length ≤ 5500 * (n + 1) by rw [bD]; have := HS.out.2.2; omega)
    have HML := aA (show (L ++ L5).map aO.fr = L.map aO.fr ++ (cM d).1 by rw [eZ, HF5.out.2.1])
    clear hL5l
    by_cases hgr : good = rm
    ·subst hgr
     have hw := HD.out.1 ▸ HD.out.2.1
     have hop := IX HS.out.2.1 hnl (by rw [← HD.out.1, ← HGD.out.1]; exact HD.out.2.1)
     have hsz : (ds.take n).map List.length ++ [good] = (ds.take (n + 1)).map List.length := by
      rw [Ea hnl, eZ, ← HD.out.1, HD.out.2.1]; rfl
     have HR8 : Hid (nS w0 w w7 v p room ds c w.heap.size v6 v7 (L ++ L5) ((ds.take (n + 1)).map List.length) G G7 ∧ pK ds (n + 1) ((L ++ L5).map aO.fr) ∧ (L ++ L5).length ≤ 5500 * (n + 1)) := aA ⟨by rw [← hsz]; exact HC.out.1, by rw [HML.out, HD.out.1]; exact hop, HLL.out⟩
     clear hw hop hsz
     go_wp2_with fail
     go_roundg (51 - (n + 1))
     case measure => omega
     case rel => exact ⟨n + 1, _, _, _, _, by go_num, by omega, rfl, HR8⟩
    have hgi : ¬ (good : Int) = (rm : Int) := by omega
    have hrow : ∀ j y, j < 100 → cO ds j = some y → j < ds.length ∧ y.length ≤ 512 * k := fun j y _ hy => by
     obtain ⟨h2, h3⟩ := eX.1 hy
     exact ⟨h2, HG.out.2.2 y (by rw [← h3]; exact fX h2)⟩
    have hcl := aD HC.out.1.log.box 0
    simp only [bA, bB] at hcl
    have hgd2 : good ≤ d.length := by rw [← HD.out.2.1]; exact hgl
    have HTO := aA (IZ HS.out.2.1 hnl (by rw [← HD.out.1, ← HGD.out.1, ← HD.out.2.1]; exact hgr))
    have hroom := HRm.out (by rw [HTO.out])
    have HCut := aA fun (ba : Option Addr) (bl bc : Nat) (b : Bs) (hb : Rd w7 (.slice ba bl bc) b) (hbo : b ≠ [] → ∀ g, (Value.slice ba bl bc).ownBlock = some g → g ∈ G7) (hbl : b.length ≤ 512 * k) =>
     Rh (HC.out.1.sg.u h1 hrow) (by omega) hcl (HC.out.1.foot _ (dQ.2 (.inl rfl))) hnl (by omega) hb hbo HG.out.2.2 (by omega) (by omega)
    have hbd : ((d.drop 0).take (good - 0)).length ≤ 512 * k := by
     have := HG.out.2.2 d (by rw [HD.out.1]; exact fX hnl)
     rw [bX, tW]; omega
    have HBD := aA hbd
    clear hrow hcl hbd hroom
    go_wp2_with (first
     | (refine Rk rfl _ _ rfl HC.out.2.2 hgd2 rfl rfl ?_; intro a8 c8 m8 hm8 hr8 hb8; have HR8 := aA (aC hr8 hb8); clear hm8 hr8 hb8)
     | fail)
    refine (HCut.out _ _ _ _ HR8.out.1 (fun _ g hg => HC.out.2.1 g (HR8.out.2 g hg)) HBD.out).mono ?_
    rintro e w8 ⟨rfl, hs8, hst8⟩
    have H8 := aA (aC hs8 hst8)
    clear hs8 hst8
    go_wp2_with fail
    go_ret2
    rw [HTO.out]
    dsimp only
    have e1 : (d.drop 0).take (good - 0) = ds[n].take (cM ds[n]).2 := by rw [tW, yW, HGD.out.1, HD.out.1]
    have h8 := H8.out
    rw [e1] at h8
    refine ⟨_, _, _, _, _, rfl, ⟨h8.1, ?_, HC.out.1.foot, HG.out.1⟩, by rw [HML.out, HD.out.1], HC.out.1.sub, HC.out.1.st.trans (h8.2.sub HC.out.1.sub)⟩
    have h9 := HC.out.1.log.stay h8.2 HC.out.1.foot
    have e2 : (ds.take n ++ [ds[n].take (cM ds[n]).2]).map List.length = (ds.take n).map List.length ++ [good] := by
     rw [eZ, ← e1]
     simp only [dR, kT, tW, yW, bX]
     rw [Bd hgd2]
    rw [e2]
    exact h9
  obtain rfl : n = ds.length := by omega
  have hz := HS.out.1.sg.size (i := ds.length) (by omega)
  rw [show cO ds ds.length = none from gG (aQ _)] at hz
  dsimp only at hz
  have HZ := aA hz
  clear hz
  go_wp2_with fail
  refine HZ.out.mono ?_
  rintro e w2 ⟨rfl, hs2, hst2⟩
  have H2 := aA (HS.out.1.stay hst2 hs2 fun i hi => hi)
  clear hs2 hst2
  go_wp2_with fail
  go_ret2
  have he := IY HS.out.2.1
  have h2 := H2.out
  have hlg := h2.log
  rw [rL] at hlg
  rw [he]
  exact ⟨_, _, _, _, _, rfl, ⟨h2.sg.more (by omega), hlg, h2.foot, HG.out.1⟩, rfl, h2.sub, h2.st⟩
def AF (x : aO) : List Value := [x.dv]
theorem Dl : fA AF 1 24 56 23 where
 len := fun _ => rfl
 pos := by omega
 und := Tryz.underlying56
 info := by
  obtain ⟨i, h, h1, h2, h3⟩ := kD (show (Tryz.prog.info? 23).map (fun i => (i.zero, i.size, i.bytes)) = some (some (.slice none 0 0), 1, 24) by kernel_rfl)
  exact ⟨i, _, h, h1, h2, h3, rfl⟩
theorem Rl {w : World} {l : List aO} (h : ∀ x ∈ l, Rd w x.dv x.d) : ∀ x ∈ l, ∀ u ∈ AF x, u.oneCell' = true := by
 intro x hx u hu
 obtain ⟨a, c, e, -⟩ := (h x hx).slice
 simp only [AF, e, aM] at hu
 subst hu; rfl
abbrev AG (w : World) (base : Nat) (v : Value) (l : List aO) : Prop := aK AF 23 1 w base v l
structure kM (w : World) (base : Nat) (fv : Value) (L : List aO) : Prop where
 own : AG w base fv L
 dat : ∀ x ∈ L, Rd w x.dv x.d
 sep : ∀ x ∈ L, x.d ≠ [] → ∀ g, x.dv.ownBlock = some g → base ≤ g ∧ fv.ownBlock ≠ some g
section
variable {w w' : World} {base : Nat} {fv fv' : Value} {L R : List aO}
theorem kM.nil (w : World) (base : Nat) : kM w base (.slice none 0 0) [] := ⟨aK.nil _ _, by simp, by simp⟩
theorem kM.upd (h : kM w base fv L) {F : List Nat} (u : aB F w w') (hF : ∀ i ∈ eS fv L, i ∉ F) : kM w' base fv L :=
 ⟨h.own.upd u fun j hj e => hF j (eF.2 (.inl e)) hj, fun x hx => (h.dat x hx).upd1 u fun hd g hg => hF g (eF.2 (.inr ⟨x, hx, hd, hg⟩)), h.sep⟩
theorem kM.keep (h : kM w base fv L) (u : aB [] w w') : kM w' base fv L := h.upd u (by simp)
theorem kM.lt (h : kM w base fv L) : ∀ i ∈ eS fv L, base ≤ i ∧ i < w.heap.size := fun i hi => by
 rcases eF.1 hi with e | ⟨x, hx, hd, hg⟩
 ·exact h.own.block i e
 exact ⟨(h.sep x hx hd i hg).1, (h.dat x hx).blk_lt hd hg⟩
theorem kM.app (h : kM w base fv L) (hg : w.grownBy w' fv.ownBlock) (ho : AG w' base fv' (L ++ R)) (hn : fv'.ownBlock = fv.ownBlock ∨ ∀ g, fv'.ownBlock = some g → w.heap.size ≤ g) (hR : ∀ x ∈ R, Rd w x.dv x.d) (hs : ∀ x ∈ R, x.d ≠ [] → ∀ g, x.dv.ownBlock = some g → base ≤ g ∧ fv.ownBlock ≠ some g) : kM w' base fv' (L ++ R) := by
 have hu := aB.ofGrown hg
 have hd : ∀ x ∈ L ++ R, Rd w x.dv x.d ∧ (x.d ≠ [] → ∀ g, x.dv.ownBlock = some g → base ≤ g ∧ fv.ownBlock ≠ some g) := fun x hx => by
  rcases bK.1 hx with q | q
  ·exact ⟨h.dat x q, h.sep x q⟩
  exact ⟨hR x q, hs x q⟩
 refine ⟨ho, fun x hx => (hd x hx).1.upd1 hu fun hx2 g hg q => ?_, fun x hx hx2 g hg => ⟨((hd x hx).2 hx2 g hg).1, fun q => ?_⟩⟩
 ·exact ((hd x hx).2 hx2 g hg).2 (by simpa using q)
 rcases hn with e | e
 ·exact ((hd x hx).2 hx2 g hg).2 (by rw [← e]; exact q)
 have := e g q
 have := (hd x hx).1.blk_lt hx2 hg
 omega
end
structure uV (W1 wr : World) (A : List eE) (i : Nat) (v6 v7 : Value) (L1 M1 : List aO) : Prop where
 up : aB [] W1 wr
 fr : dP wr W1.heap.size v6 L1
 ld : kM wr W1.heap.size v7 M1
 e6 : L1.map aO.fr = A.take i
 e7 : M1.map aO.d = (A.map fun x => cC x.1 x.2).take i
 ap : ∀ g ∈ eS v6 L1, g ∉ eS v7 M1
theorem uV.len6 {W1 wr : World} {A : List eE} {i : Nat} {v6 v7 : Value} {L1 M1 : List aO} (h : uV W1 wr A i v6 v7 L1 M1) (hi : i ≤ A.length) : L1.length = i ∧ M1.length = i := by
 have h1 := bM List.length h.e6
 have h2 := bM List.length h.e7
 simp only [dF, bX] at h1 h2
 omega
theorem uV.next {W1 wr w3 X w4 Y w5 : World} {A : List eE} {i : Nat} {v6 v7 v6' v7' : Value} {L1 M1 : List aO} (h : uV W1 wr A i v6 v7 L1 M1) {x y : aO} (hx : A[i]? = some x.fr) (hy : y.d = cC x.k x.d) (hu3 : aB [] wr w3) (rx : Rd w3 x.dv x.d) (ry : Rd w3 y.dv y.d)
  (nx : ∀ g, x.dv.ownBlock = some g → wr.heap.size ≤ g) (ny : ∀ g, y.dv.ownBlock = some g → wr.heap.size ≤ g) (nxy : ∀ g, x.dv.ownBlock = some g → y.dv.ownBlock ≠ some g)
  (hX : aB [] w3 X) (ho6 : qR w4 W1.heap.size v6' (L1 ++ [x])) (hg6 : X.grownBy w4 v6.ownBlock) (hn6 : v6'.ownBlock = v6.ownBlock ∨ ∀ g, v6'.ownBlock = some g → X.heap.size ≤ g)
  (hY : aB [] w4 Y) (ho7 : AG w5 W1.heap.size v7' (M1 ++ [y])) (hg7 : Y.grownBy w5 v7.ownBlock) (hn7 : v7'.ownBlock = v7.ownBlock ∨ ∀ g, v7'.ownBlock = some g → Y.heap.size ≤ g) : uV W1 w5 A (i + 1) v6' v7' (L1 ++ [x]) (M1 ++ [y]) := by
 have hus := h.up.size
 have h3s := hu3.size
 have hXs := hX.size
 have hu6 := aB.ofGrown hg6
 have h6s := hu6.size
 have hYs := hY.size
 have hu7 := aB.ofGrown hg7
 have hX0 : aB [] wr X := hu3.trans hX
 have b6 : ∀ g, v6.ownBlock = some g → g < wr.heap.size := fun g hg => (h.fr.own.block g hg).2
 have b7 : ∀ g, v7.ownBlock = some g → g < wr.heap.size := fun g hg => (h.ld.own.block g hg).2
 have f6 : dP w4 W1.heap.size v6' (L1 ++ [x]) := (h.fr.keep hX0).app hg6 ho6 hn6 (by simp only [aM, forall_eq]; exact rx.keep hX) (by
  simp only [aM, forall_eq]
  intro _ g hg
  have := nx g hg
  exact ⟨by omega, fun e => by have := b6 g e; omega⟩)
 have n6 : ∀ g, v6'.ownBlock = some g → v6.ownBlock = some g ∨ w3.heap.size ≤ g := fun g hg => hn6.elim (fun e => .inl (by rw [← e]; exact hg)) fun e => .inr (by have := e g hg; omega)
 have d6 : ∀ i ∈ eS v7 M1, i ∉ v6.ownBlock.toList := fun i hi q => h.ap i (eF.2 (.inl (by simpa using q))) hi
 have ry4 : Rd w4 y.dv y.d := (ry.keep hX).upd1 hu6 fun _ g hg q => by have := ny g hg; have := b6 g (by simpa using q); omega
 have l4 : kM Y W1.heap.size v7 M1 := ((h.ld.keep hX0).upd hu6 d6).keep hY
 have f7 : kM w5 W1.heap.size v7' (M1 ++ [y]) := l4.app hg7 ho7 hn7 (by simp only [aM, forall_eq]; exact ry4.keep hY) (by
  simp only [aM, forall_eq]
  intro _ g hg
  have := ny g hg
  exact ⟨by omega, fun e => by have := b7 g e; omega⟩)
 have c6 : ∀ g ∈ eS v6' (L1 ++ [x]), (g ∈ eS v6 L1 ∧ g < wr.heap.size) ∨ (x.dv.ownBlock = some g ∧ g < w3.heap.size ∧ wr.heap.size ≤ g) ∨ (w3.heap.size ≤ g ∧ g < w4.heap.size) := fun g hg => by
  rcases pJ.1 hg with e | e | e
  ·rcases n6 g e with q | q
   ·exact .inl ⟨eF.2 (.inl q), b6 g q⟩
   exact .inr (.inr ⟨q, (f6.own.block g e).2⟩)
  ·exact .inl ⟨jR e, (h.fr.lt g (jR e)).2⟩
  obtain ⟨z, hz, hzg⟩ := lK.1 e
  rw [aM.1 hz] at hzg
  obtain ⟨h1, h2⟩ := yA.1 hzg
  exact .inr (.inl ⟨h2, rx.blk_lt h1 h2, nx g h2⟩)
 have hap : ∀ g ∈ eS v6' (L1 ++ [x]), g ∉ eS v7' (M1 ++ [y]) := fun g hg q => by
  have c := c6 g hg
  rcases pJ.1 q with e | e | e
  ·rcases hn7 with e7 | e7
   ·have e' : v7.ownBlock = some g := by rw [← e7]; exact e
    rcases c with c | c | c
    ·exact h.ap g c.1 (eF.2 (.inl e'))
    ·have := b7 g e'; omega
    have := b7 g e'; omega
   have := e7 g e
   rcases c with c | c | c <;> omega
  ·rcases c with c | c | c
   ·exact h.ap g c.1 (jR e)
   ·have := (h.ld.lt g (jR e)).2; omega
   have := (h.ld.lt g (jR e)).2; omega
  obtain ⟨z, hz, hzg⟩ := lK.1 e
  rw [aM.1 hz] at hzg
  obtain ⟨h1, h2⟩ := yA.1 hzg
  have := ny g h2
  have := ry.blk_lt h1 h2
  rcases c with c | c | c
  ·omega
  ·exact nxy g c.1 h2
  omega
 refine ⟨?_, f6.upd (F := v7.ownBlock.toList) ((hY.mono (by simp)).trans hu7) fun i hi q => ?_, f7, ?_, ?_, hap⟩
 ·exact ((h.up.trans hX0).grown hg6 fun g hg => (h.fr.own.block g hg).1).trans hY |>.grown hg7 fun g hg => (h.ld.own.block g hg).1
 ·have q' : v7.ownBlock = some i := by simpa using q
  have := b7 i q'
  rcases c6 i hi with c | c | c
  ·exact h.ap i c.1 (eF.2 (.inl q'))
  ·omega
  omega
 ·rw [eZ, h.e6, iK, hx]; rfl
 rw [eZ, h.e7, iK, lL, hx]
 simp [hy, aO.fr]
theorem aK.setLastI {w : World} {base g c n : Nat} {l : List Nat} {x : Nat} (h : nE w base (.slice (some ⟨g, 0, none⟩) n c) (l ++ [x])) (y : Nat) : nE (w.setCell ⟨g, l.length, none⟩ (.int .i64 y)) base (.slice (some ⟨g, 0, none⟩) n c) (l ++ [y]) := by
 obtain ⟨h1, h2⟩ := h
 have e0 : (l ++ [y]).length = (l ++ [x]).length := by simp
 refine ⟨by rw [gJ TI], ?_⟩
 rcases h2 with ⟨h2, -⟩ | ⟨g', cap, cur, hv, hg, hh, r1, r2, r3, r4⟩
 ·cases h2
 cases hv
 refine .inr ⟨g, c, cur.setIfInBounds l.length (.int .i64 y), by rw [e0], hg, ?_, by rw [e0]; exact r1, r2, by simpa using r3, ?_⟩
 ·rw [bJ, aF rfl, hh]; rfl
 rw [e0, wO, yV, r4]
 have hf : aP cI (l ++ [x]) = aP cI l ++ [.int .i64 x] := by rw [pU]; simp [aP]
 have hf2 : aP cI (l ++ [y]) = aP cI l ++ [.int .i64 y] := by rw [pU]; simp [aP]
 have hl : (aP cI l).length = l.length := by rw [gJ TI, jI]
 rw [hf, hf2, DS _ _ (by omega), hl, tR]; rfl
end Go.Proofs.YtgpefiacbipfpaaGreatDoor
