/- One call on both. -/
import Derived.Laws.Strings3
import Derived.Deep.RegionWith
import Derived.Test.YtgpefiacbipfpaaGreatDoorC41
set_option maxRecDepth 100000
set_option maxHeartbeats 8000000
namespace Go.Proofs.YtgpefiacbipfpaaGreatDoor
open Go.RowKit Go.Maps
theorem Sq {l : Nat → aL} {room k s : Nat} {fs last : aG} {now lst : List RF} (h : eY l room k s fs last) (hs : yG fs last now lst) : JG room fs last now lst := by
 refine ⟨fun rl hp hr => (Sm h.now hr hp hs.now).symm, (Sh h hs).symm, fun i hi => ?_⟩
 obtain ⟨f, hg, hd, -⟩ := JA h.now hi
 have hm := (h.now.ok _ (eU hg)).most
 have hc : fW fs ((iP fs).getD i []) 0 1073741824 = 0 := by unfold fW; rw [hg]; dsimp only; rw [aE (by omega)]
 rw [(Sj h.now hs _ 0 1073741824).2.1 hc]
 unfold oF
 rw [hg]
 dsimp only
 rw [show (0 : Int).toNat = 0 from rfl, tW, dY (by simp only at hm; omega), hd]
theorem Sr {fs last : aG} {now : List RF} {room : Nat} (hok : dC room fs) (h : now.Perm (fs.map (mC last))) : ∃ rl : List Bs, rl.Perm (now.map (·.nm)) ∧ rl.Pairwise iX := by
 have h1 := h.map (·.nm)
 rw [pQ] at h1
 refine ⟨iP fs, h1.symm, ?_⟩
 unfold iP
 rw [wP]
 exact List.Pairwise.imp (fun h => Dz h) hok.srt
def bE (f : Bs → Nat) : Nat → List Bs → List RF
 | _, [] => []
 | i, d :: l => ⟨bW i, d, f d⟩ :: bE f (i + 1) l
def cJ (d : Bs) : Nat := bP d.length
theorem iY (f : Bs → Nat) : ∀ (l : List Bs) (i : Nat), (bE f i l).length = l.length := by
 intro l
 induction l with
 | nil => intro i; rfl
 | cons d l ih => intro i; simp [bE, ih]
theorem wE (f : Bs → Nat) : ∀ (a b : List Bs) (i : Nat), bE f i (a ++ b) = bE f i a ++ bE f (i + a.length) b := by
 intro a
 induction a with
 | nil => intro b i; rfl
 | cons d a ih => intro b i; simp only [List.cons_append, bE, ih, eG]; rw [show i + 1 + a.length = i + (a.length + 1) by omega]
theorem JH (f : Bs → Nat) : ∀ (l : List Bs) (i : Nat) (x : RF), x ∈ bE f i l → ∃ j d, i ≤ j ∧ j < i + l.length ∧ d ∈ l ∧ x = ⟨bW j, d, f d⟩ := by
 intro l
 induction l with
 | nil => intro i x h; cases h
 | cons d l ih =>
  intro i x h
  rcases aJ.1 h with rfl | h
  ·exact ⟨i, d, aQ _, by simp, by simp, rfl⟩
  obtain ⟨j, e, h1, h2, h3, h4⟩ := ih (i + 1) x h
  exact ⟨j, e, by omega, by simp only [eG]; omega, iZ _ h3, h4⟩
theorem AO (f : Bs → Nat) : ∀ (l : List Bs) (i : Nat), (bE f i l).map oK = bE cJ i l := by
 intro l
 induction l with
 | nil => intro i; rfl
 | cons d l ih => intro i; simp only [bE, dR, ih]; rfl
theorem DD (f : Bs → Nat) {l : List Bs} {i j : Nat} (hi : i + l.length ≤ 100) (hj : j < 100) (h : j < i ∨ i + l.length ≤ j) : ∀ x ∈ bE f i l, x.nm ≠ bW j := fun x hx e => by
 obtain ⟨k, d, h1, h2, -, rfl⟩ := JH f l i x hx
 have := Bq (by omega) hj e
 omega
theorem DE (f : Bs → Nat) (A : List Bs) {k : Nat} (d : Bs) (B : List Bs) (hA : A.length ≤ k) (hk : k < 100) : fL (bE f 0 A ++ bE f k (d :: B)) (bW k) = some A.length := by
 have := Dx (a := bE f 0 A) (b := bE f (k + 1) B) (x := ⟨bW k, d, f d⟩) (nm := bW k) rfl (DD f (by omega) hk (.inr (by omega)))
 rwa [iY] at this
theorem JI (f : Bs → Nat) (A : List Bs) {k : Nat} (hA : A.length ≤ k) (hk : k < 100) : fL (bE f 0 A) (bW k) = none := AI.2 (DD f (by omega) hk (.inr (by omega)))
theorem Ss (f : Bs → Nat) (A : List Bs) (k : Nat) (d : Bs) (B : List Bs) : (bE f 0 A ++ bE f k (d :: B)).getD A.length RF.nil = ⟨bW k, d, f d⟩ := by
 rw [dI, oN (by rw [iY]; exact aQ _), iY, tR]
 rfl
theorem JJ (f : Bs → Nat) (A : List Bs) {k : Nat} (d : Bs) (B : List Bs) (hA : A.length ≤ k) (hk : k < 100) : tN (bE f 0 A ++ bE f k (d :: B)) (bW k) = bE f 0 A ++ bE f (k + 1) B := by
 unfold tN
 rw [DE f A d B hA hk]
 dsimp only
 have hl := iY f A 0
 rw [List.take_append_of_le_length (by omega), dY (by omega), List.drop_append, Ke (by omega), List.nil_append, hl, show A.length + 1 - A.length = 1 by omega]
 rfl
theorem JK (f : Bs → Nat) (A : List Bs) (hA : A.length < 60) : oJ (bE f 0 A) (bW A.length) = 0 ∧ qA (bE f 0 A) (bW A.length) = bE f 0 A ++ [⟨bW A.length, [], 0⟩] := by
 have h1 := wR A.length
 have h : oJ (bE f 0 A) (bW A.length) = 0 := by
  unfold oJ
  rw [aF (by omega), JI f A (aQ _) (by omega)]
  dsimp only
  rw [iY, aE (by omega)]
 exact ⟨h, by unfold qA; rw [aF h]⟩
theorem JL (f : Bs → Nat) {K : Nat} : ∀ (l : List Bs) (i : Nat), (∀ d ∈ l, d.length ≤ 512 * K) → eT (bE f i l) ≤ K * l.length := by
 intro l
 induction l with
 | nil => intro i _; simp [eT, bE]
 | cons d l ih =>
  intro i h
  have h1 := ih (i + 1) fun x hx => h x (iZ _ hx)
  have h2 := h d (by simp)
  unfold eT at h1 ⊢
  simp only [bE, dR, sM, eG]
  have h3 : bP d.length ≤ K := by unfold bP; omega
  rw [yT, jI]
  omega
theorem St : ∀ (l : List Bs) (i : Nat), jH (bE cJ i l) = eT (bE cJ i l) := by
 intro l
 induction l with
 | nil => intro i; rfl
 | cons d l ih =>
  intro i
  have := ih (i + 1)
  unfold jH eT at this ⊢
  simp only [bE, dR, sM, this]
  rfl
theorem JM (f : Bs → Nat) (A : List Bs) (hA : A.length < 60) (d : Bs) {room : Nat} {lst : List RF} (hd : d.length ≤ 32768) (hr : (bP d.length : Int) ≤ iC room (bE f 0 A) lst) :
  qB room (bE f 0 A ++ [⟨bW A.length, [], 0⟩]) lst (bW A.length) d.length = 0 ∧ tM room (bE f 0 A ++ [⟨bW A.length, [], 0⟩]) lst (bW A.length) d = bE f 0 A ++ [⟨bW A.length, d, 0⟩] := by
 have hi : fL (bE f 0 A ++ [⟨bW A.length, [], 0⟩]) (bW A.length) = some A.length := by
  have := Dx (a := bE f 0 A) (b := []) (x := ⟨bW A.length, [], 0⟩) (nm := bW A.length) rfl (DD f (by omega) (by omega) (.inr (by omega)))
  rwa [iY] at this
 have hg : (bE f 0 A ++ [(⟨bW A.length, [], 0⟩ : RF)]).getD A.length RF.nil = ⟨bW A.length, [], 0⟩ := by
  rw [dI, oN (by rw [iY]; exact aQ _), iY, tR]
  rfl
 have hfr : iC room (bE f 0 A ++ [⟨bW A.length, [], 0⟩]) lst = iC room (bE f 0 A) lst := by
  unfold iC
  rw [Dy, Ju]
  have h0 : bP (List.length ([] : Bs)) = 0 := rfl
  dsimp only
  rw [h0]
  omega
 have hc : qB room (bE f 0 A ++ [⟨bW A.length, [], 0⟩]) lst (bW A.length) d.length = 0 := by
  unfold qB
  rw [hi]
  dsimp only
  rw [hg, hfr]
  dsimp only
  rw [lJ, iJ, aE (by omega), aE (by have : bP 0 = 0 := rfl; omega)]
 refine ⟨hc, ?_⟩
 unfold tM
 rw [hi]
 dsimp only
 rw [hc, aF rfl, hg]
 dsimp only
 rw [DS _ _ (by rw [iY]; exact aQ _), iY, tR]
 rfl
theorem JN {room : Nat} : ∀ (n : Nat) (ds : List Bs) (fs : aG), ds.length = n → n ≤ 100 → cP bQ fs → gP fs (cO ds) → yH fs (bE cJ 0 ds) := by
 intro n
 induction n with
 | zero =>
  intro ds fs hl _ hs h
  have : fs = [] := by
   cases fs with
   | nil => rfl
   | cons q fs =>
    have hq := mW dD hs (sO (a := q) (l := fs))
    obtain ⟨j, hj, e⟩ := h.only q.1 (by rw [hq]; simp)
    have := h.at_ j hj
    rw [← e, hq, Kc.1 hl] at this
    cases this
  subst this
  rw [Kc.1 hl]
  exact .refl _
 | succ n ih =>
  intro ds fs hl hn hs h
  obtain ⟨ds', d, rfl⟩ : ∃ ds' d, ds = ds' ++ [d] := ⟨ds.dropLast, ds.getLast (by intro e; rw [e] at hl; cases hl), (List.dropLast_concat_getLast _).symm⟩
  have hl' : ds'.length = n := by simpa using hl
  obtain ⟨f, hf, hfd⟩ := h.get (i := n) (by omega) (d := d) (by unfold cO; rw [oN (by omega), hl', tR]; rfl)
  have h2 := (h.del (i := n) (by omega)).ext (k := cO ds') fun i hi => by
   unfold fK cO
   by_cases e : i = n
   ·rw [aF e, gG (by omega)]
   rw [aE e]
   by_cases q : i < n
   ·rw [kQ (by omega)]
   rw [gG (by rw [bD, hl']; simp; omega), gG (by omega)]
  have h3 := ih ds' _ hl' (by omega) (EH hs _) h2
  have h4 := (Si hs hf []).map fun x : RF => (x.nm, x.data)
  rw [pQ, dR, pQ] at h4
  unfold yH at h3 ⊢
  rw [wE, eZ]
  refine ((h3.append_right _).trans ?_).trans h4.symm
  rw [iJ, hl']
  refine (Kf _ _).trans (.of_eq ?_)
  rw [← hfd]
  rfl
theorem Su (f : Bs → Nat) {ds : List Bs} {n : Nat} (hn : n < ds.length) : bE f 0 ds = bE f 0 (ds.take n) ++ bE f n (ds[n] :: ds.drop (n + 1)) := by
 have h1 : ds = ds.take n ++ (ds[n] :: ds.drop (n + 1)) := by rw [← pP hn, kW]
 have h2 : (ds.take n).length = n := by rw [bX]; omega
 conv => lhs; rw [h1]
 rw [wE, h2, iJ]
theorem Sv (f : Bs → Nat) {ds : List Bs} {n : Nat} (hn : n < ds.length) (h100 : ds.length ≤ 100) : fL (bE f 0 ds) (bW n) = some n ∧ (bE f 0 ds).getD n RF.nil = ⟨bW n, ds[n], f ds[n]⟩ := by
 have h2 : (ds.take n).length = n := by rw [bX]; omega
 have h3 := DE f (ds.take n) ds[n] (ds.drop (n + 1)) (k := n) (by omega) (by omega)
 have h4 := Ss f (ds.take n) n ds[n] (ds.drop (n + 1))
 rw [← Su f hn, h2] at h3 h4
 exact ⟨h3, h4⟩
theorem AP (f : Bs → Nat) {ds : List Bs} {n : Nat} (hn : n < ds.length) (h100 : ds.length ≤ 100) : fQ (bE f 0 ds) (bW n) = (n : Int) ∧ tL (bE f 0 ds) (bW n) = (ds[n].length, 0) ∧ sL (bE f 0 ds) (bW n) 0 (ds[n].length : Nat) = 0 ∧ oI (bE f 0 ds) (bW n) 0 (ds[n].length : Nat) = ds[n] := by
 obtain ⟨h1, h2⟩ := Sv f hn h100
 refine ⟨by unfold fQ; rw [h1], by unfold tL; rw [h1]; dsimp only; rw [h2], ?_, ?_⟩
 ·unfold sL
  rw [h1]
  dsimp only
  rw [h2, aE (by dsimp only; omega)]
 unfold oI
 rw [h1]
 dsimp only
 rw [h2, aE (by dsimp only; omega)]
 simp
theorem Sw (f : Bs → Nat) {ds : List Bs} {m : Nat} (hm : m ≤ ds.length) : bE f 0 ds = bE f 0 (ds.take m) ++ bE f m (ds.drop m) := by
 have h2 : (ds.take m).length = m := by rw [bX]; omega
 conv => lhs; rw [← kW m ds]
 rw [wE, h2, iJ]
theorem Sx (f : Bs → Nat) {ds : List Bs} {n : Nat} (hn : n < ds.length) (k : Nat) : bE f 0 (ds.take (n + 1)) ++ bE f k (ds.drop ds.length) = bE f 0 (ds.take n) ++ bE f n [ds[n]] := by
 have h2 : (ds.take n).length = n := by rw [bX]; omega
 rw [DN, Ea hn, wE, h2, iJ]
 simp [bE]
theorem JO (f : Bs → Nat) {ds : List Bs} {n : Nat} (hn : ds.length ≤ n) (h100 : n < 100) : fQ (bE f 0 ds) (bW n) = -1 := by
 unfold fQ
 rw [JI f ds hn h100]
theorem uX (f : Bs → Nat) {ds : List Bs} (h : ∀ d ∈ ds, d.length ≤ 3000 ∧ f d ≤ 64) (i : Nat) : ∀ x ∈ bE f i ds, x.data.length ≤ 32768 ∧ x.old ≤ 64 := fun x hx => by
 obtain ⟨j, d, -, -, hd, rfl⟩ := JH f ds i x hx
 have := h d hd
 exact ⟨by dsimp only; omega, this.2⟩
structure lH (W : World) (base rp room : Nat) (nv lv : Value) (now lst : List RF) (w : World) (nv' lv' : Value) : Prop where
 r : dX w base rp room nv' lv' now lst
 u : aB (kB rp nv lv) W w
 f : ∀ i ∈ kB rp nv' lv', i ∈ kB rp nv lv ∨ W.heap.size ≤ i
section
variable {W w w' : World} {base rp room : Nat} {nv lv nv' lv' : Value} {now lst now2 lst2 : List RF}
theorem lH.keep (h : lH W base rp room nv lv now lst w nv' lv') (u : aB [] w w') : lH W base rp room nv lv now lst w' nv' lv' := ⟨h.r.keep u, h.u.trans (u.mono (by simp)), h.f⟩
theorem lH.step (h : lH W base rp room nv lv now lst w nv' lv') (g : iW w base rp room nv' lv' now2 lst2 w') : ∃ nv2 lv2, lH W base rp room nv lv now2 lst2 w' nv2 lv2 := by
 obtain ⟨nv2, lv2, g1, g2, g3⟩ := g
 refine ⟨nv2, lv2, g1, h.u.next g2 fun i hi hlt => ?_, fun i hi => ?_⟩
 ·rcases h.f i hi with q | q
  ·exact q
  omega
 rcases g3 i hi with q | q
 ·exact h.f i q
 exact .inr (bG h.u.size q)
theorem lH.refl (h : dX w base rp room nv lv now lst) : lH w base rp room nv lv now lst w nv lv := ⟨h, aB.refl _ _, fun i hi => .inl hi⟩
end
theorem lH.pre {V W w : World} {base rp room : Nat} {nv lv nv' lv' : Value} {now lst : List RF} (h : lH W base rp room nv lv now lst w nv' lv') (u : aB [] V W) : lH V base rp room nv lv now lst w nv' lv' := ⟨h.r, (u.mono (by simp)).trans h.u, fun i hi => (h.f i hi).imp id fun q => bG u.size q⟩
abbrev wF (rp : Nat) (fv sv : Value) : Obj := .cells #[.pointer (some ⟨rp, 0, none⟩), fv, sv] 131 (0, 0)
structure iQ (w : World) (base l rp : Nat) (fv sv : Value) (L : List aO) (sz : List Nat) : Prop where
 box : w.heap[l]? = some (wF rp fv sv)
 fr : dP w base fv L
 sz : nE w base sv sz
 low : base ≤ l
 s1 : l ∉ eS fv L
 s2 : sv.ownBlock ≠ some l
 s3 : ∀ g, sv.ownBlock = some g → g ∉ eS fv L
section
variable {w w' w6 : World} {base l rp : Nat} {fv sv v6 : Value} {L L1 : List aO} {sz z1 : List Nat}
theorem iQ.upd (h : iQ w base l rp fv sv L sz) {F : List Nat} (u : aB F w w') (hF : ∀ i ∈ iB l fv sv L, i ∉ F) : iQ w' base l rp fv sv L sz :=
 ⟨(u.block l (aH h.box) (hF _ (dQ.2 (.inl rfl)))).trans h.box, h.fr.upd u fun i hi => hF i (dQ.2 (.inr (.inr hi))), h.sz.upd u fun j hj e => hF j (dQ.2 (.inr (.inl e))) hj, h.low, h.s1, h.s2, h.s3⟩
theorem iQ.keep (h : iQ w base l rp fv sv L sz) (u : aB [] w w') : iQ w' base l rp fv sv L sz := h.upd u (by simp)
theorem iQ.lt (h : iQ w base l rp fv sv L sz) : ∀ i ∈ iB l fv sv L, base ≤ i ∧ i < w.heap.size := fun i hi => by
 rcases dQ.1 hi with rfl | e | e
 ·exact ⟨h.low, aH h.box⟩
 ·exact h.sz.block i e
 exact h.fr.lt i e
theorem iQ.boxG (h : iQ w base l rp fv sv L sz) {v : Value} (hg : w.grownBy w6 v.ownBlock) (hv : v.ownBlock ≠ some l) : w6.heap[l]? = some (wF rp fv sv) := ((aB.ofGrown hg).block l (aH h.box) fun q => hv (by simpa using q)).trans h.box
theorem iQ.putF (h : iQ w base l rp fv sv L sz) (ho : qR w6 base v6 (L ++ L1)) (hg : w.grownBy w6 fv.ownBlock) (hn : v6.ownBlock = fv.ownBlock ∨ ∀ g, v6.ownBlock = some g → w.heap.size ≤ g) (hR : ∀ x ∈ L1, Rd w x.dv x.d)
  (hs : ∀ x ∈ L1, x.d ≠ [] → ∀ g, x.dv.ownBlock = some g → base ≤ g ∧ fv.ownBlock ≠ some g ∧ sv.ownBlock ≠ some g ∧ g ≠ l) : iQ (w6.setCell ⟨l, 1, none⟩ v6) base l rp v6 sv (L ++ L1) sz := by
 have hA := h.fr.app hg ho hn hR fun x hx hd g hgg => ⟨(hs x hx hd g hgg).1, (hs x hx hd g hgg).2.1⟩
 have hu := aB.ofGrown hg
 have hll := aH h.box
 have hlf : l ∉ fv.ownBlock.toList := fun q => h.s1 (eF.2 (.inl (by simpa using q)))
 have hbx : w6.heap[l]? = some (wF rp fv sv) := (hu.block l hll hlf).trans h.box
 have us : aB [l] w6 (w6.setCell ⟨l, 1, none⟩ v6) := (aB.refl _ _).setCell (by simp) _ _
 have hnew : ∀ g, g ∈ eS v6 (L ++ L1) → g ∈ eS fv L ∨ w.heap.size ≤ g ∨ (sv.ownBlock ≠ some g ∧ g ≠ l) := fun g hgm => by
  rcases eF.1 hgm with e | ⟨x, hx, hd, e⟩
  ·rcases hn with q | q
   ·exact .inl (eF.2 (.inl (by rw [← q]; exact e)))
   exact .inr (.inl (q g e))
  rcases bK.1 hx with q | q
  ·exact .inl (eF.2 (.inr ⟨x, q, hd, e⟩))
  exact .inr (.inr (hs x q hd g e).2.2)
 have hs1 : l ∉ eS v6 (L ++ L1) := fun q => by
  rcases hnew l q with e | e | e
  ·exact h.s1 e
  ·omega
  exact e.2 rfl
 refine ⟨by rw [bJ, aF rfl, hbx]; rfl, hA.upd us fun i hi q => hs1 (by rw [← aM.1 q]; exact hi), (h.sz.upd hu fun j hj e => h.s3 j e (eF.2 (.inl (by simpa using hj)))).upd us fun j hj e => h.s2 (by rw [← aM.1 hj]; exact e), h.low, hs1, h.s2, fun g e q => ?_⟩
 rcases hnew g q with q | q | q
 ·exact h.s3 g e q
 ·have := (h.sz.block g e).2; omega
 exact q.1 e
theorem iQ.putS (h : iQ w base l rp fv sv L sz) (ho : nE w6 base v6 (sz ++ z1)) (hg : w.grownBy w6 sv.ownBlock) (hn : v6.ownBlock = sv.ownBlock ∨ ∀ g, v6.ownBlock = some g → w.heap.size ≤ g) : iQ (w6.setCell ⟨l, 2, none⟩ v6) base l rp fv v6 L (sz ++ z1) := by
 have hu := aB.ofGrown hg
 have hll := aH h.box
 have hlf : l ∉ sv.ownBlock.toList := fun q => h.s2 (by simpa using q)
 have hbx : w6.heap[l]? = some (wF rp fv sv) := (hu.block l hll hlf).trans h.box
 have us : aB [l] w6 (w6.setCell ⟨l, 2, none⟩ v6) := (aB.refl _ _).setCell (by simp) _ _
 have hA := h.fr.upd hu fun i hi q => h.s3 i (by simpa using q) hi
 have hs2 : v6.ownBlock ≠ some l := fun q => by
  rcases hn with e | e
  ·exact h.s2 (by rw [← e]; exact q)
  have := e l q; omega
 refine ⟨by rw [bJ, aF rfl, hbx]; rfl, hA.upd us fun i hi q => h.s1 (by rw [← aM.1 q]; exact hi), ho.upd us fun j hj e => hs2 (by rw [← aM.1 hj]; exact e), h.low, h.s1, hs2, fun g e q => ?_⟩
 rcases hn with e2 | e2
 ·exact h.s3 g (by rw [← e2]; exact e) q
 have := e2 g e; have := (h.fr.lt g q).2; omega
end
theorem Sy {w : World} {base rp room : Nat} {nv lv : Value} {ds : List Bs} (h : dX w base rp room nv lv (bE cJ 0 ds) (bE cJ 0 ds)) (hb : base ≤ w.heap.size) (hds : ds.length ≤ 5) (hk : ∀ d ∈ ds, d.length ≤ 3000) (hr1 : 67 ≤ room) (hr2 : room ≤ 1000) :
  Calls Tryz.prog 28 #[.pointer (some ⟨rp, 0, none⟩)] w fun e w' => ∃ fv sv L nv' lv', e = .returned (.tuple #[.pointer (some ⟨w.heap.size, 0, none⟩), .int .i64 0]) ∧ iQ w' w.heap.size w.heap.size rp fv sv L ((dB ds).1.map List.length) ∧ L.map aO.fr = (dB ds).2.2 ∧ lH w base rp room nv lv (bE cJ 0 (dB ds).1) (bE cJ 0 (dB ds).1) w' nv' lv' := by
 have hu1 := (aB.refl [] w).alloc (wF rp (.slice none 0 0) (.slice none 0 0))
 have hst : iQ (w.alloc (wF rp (.slice none 0 0) (.slice none 0 0))) w.heap.size w.heap.size rp (.slice none 0 0) (.slice none 0 0) [] [] := ⟨aX _ _, dP.nil _ _, aK.nil _ _, aQ _, by simp [eS, Value.ownBlock], by simp [Value.ownBlock], by simp [Value.ownBlock]⟩
 have HST := aA (aC hst (aC (IW ds) (aC (dH (550 * 0)) hu1)))
 have H0 := aA h
 have HK := aA hk
 have hfew : ∀ d ∈ ds, d.length ≤ 3000 ∧ cJ d ≤ 64 := fun d hd => ⟨hk d hd, by have := hk d hd; unfold cJ bP; omega⟩
 have HFew := aA hfew
 have HB := aA (aC hb (aC hr1 hr2))
 clear hu1 hst h hk hfew hb hr1 hr2
 go_in
 go_wp2_with fail
 go_loopg [5, 6, 7, 8, 9, 10, 11, 12, 13] (6 - 0) (fun gh v5 v6 v7 v8 v9 v10 v11 v12 v13 wr => ∃ (n : Nat) (fv sv : Value) (L : List aO), v5 = .int .i64 n ∧ n ≤ ds.length ∧ gh = 6 - n ∧ Hid (iQ wr w.heap.size w.heap.size rp fv sv L ((ds.take n).map List.length) ∧ pK ds n (L.map aO.fr) ∧ L.length ≤ 550 * n ∧ aB [] w wr))
 case atStart => exact ⟨0, _, _, _, rfl, dH _, rfl, HST⟩
 case round =>
  obtain ⟨n, fv, sv, L, rfl, hn, rfl, HS⟩ := hrel
  have HN : Hid (∀ X : World, Calls Tryz.prog 12 #[.int .i64 n] X fun e w' => e = .returned (.string (eK n)) ∧ aB [] X w') := aA fun X => Ds X n (by omega)
  go_wp2_with fail
  refine (HN.out _).mono ?_
  rintro e w1 ⟨rfl, hu1⟩
  have HU1 := aA (HS.out.2.2.2.trans hu1)
  have hf := uW (H0.out.keep HU1.out) (eK n)
  rw [jV] at hf
  have HL1 := aA (HS.out.1.keep hu1)
  clear hu1
  by_cases hnl : n < ds.length
  ·rw [(AP cJ hnl (by omega)).1] at hf
   have HF := aA hf
   have hn0 : (0 : Int) ≤ (n : Int) := by omega
   clear hf
   go_wp2_with fail
   refine HF.out.mono ?_
   rintro e w2 ⟨rfl, rfl⟩
   go_wp2_with fail
   refine (HN.out _).mono ?_
   rintro e w2 ⟨rfl, hu2⟩
   have HU2 := aA (HU1.out.trans hu2)
   have HL2 := aA (HL1.out.keep hu2)
   obtain ⟨d, hd⟩ : ∃ d, d = ds[n] := ⟨_, rfl⟩
   have hdk : d.length ≤ 3000 := by rw [hd]; exact HK.out _ (fX hnl)
   have hz := RR (H0.out.keep HU2.out) (eK n) (fun x hx => (uX cJ HFew.out 0 x hx).1)
   rw [jV, (AP cJ hnl (by omega)).2.1, ← hd] at hz
   dsimp only at hz
   have HZ := aA hz
   obtain ⟨dl, hdl⟩ : ∃ dl, dl = d.length := ⟨_, rfl⟩
   rw [← hdl] at HZ hdk
   have HD := aA (aC hd hdl)
   clear hu2 hz HF hd hdl
   go_wp2_with fail
   refine HZ.out.mono ?_
   rintro e w3 ⟨rfl, rfl⟩
   go_wp2_with fail
   refine (HN.out _).mono ?_
   rintro e w3 ⟨rfl, hu3⟩
   have HU3 := aA (HU2.out.trans hu3)
   have HL3 := aA (HL2.out.keep hu3)
   have hrd := Jp (H0.out.keep HU3.out) (eK n) 0 (dl : Int) (by unfold rF; omega) (by unfold rF; omega) (fun x hx => (uX cJ HFew.out 0 x hx).1)
   rw [jV, HD.out.2, HD.out.1, (AP cJ hnl (by omega)).2.2.1, (AP cJ hnl (by omega)).2.2.2, ← HD.out.1, ← HD.out.2] at hrd
   have HR := aA hrd
   clear hu3 hrd HZ
   obtain ⟨S, hS⟩ : ∃ S, S = bC d := ⟨_, rfl⟩
   rw [← hS] at HR
   have HSt := aA hS
   clear hS
   go_wp2_with fail
   refine HR.out.mono ?_
   rintro e w4 ⟨rfl, rfl⟩
   obtain ⟨v4, w4, hrun4, hv4, -, hu4, -⟩ := II w3 S (by rw [HSt.out, pZ, ← HD.out.2]; omega)
   rw [HSt.out, xY] at hv4
   have hsc := RO w4 hv4 (by rw [← HD.out.2]; omega)
   obtain ⟨va, vc, rfl, -⟩ := hv4.slice
   have HSc := aA hsc
   have HL4 := aA (aC (HL3.out.keep hu4) (HU3.out.trans hu4))
   clear hv4 hsc hu4
   go_wp2_with fail
   refine HSc.out.mono ?_
   rintro e w5 ⟨f5, L5, rfl, hf5, hL5, hu5⟩
   clear hrun4
   have HL5 := aA (aC (HL4.out.1.keep hu5) (HL4.out.2.trans hu5))
   have HF5 := aA (aC hf5 (aC hL5 (HU3.out.size)))
   obtain ⟨xa, xc, xm, hxm, rfl⟩ := hf5.own.sliceM
   obtain ⟨good, hgood⟩ : ∃ good, good = (cM d).2 := ⟨_, rfl⟩
   rw [← hgood]
   have hgl : good ≤ dl := by rw [hgood, HD.out.2]; exact rP d
   have HGD := aA (aC hgood hxm)
   have HLow := aA (aC (HL4.out.1.lt _ (dQ.2 (.inl rfl))).2 fun i hi => (HL4.out.1.lt i hi).2)
   have b1 := aD HL5.out.1.box 1
   have g1 := aZ HL5.out.1.box 1
   simp only [bA, bB, bS] at b1
   obtain ⟨fa, fc, fm, hfm, rfl⟩ := HL5.out.1.fr.own.sliceM
   obtain ⟨sa, sc, sm, hsm, rfl⟩ := HL5.out.1.sz.sliceM
   have hL5l : L5.length ≤ 550 := by
    have h1 := bM List.length hL5
    rw [dF] at h1
    have h2 := vE d
    have h3 := rP d
    have := HD.out.2
    omega
   have hLl : L.length ≤ 2750 := by have := HS.out.2.2.1; omega
   have HLs := aA (aC hL5l (aC hLl (aC hfm hsm)))
   clear hf5 hL5 hu5 hgood hxm HSc HL4 hfm hsm hL5l hLl
   go_wp2_with (first
    | (at_builtin; refine fS iH rfl _ _ rfl (base := w.heap.size) (l := L) (r := L5) (by rfl) HL5.out.1.fr.own (by rw [HGD.out.2]; rfl) (aK.src iH HF5.out.1.own) (uK (w := w5) HF5.out.1.dat) ?c1 ?c2 ?c3 ?_)
    | fail)
   case c1 => have := HLs.out; omega
   case c2 => have := HLs.out; omega
   case c3 => exact HL5.out.2.size
   intro v6 w6 ho6 hg6 hn6
   obtain ⟨a6, c6, m6, hm6, rfl⟩ := ho6.sliceM
   have hp6 := HL5.out.1.putF ho6 hg6 hn6 HF5.out.1.dat fun x hx hd g hg => by
    have h1 := (HF5.out.1.sep x hx hd g hg).1
    have h2 := HLow.out.1
    refine ⟨by omega, fun e => ?_, fun e => ?_, by omega⟩
    ·have := HLow.out.2 g (dQ.2 (.inr (.inr (eF.2 (.inl e))))); omega
    have := HLow.out.2 g (dQ.2 (.inr (.inl e))); omega
   have hu6 : aB [] w (w6.setCell ⟨w.heap.size, 1, none⟩ (.slice a6 m6 c6)) := (HL5.out.2.grown hg6 fun k hk => (HL5.out.1.fr.own.block k hk).1).setCellNew (aQ _) _ _
   have hb6 := HL5.out.1.boxG hg6 fun q => HL5.out.1.s1 (eF.2 (.inl q))
   have z1 := aD hb6 1
   have f1 := aZ hb6 1
   have HL6 := aA (aC hp6 hu6)
   clear ho6 hg6 hn6 hp6 hu6 hb6 hm6 b1 g1
   go_upto_region 9 with (fail)
   obtain ⟨W7, hW7⟩ : ∃ W7, W7 = w6.setCell ⟨w.heap.size, 1, none⟩ (.slice a6 m6 c6) := ⟨_, rfl⟩
   rw [← hW7] at HL6 ⊢
   have b2 := aD HL6.out.1.box 2
   simp only [bA, bB, bS] at b2
   clear hW7 z1 f1
   go_wp2_with (first
    | (at_builtin; refine fS TI rfl _ _ rfl (base := w.heap.size) (l := (ds.take n).map List.length) (r := [good]) (by rfl) (HL6.out.1.sz.upd ((aB.refl [] W7).alloc _) (by simp)) (by rfl) (iS TI (ty := 3) (B := W7.heap.size) (nC _ _ _ rfl)) (Ag _) ?c1 ?c2 ?c3 ?_)
    | fail)
   case c1 => rw [dF, bX]; simp; omega
   case c2 => rw [dF, bX]; simp; omega
   case c3 => have := HL6.out.2.size; simp; omega
   intro v8 w8 ho8 hg8 hn8
   obtain ⟨a8, c8, m8, hm8, rfl⟩ := ho8.sliceM
   have hk7 := HL6.out.1.keep ((aB.refl [] W7).alloc (.cells #[.int .i64 good] 3 (0, 0)))
   have hp8 := hk7.putS (z1 := [good]) (by rw [DP]; exact ho8) hg8 (hn8.imp id fun q g hg => by simpa using q g hg)
   have hu8 : aB [] w (w8.setCell ⟨w.heap.size, 2, none⟩ (.slice a8 m8 c8)) := ((HL6.out.2.alloc _).grown hg8 fun k hk => (HL6.out.1.sz.block k hk).1).setCellNew (aQ _) _ _
   have hb8 := hk7.boxG hg8 hk7.s2
   have z2 := aD hb8 2
   have f2 := aZ hb8 2
   have HL8 := aA (aC hp8 hu8)
   clear ho8 hg8 hn8 hk7 hp8 hu8 hb8 hm8 b2 HL6
   go_upto_region 10 with (fail)
   obtain ⟨W9, hW9⟩ : ∃ W9, W9 = w8.setCell ⟨w.heap.size, 2, none⟩ (.slice a8 m8 c8) := ⟨_, rfl⟩
   rw [← hW9] at HL8 ⊢
   clear hW9 z2 f2
   have HO : Hid (pK ds n (L.map aO.fr) ∧ L.length ≤ 550 * n) := aA ⟨HS.out.2.1, HS.out.2.2.1⟩
   clear HL5 HLow HS HL1 HL2 HL3 HU1 HU2 HU3 HR
   by_cases hto : good < dl
   ·have hto' : (good : Int) < (dl : Int) := by omega
    have hAl : (ds.take n).length = n := by rw [bX]; omega
    have hAl1 : (ds.take (n + 1)).length = n + 1 := by rw [bX]; omega
    have hfr : (6 : Int) ≤ iC room (bE cJ 0 (ds.take n)) (bE cJ 0 ds) := by
     have h1 := JL cJ (K := 6) ds 0 fun x hx => by have := HK.out x hx; omega
     have h2 := HB.out.2.1
     unfold iC
     rw [St]
     omega
    have HAl := aA (aC hAl (aC hAl1 hfr))
    have HCu := aA (Sw cJ (ds := ds) (m := n + 1) (by omega))
    clear hAl hAl1 hfr
    go_wp2_with fail
    go_loopg [12] (6 - (n + 1)) (fun gh v12 wr2 => ∃ (k : Nat) (nv2 lv2 : Value), v12 = .int .i64 k ∧ n + 1 ≤ k ∧ k ≤ ds.length ∧ gh = 6 - k ∧ Hid (lH W9 base rp room nv lv (bE cJ 0 (ds.take (n + 1)) ++ bE cJ k (ds.drop k)) (bE cJ 0 ds) wr2 nv2 lv2))
    case atStart => exact ⟨n + 1, nv, lv, by go_num, aQ _, by omega, rfl, aA (by rw [← HCu.out]; exact lH.refl (H0.out.keep HL8.out.2))⟩
    case round =>
     obtain ⟨k, nv2, lv2, rfl, hk1, hk2, rfl, HR2⟩ := hrel
     have HNk : Hid (∀ X : World, Calls Tryz.prog 12 #[.int .i64 k] X fun e w' => e = .returned (.string (eK k)) ∧ aB [] X w') := aA fun X => Ds X k (by omega)
     have hbb : base ≤ W9.heap.size := bG HB.out.1 HL8.out.2.size
     have HBB : Hid (∀ X, aB (kB rp nv lv) W9 X → base ≤ X.heap.size) := aA fun X u => bG hbb u.size
     clear hbb
     go_wp2_with fail
     refine (HNk.out _).mono ?_
     rintro e wa ⟨rfl, hua⟩
     have HRa := aA (HR2.out.keep hua)
     have hfk := uW HRa.out.r (eK k)
     rw [jV] at hfk
     clear hua
     by_cases hkl : k < ds.length
     ·have hdk2 : ds.drop k = ds[k] :: ds.drop (k + 1) := pP hkl
      have hfd : fQ (bE cJ 0 (ds.take (n + 1)) ++ bE cJ k (ds.drop k)) (bW k) = ((n + 1 : Nat) : Int) := by
       unfold fQ
       rw [hdk2, DE cJ _ _ _ (by rw [HAl.out.2.1]; exact hk1) (by omega), HAl.out.2.1]
      rw [hfd] at hfk
      have HFk := aA hfk
      have hn1 : (0 : Int) ≤ ((n + 1 : Nat) : Int) := by omega
      have hrmv : tN (bE cJ 0 (ds.take (n + 1)) ++ bE cJ k (ds.drop k)) (bW k) = bE cJ 0 (ds.take (n + 1)) ++ bE cJ (k + 1) (ds.drop (k + 1)) := by
       rw [hdk2]
       exact JJ cJ _ _ _ (by rw [HAl.out.2.1]; exact hk1) (by omega)
      have HRmv := aA hrmv
      generalize hzz : ((n + 1 : Nat) : Int) = zz at *
      clear hfk hfd hdk2 hrmv hzz
      go_wp2_with fail
      refine HFk.out.mono ?_
      rintro e wb ⟨rfl, rfl⟩
      go_wp2_with fail
      refine (HNk.out _).mono ?_
      rintro e wb ⟨rfl, hub⟩
      have HRb := aA (HRa.out.keep hub)
      have hrm := Jz HRb.out.r (HBB.out _ HRb.out.u) (eK k) (by rw [bD, iY, iY, bX, eD]; omega)
      rw [jV, HRmv.out] at hrm
      have HRm := aA hrm
      clear hub hrm HFk
      go_wp2_with fail
      refine HRm.out.mono ?_
      rintro e wd ⟨rfl, hnx⟩
      obtain ⟨nv3, lv3, hr3⟩ := HRb.out.step hnx
      have H3 := aA hr3
      clear hnx hr3 HRm
      go_wp2_with fail
      go_roundg (6 - (k + 1))
      case measure => omega
      case rel => exact ⟨k + 1, nv3, lv3, by go_num, by omega, by omega, rfl, H3⟩
     obtain rfl : k = ds.length := by omega
     have hfd : fQ (bE cJ 0 (ds.take (n + 1)) ++ bE cJ ds.length (ds.drop ds.length)) (bW ds.length) = -1 := by
      rw [DN]
      show fQ (_ ++ []) _ = _
      rw [sN]
      exact JO cJ (by rw [HAl.out.2.1]; omega) (by omega)
     rw [hfd] at hfk
     have HFk := aA hfk
     have hra := HRa.out
     rw [Sx cJ hnl, ← HD.out.1] at hra
     have HRb := aA hra
     clear hfk hfd hra HRa HR2
     go_wp2_with fail
     refine HFk.out.mono ?_
     rintro e wb ⟨rfl, rfl⟩
     clear HFk HNk
     go_wp2_with fail
     refine (HN.out _).mono ?_
     rintro e wb ⟨rfl, hub⟩
     have HRc := aA (HRb.out.keep hub)
     have hrm := Jz HRc.out.r (HBB.out _ HRc.out.u) (eK n) (by rw [bD, iY, iY, bX]; simp; omega)
     have hrmv := JJ cJ (ds.take n) (k := n) d [] (by rw [HAl.out.1]; exact aQ _) (by omega)
     rw [jV, hrmv] at hrm
     have HRm := aA hrm
     clear hub hrm hrmv
     go_wp2_with fail
     refine HRm.out.mono ?_
     rintro e wd ⟨rfl, hnx⟩
     obtain ⟨nv3, lv3, hr3⟩ := HRc.out.step hnx
     rw [show bE cJ 0 (ds.take n) ++ bE cJ (n + 1) [] = bE cJ 0 (ds.take n) from sN _] at hr3
     have H3 := aA hr3
     clear hnx hr3 HRm HRc HRb
     go_wp2_with fail
     refine (HN.out _).mono ?_
     rintro e we ⟨rfl, hue⟩
     have H4 := aA (H3.out.keep hue)
     have hcr := Jr H4.out.r (HBB.out _ H4.out.u) (eK n) (rQ n) (by rw [iY, HAl.out.1]; omega)
     have hcw := JK cJ (ds.take n) (by rw [HAl.out.1]; omega)
     rw [HAl.out.1] at hcw
     rw [jV, hcw.1, hcw.2] at hcr
     have HCr := aA hcr
     clear hue hcr hcw H3
     go_wp2_with fail
     refine HCr.out.mono ?_
     rintro e wf ⟨rfl, hnx⟩
     obtain ⟨nv4, lv4, hr4⟩ := H4.out.step hnx
     have H5 := aA hr4
     clear hnx hr4 HCr H4
     go_upto_region 18 with (fail)
     have hSs : S.size = dl := by rw [HSt.out, pZ, HD.out.2]
     have hgS : (good : Int) ≤ (S.size : Int) := by omega
     obtain ⟨S2, hS2⟩ : ∃ S2, S2 = S.extract 0 good := ⟨_, rfl⟩
     have hS2d : S2.data.toList = d.take good := by rw [hS2, HSt.out, Jo d 0 good (dH _), xY, tW, yW]
     have hS2s : S2.size ≤ 140737488355328 := by
      have h1 : S2.data.toList.length = S2.size := yR
      rw [hS2d, bX] at h1
      omega
     have hex : S.extract 0 good = S2 := hS2.symm
     have hch : ∀ W : World, ∃ q : Value × World, (convert 9 23 (.string S2)).run Tryz.prog W = .ok q.1 q.2 ∧ Rd q.2 q.1 (d.take good) ∧ aB [] W q.2 := fun W => by
      obtain ⟨v, w', h1, h2, -, h3, -⟩ := II W S2 hS2s
      rw [hS2d] at h2
      exact ⟨(v, w'), h1, h2, h3⟩
     obtain ⟨cv, hcv⟩ := Classical.axiomOfChoice hch
     have hcr : ∀ W : World, (convert 9 23 (.string S2)).run Tryz.prog W = .ok (cv W).1 (cv W).2 := fun W => (hcv W).1
     have HCv := aA fun W : World => (hcv W).2
     have hgd2 : (d.take good).length = good := by rw [bX]; have := HD.out.2; omega
     have hbk : (bP (d.take good).length : Int) ≤ iC room (bE cJ 0 (ds.take n)) (bE cJ 0 ds) := by
      have h1 := HAl.out.2.2
      have h2 : bP (d.take good).length ≤ 6 := by rw [hgd2]; unfold bP; omega
      omega
     have haw := JM cJ (ds.take n) (by rw [HAl.out.1]; omega) (d.take good) (room := room) (lst := bE cJ 0 ds) (by omega) hbk
     rw [HAl.out.1] at haw
     have HAp : Hid (∀ (X : World) (v : Value), aB [] wf X → Rd X v (d.take good) → Calls Tryz.prog 26 #[.pointer (some ⟨rp, 0, none⟩), .string (eK n), v] X fun r w' => r = .returned (.int .i64 0) ∧ ∃ nv5 lv5, lH W9 base rp room nv lv (bE cJ 0 (ds.take n) ++ [⟨bW n, d.take good, 0⟩]) (bE cJ 0 ds) w' nv5 lv5) := aA fun X v u hv => by
      have hst := H5.out.keep u
      have hsmall : ∀ x ∈ bE cJ 0 (ds.take n) ++ [⟨bW n, [], 0⟩], x.data.length ≤ 32768 ∧ x.old ≤ 64 := fun x hx => by
       rcases bK.1 hx with q | q
       ·exact uX cJ (fun d hd => HFew.out d (rM hd)) 0 x q
       rw [aM.1 q]; exact ⟨dH _, dH _⟩
      have h1 := Jy hst.r (eK n) hv (by omega) HB.out.2.2 (by rw [bD, iY, bX]; simp; omega) (by rw [iY]; omega) hsmall (fun x hx => (uX cJ HFew.out 0 x hx).1)
      rw [jV, haw.1, haw.2] at h1
      exact h1.mono fun r w' ⟨e, q⟩ => ⟨e, hst.step q⟩
     clear hSs hS2 hS2d hS2s hch hcv haw H5 hbk
     go_cut [13] (fun s13 wx => s13 = .int .i64 0 ∧ Hid (∃ nv5 lv5, lH W9 base rp room nv lv (bE cJ 0 (ds.take n) ++ [⟨bW n, d.take good, 0⟩]) (bE cJ 0 ds) wx nv5 lv5))
     case first =>
      go_region_with
       (first
        | (go_at_call 12; (with_reducible refine (HN.out _).mono ?_); rintro e wg ⟨rfl, hug⟩)
        | (go_at_call 26; (with_reducible refine (HAp.out _ _ ?_ ?_).mono ?_); (first | exact ((aB.refl [] wf).drew.trans hug).trans (HCv.out _).2 | exact ((aB.refl [] wf).drew.trans (HCv.out _).2).trans hug); (first | exact (HCv.out _).1 | exact (HCv.out _).1.keep hug); rintro e wi ⟨rfl, hri⟩))
      all_goals
       have HE := aA hri
       clear hri hug
       go_wp2_with fail
       go_meet
       case rel => exact ⟨rfl, HE⟩
     case rest =>
      obtain ⟨rfl, HE⟩ := hcut
      obtain ⟨wk, hwk⟩ : ∃ x, x = wc := ⟨_, rfl⟩
      subst hwk
      obtain ⟨nv5, lv5, h5⟩ := HE.out
      have hsy := Jt h5.r (HBB.out _ h5.u) (by rw [bD, iY, bX]; simp; omega) (fun x hx => by
       rcases bK.1 hx with q | q
       ·exact (uX cJ (fun d hd => HFew.out d (rM hd)) 0 x q).1
       rw [aM.1 q]; dsimp only; omega)
      have e1 : (bE cJ 0 (ds.take n) ++ [(⟨bW n, d.take good, 0⟩ : RF)]).map oK = bE cJ 0 (ds.take n ++ [d.take good]) := by
       rw [eZ, AO, wE, iJ, HAl.out.1]
       rfl
      rw [e1] at hsy
      have HSy := aA hsy
      have H5 := aA h5
      clear hsy h5 e1 HE HAp hcr
      go_wp2_with fail
      refine HSy.out.mono ?_
      rintro e wj ⟨rfl, hnx⟩
      obtain ⟨nv6, lv6, h6⟩ := H5.out.step hnx
      have H6 := aA h6
      clear hnx h6 HSy H5
      go_wp2_with fail
      go_ret2
      have hto2 := IZ HO.out.1 hnl (by rw [← HD.out.1, ← HGD.out.1, ← HD.out.2]; omega)
      rw [← HD.out.1, ← HGD.out.1] at hto2
      rw [hto2]
      dsimp only
      refine ⟨.slice a6 m6 c6, .slice a8 m8 c8, L ++ L5, nv6, lv6, rfl, ?_, by rw [eZ, HF5.out.2.1], H6.out.pre HL8.out.2⟩
      have h9 := HL8.out.1.upd H6.out.u fun i hi q => by
       have := (HL8.out.1.lt i hi).1
       have := (H0.out.lt i q).2
       omega
      rw [eZ]
      simp only [dR, kT]
      rw [hgd2]
      exact h9
   have hto' : ¬ (good : Int) < (dl : Int) := by omega
   obtain rfl : good = dl := by omega
   go_wp2_with fail
   go_roundg (6 - (n + 1))
   case measure => omega
   case rel =>
    refine ⟨n + 1, .slice a6 m6 c6, .slice a8 m8 c8, L ++ L5, by go_num, by omega, rfl, aA ⟨?_, ?_, ?_, HL8.out.2⟩⟩
    ·have h1 := HL8.out.1
     rw [Ea hnl, eZ, ← HD.out.1]
     rw [HD.out.2] at h1
     exact h1
    ·rw [eZ, HF5.out.2.1, HD.out.1]
     exact IX HO.out.1 hnl (by rw [← HD.out.1, ← HGD.out.1, HD.out.2])
    rw [bD]; have := HLs.out; have := HO.out.2; omega
  obtain rfl : n = ds.length := by omega
  rw [JO cJ (aQ _) (by omega)] at hf
  have HF := aA hf
  clear hf
  go_wp2_with fail
  refine HF.out.mono ?_
  rintro e w2 ⟨rfl, rfl⟩
  go_wp2_with fail
  go_ret2
  have he := IY HS.out.2.1
  have h1 := HL1.out
  rw [rL] at h1
  rw [he]
  exact ⟨_, _, _, _, _, rfl, h1, rfl, (lH.refl H0.out).keep HU1.out⟩
structure rK (w : World) (v : Value) (L : List aO) (W : World) : Prop where
 row : qR W w.heap.size v L
 dat : ∀ x ∈ L, ∃ a c, x.dv = .slice a x.d.length c ∧ x.d.length ≤ c ∧ c ≤ 9223372036854775807 ∧ ∀ k, k < x.d.length → ∃ g, a = some ⟨g, 0, none⟩ ∧ w.heap.size ≤ g ∧ v.ownBlock ≠ some g ∧ (∀ o, W.frozen? ⟨g, o, none⟩ = false) ∧ ∃ u : Int, W.cell? ⟨g, k, none⟩ = some (.int .u8 u)
 upd : aB [] w W
theorem rK.of {w W : World} {v : Value} {L : List aO} (h : rG W w.heap.size v L) (u : aB [] w W) : rK w v L W where
 row := h.s.own
 dat := fun x hx => by
  have ho := h.o x hx
  have hap := h.ap x hx
  obtain ⟨a, c, m, hm, hv⟩ := ho.sliceM
  rw [hv] at ho
  obtain ⟨h1, h2, h3, h4⟩ := DC ho
  refine ⟨a, c, by rw [hv, hm], by omega, h3, fun k hk => ?_⟩
  obtain ⟨g, e, hb, hf, hu⟩ := h4 k (by omega)
  exact ⟨g, e, hb, hap g (by rw [hv, e]; rfl), hf, hu⟩
 upd := u
theorem rK.set {w W : World} {v : Value} {L : List aO} (h : rK w v L W) {b k : Nat} (hb : w.heap.size ≤ b) (hv : v.ownBlock ≠ some b) {u0 : Int} (h0 : W.cell? ⟨b, k, none⟩ = some (.int .u8 u0)) : rK w v L (W.setCell ⟨b, k, none⟩ (.int .u8 1)) where
 row := h.row.upd (((aB.refl [b] W).setCell (by simp) _ _)) fun j hj e => hv (by rw [← aM.1 hj]; exact e)
 dat := fun x hx => by
  obtain ⟨a, c, e1, e2, e3, h4⟩ := h.dat x hx
  refine ⟨a, c, e1, e2, e3, fun j hj => ?_⟩
  obtain ⟨g, e, hg, hvg, hf, u, hu⟩ := h4 j hj
  refine ⟨g, e, hg, hvg, fun o => by rw [Kl]; exact hf o, ?_⟩
  by_cases q : (⟨b, k, none⟩ : Addr) = ⟨g, j, none⟩
  ·rw [← q]
   exact ⟨1, World.cell?_setCell_same _ _ _ h0⟩
  exact ⟨u, by rw [Ec (h := q)]; exact hu⟩
 upd := h.upd.setCellNew hb _ _
theorem JP (w : World) {base lg v : Nat} {fv sv : Value} {L : List aO} {sz : List Nat} (h : gC w base lg v fv sv L sz) (hlen : L.length ≤ 5000) (hsm : ∀ x ∈ L, x.d.length ≤ 100000) (hsz : sz.length ≤ 100000) {b2 rl rp : Nat} {gv tv : Value} {M : List aO} {tz : List Nat} (hr : iQ w b2 rl rp gv tv M tz) (he : L.map aO.fr = M.map aO.fr) (hez : sz = tz) :
  Calls Tryz.prog 29 #[.pointer (some ⟨lg, 0, none⟩), .pointer (some ⟨rl, 0, none⟩)] w fun e w' => e = .returned (.bool true) ∧ aB [] w w' := by
 have hsM : ∀ x ∈ M, x.d.length ≤ 100000 := Jl he.symm hsm
 have hML : M.length = L.length := by have := bM List.length he; simpa using this.symm
 have HF := aA fun (X : World) (u : aB [] w X) => Jg X 5000 (by omega) (h.keep u) (by omega) hsm
 have HF1 : Hid (∀ X : World, aB [] w X → Calls Tryz.prog 17 #[.pointer (some ⟨lg, 0, none⟩), .int .i64 1] X fun e w' => ∃ v' L', e = .returned v' ∧ rG w' X.heap.size v' L' ∧ L'.map aO.fr = (L.map aO.fr).take 1 ∧ aB [] X w') := aA fun (X : World) (u : aB [] w X) => Jg X 1 (by omega) (h.keep u) (by omega) hsm
 have HSe := aA fun (X : World) (u : aB [] w X) => Ji X (h.keep u) hsz
 have HLe := aA fun (X : World) (u : aB [] w X) => Jf X (h.keep u) (by omega) hsm
 have HSF : Hid (∀ (X Y : World) (vv : Value) (F : List aO) (B k : Nat) (ga : Option Addr) (gn gc : Nat), rG X B vv F → F.map aO.fr = (L.map aO.fr).take k → aB [] w X → oH X (.slice ga gn gc) (M.take k) → Calls Tryz.prog 16 #[vv, .slice ga gn gc] X fun e w' => e = .returned (.bool true) ∧ aB [] X w') := aA fun X _ vv F B k ga gn gc hf hk hu hm => by
  have heq : F.map aO.fr = (M.take k).map aO.fr := by rw [hk, he, DP]
  have hmk : ∀ x ∈ M.take k, x.d.length ≤ 100000 := fun x hx => hsM x (rM hx)
  have h1 := Ry X hf.s.rdfs hm (fun x hx => by have := Jl heq hmk x hx; omega) (fun x hx => by have := hmk x hx; omega)
  rw [heq, decide_eq_true rfl] at h1
  exact h1
 have b1 := aD hr.box 1
 have b2' := aD hr.box 2
 simp only [bA, bB, bS] at b1 b2'
 have HX : Hid (∀ X, aB [] w X → X.cell? ⟨rl, 1, none⟩ = some gv ∧ X.cell? ⟨rl, 2, none⟩ = some tv) := aA fun X u => ⟨cN u b1, cN u b2'⟩
 have HR := aA hr
 have HE := aA (aC he (aC hML (aC hez hlen)))
 obtain ⟨ga, gc, gm, hgm, rfl⟩ := hr.fr.own.sliceM
 obtain ⟨ta, tc, tm, htm, rfl⟩ := hr.sz.sliceM
 have HGM := aA (aC hgm htm)
 have hgl : gm ≤ 5000 := by omega
 clear h hr he hML hez hsm hsM hsz b1 b2' hgm htm
 go_in
 go_wp2_with fail
 refine (HF.out _ (aB.refl [] w)).mono ?_
 rintro e w1 ⟨v5, L5, rfl, hf5, he5, hu1⟩
 have HW1 := aA (rK.of hf5 hu1)
 have hsf := HSF.out w1 w1 v5 L5 _ 5000 ga gm gc hf5 he5 hu1 (by rw [dY (by rw [← HGM.out.1]; exact hgl)]; exact (HR.out.keep hu1).fr.rdfs)
 have HS1 := aA hsf
 have q1 := (HX.out w1 hu1).1
 obtain ⟨a5, c5, m5, hm5, rfl⟩ := hf5.s.own.sliceM
 have HM5 := aA hm5
 clear hf5 he5 hu1 hsf hm5 HF
 go_wp2_with fail
 refine HS1.out.mono ?_
 rintro e w2 ⟨rfl, hu2⟩
 have HW2 : Hid (rK w (.slice a5 m5 c5) L5 w2) := aA ⟨HW1.out.row.upd hu2 (by simp), fun x hx => by
  obtain ⟨a, c, e1, e2, e3, h4⟩ := HW1.out.dat x hx
  refine ⟨a, c, e1, e2, e3, fun j hj => ?_⟩
  obtain ⟨g, e, hg, hvg, hf, u, hu⟩ := h4 j hj
  have hgl := kX _ _ hu
  exact ⟨g, e, hg, hvg, fun o => by rw [World.frozen?_of_block (hu2.block g hgl (by simp))]; exact hf o, u, cN hu2 hu⟩, HW1.out.upd.trans hu2⟩
 clear hu2 q1 HS1 HW1
 go_wp2_with fail
 go_loopg [7, 8] m5 (fun gh v7 v8 wr => ∃ i : Nat, v7 = .int .i64 i ∧ i ≤ m5 ∧ gh = m5 - i ∧ Hid (rK w (.slice a5 m5 c5) L5 wr))
 case atStart => exact ⟨0, rfl, dH _, rfl, HW2⟩
 case round =>
  obtain ⟨i, rfl, him, rfl, HW⟩ := hrel
  by_cases hil : i < m5
  ·have hil' : (i : Int) < (m5 : Int) := by omega
   obtain ⟨x, hx⟩ : ∃ x, L5[i]? = some x := ⟨_, bL (by rw [← HM5.out]; exact hil)⟩
   have hxm := fC hx
   obtain ⟨xa, xc, hxd, hxl, hxc, -⟩ := HW.out.dat x hxm
   obtain ⟨xm, hxm2⟩ : ∃ xm, xm = x.d.length := ⟨_, rfl⟩
   rw [← hxm2] at hxd hxl
   obtain ⟨-, hmc, hcm, hat⟩ := HW.out.row.at iH
   obtain ⟨g5, hg5, -, -, -⟩ := hat i (by rw [← HM5.out]; exact hil)
   subst hg5
   have HROW : Hid (∀ X : World, rK w (.slice (some ⟨g5, 0, none⟩) m5 c5) L5 X → X.cell? ⟨g5, i * 2 + 1, none⟩ = some (.slice xa xm xc)) := aA fun X hX => by
    obtain ⟨-, -, -, hatX⟩ := hX.row.at iH
    obtain ⟨g, e, -, -, hc⟩ := hatX i (by rw [← HM5.out]; exact hil)
    cases e
    have h2 := hc 1 x.dv (by rw [show L5[i]'(by rw [← HM5.out]; exact hil) = x from (eX.1 hx).2]; rfl)
    rw [hxd] at h2
    exact h2
   have HXM := aA (aC hxm (aC hxd hxm2))
   have hcm' : c5 ≤ 9223372036854775807 := by unfold maxLen at hcm; omega
   clear hx hxm hxd hxm2 hat hcm
   go_wp2_with fail
   go_loopg [8] xm (fun gh v8 wr2 => ∃ k : Nat, v8 = .int .i64 k ∧ k ≤ xm ∧ gh = xm - k ∧ Hid (rK w (.slice (some ⟨g5, 0, none⟩) m5 c5) L5 wr2))
   case atStart => exact ⟨0, rfl, dH _, rfl, HW⟩
   case round =>
    obtain ⟨k, rfl, hkm, rfl, HW3⟩ := hrel
    have p1 := HROW.out _ HW3.out
    by_cases hkx : k < xm
    ·have hkx' : (k : Int) < (xm : Int) := by omega
     obtain ⟨xa', xc', e1, -, -, h4⟩ := HW3.out.dat x HXM.out.1
     rw [HXM.out.2.1, HXM.out.2.2] at e1
     simp only [fG] at e1
     obtain ⟨rfl, -, rfl⟩ := e1
     obtain ⟨b, rfl, hbw, hbv, hbf, u, hu⟩ := h4 k (by rw [← HXM.out.2.2]; exact hkx)
     have f1 := hbf k
     have HN := aA (HW3.out.set hbw hbv hu)
     clear h4 hbf hbw hbv
     go_wp2_with fail
     go_roundg (xm - (k + 1))
     case measure => omega
     case rel => exact ⟨k + 1, by go_num, by omega, rfl, HN⟩
    have hkx' : ¬ (k : Int) < (xm : Int) := by omega
    go_wp2_with fail
    go_roundg (m5 - (i + 1))
    case measure => omega
    case rel => exact ⟨i + 1, by go_num, by omega, rfl, HW3⟩
  have hil' : ¬ (i : Int) < (m5 : Int) := by omega
  have HU := aA HW.out.upd
  clear HW
  go_upto_region 10 with (fail)
  obtain ⟨mm, hmm⟩ : ∃ mm : Nat, mm = min 1 gm := ⟨_, rfl⟩
  have hmin : min (1 : Int) (gm : Int) = (mm : Int) := by omega
  have hmg : mm ≤ gm := by omega
  have hgmc : gm ≤ gc := (HR.out.fr.own.at iH).2.1
  have hmc : (mm : Int) ≤ (gc : Int) := by omega
  have HMz : Hid (gm = 0 → mm = 0) := aA fun e => by omega
  have HRD : Hid (∀ X, aB [] w X → oH X (.slice ga mm gc) (M.take 1)) := aA fun X u => by
   have h1 := ((HR.out.keep u).fr.rdfs).headC hmg
   have h2 : M.take mm = M.take 1 := by
    rcases kP 0 gm with q | q
    ·rw [show mm = 1 by omega]
    have : M = [] := nT (by have := HGM.out.1; omega)
    rw [this]; simp
   rw [h2] at h1
   exact h1
  have hu0 : aB [] w wr.drew := HU.out.drew
  have hS0 : wr.drew.cell? ⟨rl, 1, none⟩ = some (.slice ga gm gc) := (HX.out _ hu0).1
  have HD0 := aA hu0
  have HROW := aA HR.out.fr.own
  clear hmm hmg hgmc hu0
  go_cut [9] (fun s9 wx => s9 = .bool true ∧ Hid (aB [] w wx))
  case first =>
   rcases HROW.out.2 with ⟨hv, -⟩ | ⟨g, cap, cur, hv, -⟩
   ·as_aux_lemma =>
    cases hv
    obtain rfl := HMz.out rfl
    have hmin0 : min (1 : Int) 0 = 0 := by decide
    go_region_held3 (fun X => X.cell? ⟨rl, 1, none⟩ = some (.slice none 0 0))
     (first | (with_reducible exact hS0) | (exact (HX.out _ hu9).1) | (exact (HX.out _ (hu9.trans hu10)).1))
     (first
      | (go_at_call 17; (with_reducible refine (HF1.out _ HD0.out).mono ?_); rintro e w9 ⟨v9, F9, rfl, hf9, he9, hu9'⟩; have hu9 := HD0.out.trans hu9')
      | (go_at_call 16; (with_reducible refine (HSF.out _ wr _ F9 _ 1 _ _ _ hf9 he9 hu9 (HRD.out _ hu9)).mono ?_); rintro e w10 ⟨rfl, hu10⟩))
    all_goals
     have HE := aA (hu9.trans hu10)
     clear hf9 he9 hu9 hu9' hu10
     go_wp2_with fail
     go_meet
     case rel => exact ⟨rfl, HE⟩
   as_aux_lemma =>
   obtain rfl : ga = some ⟨g, 0, none⟩ := by injection hv
   clear hv
   go_region_held3 (fun X => X.cell? ⟨rl, 1, none⟩ = some (.slice (some ⟨g, 0, none⟩) gm gc))
    (first | (with_reducible exact hS0) | (exact (HX.out _ hu9).1) | (exact (HX.out _ (hu9.trans hu10)).1))
    (first
     | (go_at_call 17; (with_reducible refine (HF1.out _ HD0.out).mono ?_); rintro e w9 ⟨v9, F9, rfl, hf9, he9, hu9'⟩; have hu9 := HD0.out.trans hu9')
     | (go_at_call 16; (with_reducible refine (HSF.out _ wr _ F9 _ 1 _ _ _ hf9 he9 hu9 (HRD.out _ hu9)).mono ?_); rintro e w10 ⟨rfl, hu10⟩))
   all_goals
    have HE := aA (hu9.trans hu10)
    clear hf9 he9 hu9 hu9' hu10
    go_wp2_with fail
    go_meet
    case rel => exact ⟨rfl, HE⟩
  case rest =>
   obtain ⟨rfl, HE9⟩ := hcut
   obtain ⟨w9, hw9⟩ : ∃ x, x = wc := ⟨_, rfl⟩
   subst hw9
   clear HROW HRD HD0 hS0
   go_wp2_with fail
   refine (HSe.out _ HE9.out).mono ?_
   rintro e w10 ⟨v10, rfl, ho10, hu10⟩
   have hu10' := HE9.out.trans hu10
   have hsi := Rx w10 (aK.rd TI ho10) (aK.rd TI (HR.out.keep hu10').sz)
   rw [HE.out.2.2.1, decide_eq_true rfl] at hsi
   have p2 := (HX.out _ hu10').2
   obtain ⟨a10, c10, m10, hm10, rfl⟩ := ho10.sliceM
   have hi10 : Hid (∀ X, aB [] w10 X → ∀ k, k < m10 → ∃ g, a10 = some ⟨g, 0, none⟩ ∧ w.heap.size ≤ g ∧ (∀ o, X.frozen? ⟨g, o, none⟩ = false) ∧ ∃ u : Int, X.cell? ⟨g, k, none⟩ = some (.int .i64 u)) := aA fun X u k hk => by
    have ho := ho10.upd u (by simp)
    obtain ⟨h1, -, -, h4⟩ := ho.at TI
    obtain ⟨g, e, hg, hf, hc⟩ := h4 k (by omega)
    have h5 := hc 0 _ rfl
    rw [jI, kU] at h5
    exact ⟨g, e, bG HE9.out.size hg, hf, _, h5⟩
   have H10 := aA hu10'
   have HSi := aA hsi
   have hm10c : m10 ≤ c10 := (ho10.at TI).2.1
   have hc10 : c10 ≤ 9223372036854775807 := by have := (ho10.at TI).2.2.1; unfold maxLen at this; omega
   clear hsi hu10 hu10' ho10 hm10 HE9
   go_wp2_with fail
   refine HSi.out.mono ?_
   rintro e w11 ⟨rfl, hu11⟩
   have HI : Hid ((∀ k, k < m10 → ∃ g, a10 = some ⟨g, 0, none⟩ ∧ w.heap.size ≤ g ∧ (∀ o, w11.frozen? ⟨g, o, none⟩ = false) ∧ ∃ u : Int, w11.cell? ⟨g, k, none⟩ = some (.int .i64 u)) ∧ aB [] w w11) := aA ⟨hi10.out _ hu11, H10.out.trans hu11⟩
   clear hu11 p2 HSi hi10 H10
   go_wp2_with fail
   go_loopg [12] m10 (fun gh v12 wr => ∃ i : Nat, v12 = .int .i64 i ∧ i ≤ m10 ∧ gh = m10 - i ∧ Hid ((∀ k, k < m10 → ∃ g, a10 = some ⟨g, 0, none⟩ ∧ w.heap.size ≤ g ∧ (∀ o, wr.frozen? ⟨g, o, none⟩ = false) ∧ ∃ u : Int, wr.cell? ⟨g, k, none⟩ = some (.int .i64 u)) ∧ aB [] w wr))
   case atStart => exact ⟨0, rfl, dH _, rfl, HI⟩
   case round =>
    obtain ⟨i, rfl, hi, rfl, HJ⟩ := hrel
    by_cases hil2 : i < m10
    ·have hil3 : (i : Int) < (m10 : Int) := by omega
     obtain ⟨g, rfl, hg, hgf, u, hu⟩ := HJ.out.1 i hil2
     have f1 := hgf i
     have HN : Hid ((∀ k, k < m10 → ∃ g', (some ⟨g, 0, none⟩ : Option Addr) = some ⟨g', 0, none⟩ ∧ w.heap.size ≤ g' ∧ (∀ o, (wr.setCell ⟨g, i, none⟩ (.int .i64 0)).frozen? ⟨g', o, none⟩ = false) ∧ ∃ u : Int, (wr.setCell ⟨g, i, none⟩ (.int .i64 0)).cell? ⟨g', k, none⟩ = some (.int .i64 u)) ∧ aB [] w (wr.setCell ⟨g, i, none⟩ (.int .i64 0))) := aA ⟨fun k hk => by
      obtain ⟨g', e, hg', hf', u', hu'⟩ := HJ.out.1 k hk
      refine ⟨g', e, hg', fun o => by rw [Kl]; exact hf' o, ?_⟩
      by_cases q : (⟨g, i, none⟩ : Addr) = ⟨g', k, none⟩
      ·rw [← q]
       exact ⟨0, World.cell?_setCell_same _ _ _ hu⟩
      exact ⟨u', by rw [Ec (h := q)]; exact hu'⟩, HJ.out.2.setCellNew hg _ _⟩
     clear hg hgf
     go_wp2_with fail
     go_roundg (m10 - (i + 1))
     case measure => omega
     case rel => exact ⟨i + 1, by go_num, by omega, rfl, HN⟩
    have hil3 : ¬ (i : Int) < (m10 : Int) := by omega
    have HV := aA HJ.out.2
    clear HJ HI
    go_upto_region 17 with (fail)
    have hux0 : aB [] w wr.drew := HV.out.drew
    have hS0 : wr.drew.cell? ⟨rl, 1, none⟩ = some (.slice ga gm gc) := (HX.out _ hux0).1
    have HVd := aA hux0
    have hlg : L.length = gm := by have := HE.out.2.1; have := HGM.out.1; omega
    rw [hlg] at HLe
    clear hux0 hlg
    go_region_held3 (fun X => X.cell? ⟨rl, 1, none⟩ = some (.slice ga gm gc))
     (first | (with_reducible exact hS0) | (exact (HX.out _ hux).1))
     (first
      | (go_at_call 21; (with_reducible refine (HLe.out _ HVd.out).mono ?_); rintro e wx ⟨rfl, hux'⟩; have hux := HVd.out.trans hux'))
    all_goals
     have HEnd := aA hux
     clear hux hux'
     go_wp2_with fail
     go_ret
     exact ⟨rfl, HEnd.out⟩
end Go.Proofs.YtgpefiacbipfpaaGreatDoor
