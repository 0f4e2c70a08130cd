/- Segment: within an Append's calls. -/
import Derived.BigQuiet
import Derived.Test.YtgpefiacbipfpaaGreatDoorC34
set_option maxRecDepth 100000
set_option maxHeartbeats 8000000
namespace Go.Proofs.YtgpefiacbipfpaaGreatDoor
open Go.RowKit Go.Maps
theorem Rm (ds : List Bs) (l : List eE) {i : Nat} {x : eE} (h : l[i]? = some x) : gU ds (l.take (i + 1)) = mL (gU ds (l.take i)) (cC x.1 x.2) := by
 rw [iK, h]
 show gU ds (l.take i ++ [x]) = _
 rw [Gd]; rfl
theorem Rn (ds : List Bs) (b : Bs) : ds.length ≤ (mL ds b).length := by
 rcases Cl ds with rfl | ⟨a, y, rfl⟩
 ·simp
 rw [Af]; split <;> simp
theorem Ro (l : List eE) : ∀ ds : List Bs, ds.length ≤ (gU ds l).length := by
 induction l with
 | nil => intro ds; exact aQ _
 | cons x l ih => intro ds; exact bG (Rn ds _) (ih _)
theorem Ja (ds : List Bs) (l : List eE) (i : Nat) : (gU ds (l.take i)).length ≤ (gU ds l).length := by
 have := Ro (l.drop i) (gU ds (l.take i))
 rwa [← Gd, kW] at this
theorem Rp (D : List Bs) (b : Bs) : (∃ a y, D = a ++ [y] ∧ y.length + b.length ≤ 8192 ∧ mL D b = a ++ [y ++ b]) ∨ ((D = [] ∨ ∃ a y, D = a ++ [y] ∧ 8192 < y.length + b.length) ∧ mL D b = D ++ [[] ++ b]) := by
 rcases Cl D with rfl | ⟨a, y, rfl⟩
 ·exact .inr ⟨.inl rfl, rfl⟩
 rw [Af]
 by_cases h : 8192 < y.length + b.length
 ·rw [aF h]; exact .inr ⟨.inr ⟨a, y, rfl, h⟩, rfl⟩
 rw [aE h]; exact .inl ⟨a, y, rfl, by omega, rfl⟩
structure pL (w0 w wr : World) (v p room : Nat) (ds D : List Bs) (c base lg : Nat) (fv sv : Value) (L : List aO) (sz : List Nat) (v5 v6 v7 : Value) (S : List Nat) (L1 M1 : List aO) (G G2 : List Nat) : Prop where
 sub : ∀ i ∈ G, i ∈ G2
 sg : cU w0 wr v p room (cO D) (cO ds) c G2
 log : gC wr base lg v fv sv L sz
 foot : ∀ i ∈ iB lg fv sv L, i ∈ G2 ∧ i < w.heap.size
 fr : dP wr w.heap.size v6 L1
 ld : kM wr w.heap.size v7 M1
 g6 : ∀ i ∈ eS v6 L1, i ∈ G2
 g7 : ∀ i ∈ eS v7 M1, i ∈ G2
 s5 : nE wr w.heap.size v5 S
 g5 : ∀ g, v5.ownBlock = some g → g ∈ G2
 a6 : ∀ g, v5.ownBlock = some g → g ∉ eS v6 L1
 a7 : ∀ g, v5.ownBlock = some g → g ∉ eS v7 M1
 st : bT G w wr
section
variable {w0 w wr w' : World} {v p room c base lg : Nat} {ds D D' : List Bs} {fv sv v5 v6 v7 v5' : Value} {L L1 M1 : List aO} {sz S S' : List Nat} {G G2 G3 : List Nat}
theorem pL.stay (h : pL w0 w wr v p room ds D c base lg fv sv L sz v5 v6 v7 S L1 M1 G G2) (s : bT G2 wr w') {c' : Nat} (hs : cU w0 w' v p room (cO D') (cO ds) c' G2) : pL w0 w w' v p room ds D' c' base lg fv sv L sz v5 v6 v7 S L1 M1 G G2 := by
 have hsub := h.sub
 have hst := h.st.trans (s.sub hsub)
 obtain ⟨F, u, hF⟩ := s
 exact ⟨h.sub, hs, h.log.upd u fun i hi => hF i (h.foot i hi).1, h.foot, h.fr.upd u fun i hi => hF i (h.g6 i hi), h.ld.upd u fun i hi => hF i (h.g7 i hi), h.g6, h.g7, h.s5.upd u fun j hj e => hF j (h.g5 j e) hj, h.g5, h.a6, h.a7, hst⟩
theorem pL.turn (h : pL w0 w wr v p room ds D c base lg fv sv L sz v5 v6 v7 S L1 M1 G G2) (hwl : w0.heap.size ≤ w.heap.size) (hG : ∀ i ∈ G, i < w.heap.size) {F : List Nat} (u : aB F wr w') (hF : ∀ i ∈ F, v5.ownBlock = some i) (ho : nE w' w.heap.size v5' S') (hn : v5'.ownBlock = v5.ownBlock ∨ ∀ g, v5'.ownBlock = some g → wr.heap.size ≤ g) :
  pL w0 w w' v p room ds D c base lg fv sv L sz v5' v6 v7 S' L1 M1 G (lG wr w' ++ G2) := by
 have hb5 : ∀ i ∈ F, w.heap.size ≤ i := fun i hi => (h.s5.block i (hF i hi)).1
 have hn' : ∀ g, v5'.ownBlock = some g → v5.ownBlock = some g ∨ wr.heap.size ≤ g := fun g hg => hn.elim (fun e => .inl (by rw [← e]; exact hg)) fun e => .inr (e g hg)
 refine ⟨fun i hi => fM _ (h.sub i hi), h.sg.freshF u fun i hi => ⟨h.g5 i (hF i hi), bG hwl (hb5 i hi)⟩, h.log.upd u fun i hi q => ?_, fun i hi => ⟨fM _ (h.foot i hi).1, (h.foot i hi).2⟩, h.fr.upd u fun i hi q => h.a6 i (hF i q) hi, h.ld.upd u fun i hi q => h.a7 i (hF i q) hi, fun i hi => fM _ (h.g6 i hi), fun i hi => fM _ (h.g7 i hi), ho, fun g hg => ?_, fun g hg q => ?_, fun g hg q => ?_, h.st.trans ⟨F, u, fun i hi q => ?_⟩⟩
 ·have := (h.foot i hi).2; have := hb5 i q; omega
 ·rcases hn' g hg with e | e
  ·exact fM _ (h.g5 g e)
  exact iL _ (mA.2 ⟨e, (ho.block g hg).2⟩)
 ·rcases hn' g hg with e | e
  ·exact h.a6 g e q
  have := (h.fr.lt g q).2; omega
 ·rcases hn' g hg with e | e
  ·exact h.a7 g e q
  have := (h.ld.lt g q).2; omega
 have := hG i hi; have := hb5 i q; omega
theorem pL.fin (h : pL w0 w wr v p room ds D c base lg fv sv L sz v5 v6 v7 S L1 M1 G G2) (hwl : w0.heap.size ≤ base) (hbw : base ≤ w.heap.size) {c' : Nat} {w1 w2 W' : World} (s : bT G2 wr w1) (hs : cU w0 w1 v p room (cO D) (cO D) c' G2) (hS : S = D.map List.length) {fv' : Value} {K : List Nat} (hK : ∀ i ∈ K, i ∈ G ∧ i ∉ iB lg fv sv L)
  (ho : qR w2 base fv' (L ++ L1)) (hg : w1.grownBy w2 fv.ownBlock) (hn : fv'.ownBlock = fv.ownBlock ∨ ∀ g, fv'.ownBlock = some g → w1.heap.size ≤ g)
  (hW : W' = (w2.setCell ⟨lg, 1, none⟩ fv').setCell ⟨lg, 2, none⟩ v5) : ∃ G', tK w0 W' v p room D c' base lg fv' v5 (L ++ L1) G' ∧ (∀ i ∈ G, i ∈ G') ∧ bT K w W' ∧ ∀ i ∈ iB lg fv' v5 (L ++ L1), i ∈ iB lg fv sv L ∨ w.heap.size ≤ i := by
 obtain ⟨F, u, hF⟩ := s
 have hlog := h.log.upd u fun i hi => hF i (h.foot i hi).1
 have hfr := h.fr.upd u fun i hi => hF i (h.g6 i hi)
 have hs5 := h.s5.upd u fun j hj e => hF j (h.g5 j e) hj
 have hug := aB.ofGrown hg
 have hfb : ∀ g, fv.ownBlock = some g → g < w.heap.size := fun g hg => (h.foot g (dQ.2 (.inr (.inr (eF.2 (.inl hg)))))).2
 have hws := h.st.size
 have hus := u.size
 have hlgw : lg < w.heap.size := (h.foot lg (dQ.2 (.inl rfl))).2
 have h5b : ∀ g, v5.ownBlock = some g → w.heap.size ≤ g ∧ g < w1.heap.size := fun g hg => hs5.block g hg
 have hn' : ∀ g, fv'.ownBlock = some g → fv.ownBlock = some g ∨ w1.heap.size ≤ g := fun g hg => hn.elim (fun e => .inl (by rw [← e]; exact hg)) fun e => .inr (e g hg)
 have hA : dP w2 base fv' (L ++ L1) := hlog.fr.app hg ho hn hfr.dat fun x hx hd g hg => ⟨by have := (hfr.sep x hx hd g hg).1; omega, fun e => by have := (hfr.sep x hx hd g hg).1; have := hfb g e; omega⟩
 have hs52 : nE w2 base v5 S := (hs5.upd hug fun j hj e => by have := hfb j (by simpa using hj); have := (h5b j e).1; omega).base hbw
 have hbx : w2.heap[lg]? = some (pI v fv sv) := (hug.block lg (aH hlog.box) fun q => hlog.s1 (eF.2 (.inl (by simpa using q)))).trans hlog.box
 have s1 : lg ∉ eS fv' (L ++ L1) := fun q => by
  rcases pJ.1 q with e | e | e
  ·rcases hn' lg e with e2 | e2
   ·exact hlog.s1 (eF.2 (.inl e2))
   omega
  ·exact hlog.s1 (jR e)
  have := (hfr.lt lg (jR e)).1; omega
 have s2 : v5.ownBlock ≠ some lg := fun q => by have := (h5b lg q).1; omega
 have s3 : ∀ g, v5.ownBlock = some g → g ∉ eS fv' (L ++ L1) := fun g hg q => by
  have h5 := h5b g hg
  rcases pJ.1 q with e | e | e
  ·rcases hn' g e with e2 | e2
   ·have := hfb g e2; omega
   omega
  ·have := (h.foot g (dQ.2 (.inr (.inr (jR e))))).2; omega
  exact h.a6 g hg (jR e)
 subst hW
 have hu : aB [lg] w2 ((w2.setCell ⟨lg, 1, none⟩ fv').setCell ⟨lg, 2, none⟩ v5) := ((aB.refl _ _).setCell (by simp) _ _).setCell (by simp) _ _
 have hlog' : gC ((w2.setCell ⟨lg, 1, none⟩ fv').setCell ⟨lg, 2, none⟩ v5) base lg v fv' v5 (L ++ L1) S :=
  ⟨IU hbx, hA.upd hu fun i hi q => s1 (by rw [← aM.1 q]; exact hi), hs52.upd hu fun j hj e => s2 (by rw [← aM.1 hj]; exact e), hlog.low, s1, s2, s3⟩
 have hFu : aB (lg :: fv.ownBlock.toList) w1 ((w2.setCell ⟨lg, 1, none⟩ fv').setCell ⟨lg, 2, none⟩ v5) := (hug.mono fun k hk _ => iZ _ hk).trans (hu.mono fun k hk _ => by rw [aM.1 hk]; exact sO ..)
 have hFl : ∀ i ∈ lg :: fv.ownBlock.toList, i ∈ iB lg fv sv L := fun i hi => by
  rcases aJ.1 hi with e | e
  ·exact dQ.2 (.inl e)
  exact dQ.2 (.inr (.inr (eF.2 (.inl (by simpa using e)))))
 refine ⟨_, ⟨hs.freshF hFu fun i hi => ⟨(h.foot i (hFl i hi)).1, bG hwl (hlog.lt i (hFl i hi)).1⟩, by rw [← hS]; exact hlog', fun i hi => ?_, hwl⟩, fun i hi => fM _ (h.sub i hi), ?_, fun i hi => ?_⟩
 ·rcases dQ.1 hi with e | e | e
  ·exact fM _ (h.foot i (dQ.2 (.inl e))).1
  ·exact fM _ (h.g5 i e)
  rcases pJ.1 e with e | e | e
  ·rcases hn' i e with e2 | e2
   ·exact fM _ (h.foot i (dQ.2 (.inr (.inr (eF.2 (.inl e2)))))).1
   exact iL _ (mA.2 ⟨e2, (hlog'.lt i hi).2⟩)
  ·exact fM _ (h.foot i (dQ.2 (.inr (.inr (jR e))))).1
  exact fM _ (h.g6 i (jR e))
 ·exact ((h.st.sub fun i hi => (hK i hi).1).trans (⟨F, u, fun i hi => hF i (h.sub i (hK i hi).1)⟩)).trans ⟨_, hFu, fun i hi q => (hK i hi).2 (hFl i q)⟩
 rcases dQ.1 hi with e | e | e
 ·exact .inl (dQ.2 (.inl e))
 ·exact .inr (h5b i e).1
 rcases pJ.1 e with e | e | e
 ·rcases hn' i e with e2 | e2
  ·exact .inl (dQ.2 (.inr (.inr (eF.2 (.inl e2)))))
  exact .inr (by omega)
 ·exact .inl (dQ.2 (.inr (.inr (jR e))))
 exact .inr (hfr.lt i (jR e)).1
end
theorem Rq {w0 w : World} {v p room c base lg : Nat} {ds : List Bs} {fv sv av : Value} {L A : List aO} {G K : List Nat} (h : tK w0 w v p room ds c base lg fv sv L G) (hbw : base ≤ w.heap.size) (hc : c ≤ 800000) (ha : eA tD 2 w av A) (had : ∀ x ∈ A, Rd w x.dv x.d) (hAl : A.length ≤ 10000) (hL : L.length ≤ 100000) (hdl : ds.length ≤ 1000) (hds : ∀ d ∈ ds, d.length ≤ 8192)
  (hroom : (∀ x ∈ A, x.d.length ≤ 2000) → (gU ds (A.map aO.fr)).length ≤ 50 ∧ 16 * (gU ds (A.map aO.fr)).length + 5 ≤ room) (hK : ∀ i ∈ K, i ∈ G ∧ i ∉ iB lg fv sv L) :
  Calls Tryz.prog 18 #[.pointer (some ⟨lg, 0, none⟩), av] w fun e w' =>
   ((∀ x ∈ A, x.d.length ≤ 2000) ∧ e = .returned (.int .i64 0) ∧ ∃ (fv' sv' : Value) (L' : List aO) (G' : List Nat), tK w0 w' v p room (gU ds (A.map aO.fr)) (c + A.length + 1) base lg fv' sv' (L ++ L') G' ∧ L'.map aO.fr = A.map aO.fr ∧ (∀ i ∈ G, i ∈ G') ∧ bT K w w' ∧ ∀ i ∈ iB lg fv' sv' (L ++ L'), i ∈ iB lg fv sv L ∨ w.heap.size ≤ i) ∨
   ((∃ x ∈ A, 2000 < x.d.length) ∧ e = .returned (.int .i64 90) ∧ aB [] w w') := by
 have hlow := h.sg.upd.size
 have hGl := h.sg.lt
 obtain ⟨aa, ac, rfl, ha1, ha2, ha3⟩ := ha.slice
 obtain ⟨n, hn⟩ : ∃ n, n = A.length := ⟨_, rfl⟩
 obtain ⟨fa, fc, fm, hfm, rfl⟩ := h.log.fr.own.sliceM
 obtain ⟨sa, sc, sm, hsm, rfl⟩ := h.log.sz.sliceM
 have b0 := aD h.log.box 0
 have b1 := aD h.log.box 1
 have b2 := aD h.log.box 2
 simp only [bA, bB, bS] at b0 b1 b2
 have hclone := Ge w (aK.rd TI h.log.sz) (by rw [dF]; omega)
 have HAA := aA (aC ha had)
 rw [← hn] at ha1 ha3 hAl ⊢
 have HN := aA hn
 have HFM := aA (aC hfm hsm)
 have HH := aA h
 have HP := aA (aC hlow (aC hGl (aC trivial (aC hds (aC hroom hK)))))
 have HCl := aA hclone
 rw [← hn] at HAA
 clear h ha had hn hfm hsm hlow hGl hds hroom hK hclone
 go_in
 go_wp2_with fail
 refine HCl.out.mono ?_
 rintro e w1 ⟨v5, rfl, ho5, hu5⟩
 obtain ⟨a5, c5, m5, hm5, rfl⟩ := ho5.sliceM
 have H5 := aA (aC ho5 hu5)
 clear ho5 hu5 hm5 HCl b0 b1 b2
 go_wp2_with fail
 go_loopg [6, 7, 9, 10, 11, 27] (n + 1) (fun gh s6 s7 s9 s10 s11 s27 wr => ∃ (i : Nat) (L1 M1 : List aO), s27 = .int .i64 i ∧ i ≤ n ∧ gh = n + 1 - i ∧ Hid (uV w1 wr (A.map aO.fr) i s6 s7 L1 M1 ∧ ∀ x ∈ A.take i, x.d.length ≤ 2000))
 case atStart => exact ⟨0, [], [], rfl, dH _, rfl, aA ⟨⟨aB.refl _ _, dP.nil _ _, kM.nil _ _, rfl, rfl, by simp [eS, Value.ownBlock]⟩, by simp⟩⟩
 case round =>
  obtain ⟨i, L1, M1, rfl, hi, rfl, HS⟩ := hrel
  by_cases hin : i < n
  ·have hil : i < A.length := by rw [← HN.out]; exact hin
   have hu0 : aB [] w wr := H5.out.2.trans HS.out.1.up
   obtain ⟨x, hx0⟩ : ∃ x, x = A[i] := ⟨_, rfl⟩
   have hxm : x ∈ A := by rw [hx0]; exact fX hil
   obtain ⟨a', c', hav, -, -, hcell⟩ := (HAA.out.1.keep iH hu0).sl
   simp only [fG] at hav
   obtain ⟨rfl, -, -⟩ := hav
   obtain ⟨b, off, rfl, hca⟩ := hcell i hil
   rw [← hx0] at hca
   have hx := (bL hil).trans (bM some hx0.symm)
   have hrd := (HAA.out.2 x hxm).keep hu0
   obtain ⟨xa, xc, hxd, -⟩ := hrd.slice
   obtain ⟨xm, hxl⟩ : ∃ xm, xm = x.d.length := ⟨_, rfl⟩
   rw [← hxl] at hxd
   have p0 := hca 0 _ rfl
   have p1 := hca 1 _ rfl
   rw [hxd] at p1 hrd
   rw [kU] at p0
   have HX := aA (aC hx (aC hrd hxl))
   have him : (i : Int) < (n : Int) := by omega
   obtain ⟨q6, r6, m6, hm6, rfl⟩ := HS.out.1.fr.own.sliceM
   obtain ⟨q7, r7, m7, hm7, rfl⟩ := HS.out.1.ld.own.sliceM
   clear hca hcell hx hx0 hxm hrd hxd hxl hil hu0 hm6 hm7
   go_wp2_with fail
   have hua := (aB.refl [] wr).alloc (nH x.k (.slice xa xm xc))
   by_cases hlong : 2000 < x.d.length
   ·refine (Nb _ _ x.k (HX.out.2.1.keep hua) hlong).mono ?_
    rintro e w2 ⟨rfl, hu2⟩
    have HU2 := aA ((H5.out.2.trans HS.out.1.up).trans (hua.trans hu2))
    have HLG := aA hlong
    clear hua hu2 p0 p1 hlong
    go_wp2_with fail
    go_ret
    exact .inr ⟨⟨x, fC HX.out.1, HLG.out⟩, rfl, HU2.out⟩
   refine (BO _ (Rd.nil _) x.k (HX.out.2.1.keep hua) (by omega) (dH _)).mono ?_
   rintro e w2 ⟨pv, rfl, hop, hu2⟩
   rw [List.nil_append] at hop
   obtain ⟨pa, pc, pm, hpm, rfl⟩ := hop.sliceM
   have hu2' := hua.trans hu2
   have hbx : w2.heap[wr.heap.size]? = some (nH x.k (.slice xa xm xc)) := gF hu2 (aX _ _)
   have H2 := aA (aC hop hu2')
   have HSH := aA (Nat.not_lt.1 hlong)
   clear hop hu2 hpm hua p0 p1 hlong
   have hown := Gf w2 x.k (HX.out.2.1.keep H2.out.2) (bG HSH.out (by omega))
   have q0 := aD hbx 0
   have q1 := aD hbx 1
   simp only [bA, bB, bS] at q0 q1
   have HO := aA hown
   clear hown hbx
   go_wp2_with fail
   refine HO.out.mono ?_
   rintro e w3 ⟨ov, rfl, hoo, hu3⟩
   obtain ⟨oa, oc, om, hom, rfl⟩ := hoo.sliceM
   have hus : wr.heap.size ≤ w2.heap.size := H2.out.2.size
   have H3 := aA (aC hoo (H2.out.2.trans hu3))
   have HP3 := aA (H2.out.1.rd.keep hu3)
   have HLen := aA (HS.out.1.len6 (by rw [dF, ← HN.out]; exact hi))
   clear hoo hu3 hom q0 q1 hu2'
   go_wp2_with (first
    | (at_builtin; refine fS iH rfl _ _ rfl (base := w1.heap.size) (l := L1) (r := [⟨x.k, .slice oa om oc, x.d⟩]) (by rfl) (HS.out.1.fr.own.upd (H3.out.2.alloc _) (by simp)) (by rfl) (iS iH (ty := 25) (B := w3.heap.size) (nC _ _ _ rfl)) (uK (w := w3) (by simp only [aM, forall_eq]; exact H3.out.1.rd)) ?c1 ?c2 ?c3 ?_)
    | fail)
   case c1 => have := HLen.out.1; simp; omega
   case c2 => have := HLen.out.1; simp; omega
   case c3 => have := HS.out.1.up.size; have := H3.out.2.size; simp; omega
   intro v6' w4 ho6 hg6 hn6
   have hl4 : AG w4 w1.heap.size (.slice q7 m7 r7) M1 := (HS.out.1.ld.own.upd (H3.out.2.alloc _) (by simp)).upd (aB.ofGrown hg6) fun j hj e => HS.out.1.ap j (eF.2 (.inl (by simpa using hj))) (eF.2 (.inl e))
   have h4s : wr.heap.size ≤ w4.heap.size := bG (H3.out.2.alloc _).size (aB.ofGrown hg6).size
   have hpw : Rd w4 (.slice pa pm pc) (cC x.k x.d) := (HP3.out.keep ((aB.refl [] w3).alloc _)).upd1 (aB.ofGrown hg6) fun _ g hg q => by
    have := (H2.out.1.block g hg).1
    have := (HS.out.1.fr.own.block g (by simpa using q)).2
    simp at *; omega
   obtain ⟨s6, t6, k6, hk6, rfl⟩ := ho6.sliceM
   have HL4 := aA (aC hl4 (aC hpw h4s))
   have H6 := aA (aC ho6 (aC hg6 hn6))
   clear hl4 hpw h4s ho6 hg6 hn6 hk6
   go_wp2_with (first
    | (at_builtin; refine fS Dl rfl _ _ rfl (base := w1.heap.size) (l := M1) (r := [⟨x.k, .slice pa pm pc, cC x.k x.d⟩]) (by rfl) (HL4.out.1.upd ((aB.refl [] w4).alloc _) (by simp)) (by rfl) (iS Dl (ty := 23) (B := w4.heap.size) (nC _ _ _ rfl)) (Rl (w := w4) (by simp only [aM, forall_eq]; exact HL4.out.2.1)) ?c1 ?c2 ?c3 ?_)
    | fail)
   case c1 => have := HLen.out.2; simp; omega
   case c2 => have := HLen.out.2; simp; omega
   case c3 => have := HS.out.1.up.size; have := HL4.out.2.2; simp; omega
   intro v7' w5 ho7 hg7 hn7
   obtain ⟨s7, t7, k7, hk7, rfl⟩ := ho7.sliceM
   have hN : uV w1 w5 (A.map aO.fr) (i + 1) (.slice s6 k6 t6) (.slice s7 k7 t7) (L1 ++ [⟨x.k, .slice oa om oc, x.d⟩]) (M1 ++ [⟨x.k, .slice pa pm pc, cC x.k x.d⟩]) :=
    HS.out.1.next (x := ⟨x.k, .slice oa om oc, x.d⟩) (y := ⟨x.k, .slice pa pm pc, cC x.k x.d⟩) (by rw [lL, HX.out.1]; rfl) rfl H3.out.2 H3.out.1.rd HP3.out
     (fun g hg => bG hus (H3.out.1.block g hg).1) (fun g hg => by have := (H2.out.1.block g hg).1; simp at this; omega) (fun g hg q => by have := (H3.out.1.block g hg).1; have := (H2.out.1.block g q).2; omega)
     ((aB.refl [] w3).alloc _) H6.out.1 H6.out.2.1 (H6.out.2.2.imp id fun q g hg => by simpa using q g hg) ((aB.refl [] w4).alloc _) ho7 hg7 (hn7.imp id fun q g hg => by simpa using q g hg)
   have HNx := aA (aC hN (show ∀ x ∈ A.take (i + 1), x.d.length ≤ 2000 by
    rw [iK, HX.out.1]
    intro y hy
    rcases bK.1 hy with q | q
    ·exact HS.out.2 y q
    simp only [Option.toList_some, aM] at q; rw [q]; exact HSH.out))
   clear hN ho7 hg7 hn7 hk7
   go_wp2_with fail
   go_roundg (n + 1 - (i + 1))
   case measure => omega
   case rel => exact ⟨i + 1, _, _, by go_num, by omega, rfl, HNx⟩
  obtain rfl : i = n := by omega
  have him : ¬ (i : Int) < (i : Int) := Int.lt_irrefl _
  have hall : ∀ x ∈ A, x.d.length ≤ 2000 := fun x hx => HS.out.2 x (by rw [HN.out, rL]; exact hx)
  obtain ⟨q6, r6, m6, hm6, rfl⟩ := HS.out.1.fr.own.sliceM
  obtain ⟨q7, r7, m7, hm7, rfl⟩ := HS.out.1.ld.own.sliceM
  have hl1 := HS.out.1.len6 (by rw [dF, ← HN.out]; exact aQ _)
  have hm7i : m7 = i := by omega
  subst hm7i
  obtain ⟨hn50, hroom⟩ := HP.out.2.2.2.2.1 hall
  have hu0 : aB [] w wr := H5.out.2.trans HS.out.1.up
  have h1s := H5.out.2.size
  have hrs := HS.out.1.up.size
  have hst2 : pL w0 w wr v p room ds (gU ds ((A.map aO.fr).take 0)) (c + 0) base lg (.slice fa fm fc) (.slice sa sm sc) L (ds.map List.length) (.slice a5 m5 c5) (.slice q6 m6 r6) (.slice q7 m7 r7) ((gU ds ((A.map aO.fr).take 0)).map List.length) L1 M1 G (lG w wr ++ G) :=
   ⟨fun i hi => fM _ hi, (HH.out.sg.keep hu0 |> fun _ => HH.out.sg.fresh hu0), HH.out.log.keep hu0, fun i hi => ⟨fM _ (HH.out.foot i hi), (HH.out.log.lt i hi).2⟩, HS.out.1.fr.low h1s,
    ⟨HS.out.1.ld.own.base h1s, HS.out.1.ld.dat, fun x hx hd g hg => ⟨bG h1s (HS.out.1.ld.sep x hx hd g hg).1, (HS.out.1.ld.sep x hx hd g hg).2⟩⟩,
    fun i hi => iL _ (mA.2 ⟨bG h1s (HS.out.1.fr.lt i hi).1, (HS.out.1.fr.lt i hi).2⟩), fun i hi => iL _ (mA.2 ⟨bG h1s (HS.out.1.ld.lt i hi).1, (HS.out.1.ld.lt i hi).2⟩),
    H5.out.1.upd HS.out.1.up (by simp), fun g hg => iL _ (mA.2 ⟨(H5.out.1.block g hg).1, dN (H5.out.1.block g hg).2 hrs⟩),
    fun g hg q => by have := (H5.out.1.block g hg).2; have := (HS.out.1.fr.lt g q).1; omega, fun g hg q => by have := (H5.out.1.block g hg).2; have := (HS.out.1.ld.lt g q).1; omega, .of hu0⟩
  have HST := aA hst2
  have HE := aA (aC HS.out.1.e6 (aC HS.out.1.e7 hl1))
  have HALL := aA (aC hall (aC hn50 hroom))
  clear hst2 hl1 hall hn50 hroom hu0 h1s hrs hm6 hm7 HS H5
  go_wp2_with fail
  go_loopg [5, 13, 14, 15, 16, 50] (m7 + 1) (fun gh s5 s13 s14 s15 s16 s50 wq => ∃ (j : Nat) (G2 : List Nat), s50 = .int .i64 j ∧ j ≤ m7 ∧ gh = m7 + 1 - j ∧ Hid (pL w0 w wq v p room ds (gU ds ((A.map aO.fr).take j)) (c + j) base lg (.slice fa fm fc) (.slice sa sm sc) L (ds.map List.length) s5 (.slice q6 m6 r6) (.slice q7 m7 r7) ((gU ds ((A.map aO.fr).take j)).map List.length) L1 M1 G G2))
  case atStart => exact ⟨0, _, rfl, dH _, rfl, HST⟩
  case round =>
   clear HST
   obtain ⟨j, G2, rfl, hj, rfl, HS⟩ := hrel
   generalize wr = wq at *
   by_cases hjn : j < m7
   ·have hjm : (j : Int) < (m7 : Int) := by omega
    have hjl : j < M1.length := by rw [HE.out.2.2.2]; exact hjn
    have hjA : j < A.length := by rw [← HN.out]; exact hjn
    obtain ⟨-, -, -, hat⟩ := HS.out.ld.own.at Dl
    obtain ⟨g7, rfl, -, -, hca⟩ := hat j hjl
    obtain ⟨y, hy0⟩ : ∃ y, y = M1[j] := ⟨_, rfl⟩
    obtain ⟨x, hx0⟩ : ∃ x, x = A[j] := ⟨_, rfl⟩
    rw [← hy0] at hca
    have hym : y ∈ M1 := by rw [hy0]; exact fX hjl
    have hxm : x ∈ A := by rw [hx0]; exact fX hjA
    have hyd : y.d = cC x.k x.d := by
     have h1 := bM (fun l => l[j]?) HE.out.2.1
     simp only [lL, qE hjn, bL hjl, bL hjA, yP, ← hy0, ← hx0, fY] at h1
     exact h1
    have hyl := Ek (k := x.k) (HALL.out.1 x hxm)
    have hxA : (A.map aO.fr)[j]? = some x.fr := by rw [lL, bL hjA, ← hx0]; rfl
    have hD := Rm ds (A.map aO.fr) hxA
    have hry := HS.out.ld.dat y hym
    have hgy := fun (hd : y.d ≠ []) g (hg : y.dv.ownBlock = some g) => HS.out.g7 g (eF.2 (.inr ⟨y, hym, hd, hg⟩))
    have hDl := Ja ds (A.map aO.fr) j
    have hDl1 := Ja ds (A.map aO.fr) (j + 1)
    have hD8 := MQ (l := (A.map aO.fr).take j) (fun z hz => by
     obtain ⟨t, ht, rfl⟩ := cV.1 (rM hz)
     exact HALL.out.1 t ht) HP.out.2.2.2.1
    rw [hD] at hDl1
    have HDn := aA hD
    clear hD
    change (mL (gU ds ((A.map aO.fr).take j)) (cC x.k x.d)).length ≤ _ at hDl1
    change Hid (_ = mL (gU ds ((A.map aO.fr).take j)) (cC x.k x.d)) at HDn
    rw [← hyd] at HDn hDl1 hyl
    generalize hDD : gU ds ((A.map aO.fr).take j) = D at *
    obtain ⟨ya, yc, hyv, hy1, hy2, hy3⟩ := hry.slice
    obtain ⟨bl, hbl⟩ : ∃ bl, bl = y.d.length := ⟨_, rfl⟩
    rw [← hbl] at hyv hy1 hyl
    have p0 := hca 0 _ rfl
    rw [hyv] at p0 hry hgy
    obtain ⟨a5, c5, q, hq, rfl⟩ := HS.out.s5.sliceM
    rw [dF] at hq
    have hq5 : q ≤ 50 := by have := HALL.out.2.1; omega
    rw [jI, kU] at p0
    have HY := aA (aC (aC hym hyv) (aC hgy (aC hbl hq)))
    have HD := aA (aC hDl (aC hDl1 hD8))
    have hbl2 : bl ≤ 2007 := by have := HALL.out.1 x hxm; omega
    have hbl1 : 6 ≤ bl := hyl.1
    clear hat hca hy0 hx0 hym hxm hyd hyl hxA hry hgy hDD hDl hD8 hDl1 hjl hjA hy1 hy2 hy3 hbl hq hyv
    have hw1 : IntKind.i64.wrap ((q : Int) - 1) = (q : Int) - 1 := by rw [Bg]; omega
    have hq6 : (q : Int) ≤ 50 := by omega
    have hbl3 : (bl : Int) ≤ 2007 := by omega
    have hc0 := aD HS.out.log.box 0
    simp only [bA, bB] at hc0
    have HLB : Hid (∀ X, bT G2 wq X → X.cell? ⟨lg, 0, none⟩ = some (.pointer (some ⟨v, 0, none⟩))) := aA fun X s => (iD (s.block (kX _ _ hc0) (HS.out.foot _ (dQ.2 (.inl rfl))).1)).trans hc0
    have HLast : Hid (∀ a z, D = a ++ [z] → ∃ g5, a5 = some ⟨g5, 0, none⟩ ∧ wq.cell? ⟨g5, a.length, none⟩ = some (.int .i64 z.length) ∧ q = a.length + 1) := aA fun a z e => by
     obtain ⟨-, -, -, h5⟩ := HS.out.s5.at TI
     have hl : a.length < (D.map List.length).length := by rw [e]; simp
     obtain ⟨g5, e5, -, -, h5⟩ := h5 a.length hl
     refine ⟨g5, e5, ?_, by rw [HY.out.2.2.2, e]; simp⟩
     have := h5 0 _ rfl
     rw [jI, kU] at this
     rw [this]
     simp [e]
    rcases Rp D y.d with ⟨a, z, hDa, hz, hAD⟩ | ⟨hDa | ⟨a, z, hDa, hz⟩, hAD⟩
    case' inl =>
     obtain ⟨g5, rfl, h5c, hqa⟩ := HLast.out a z hDa
     rw [← HY.out.2.2.1] at hz
     obtain ⟨al, hal⟩ : ∃ al, al = a.length := ⟨_, rfl⟩
     obtain ⟨zl, hzl⟩ : ∃ zl, zl = z.length := ⟨_, rfl⟩
     rw [← hal] at h5c hqa
     rw [← hzl] at h5c hz
     have k1 : (q : Int) - 1 = (al : Int) := by omega
     have k2 : (al : Int) < (q : Int) := by omega
     have k3 : (zl : Int) + (bl : Int) ≤ 8192 := by omega
     have HA := aA (aC hDa (aC hAD (aC hal (aC hzl hqa))))
     clear hDa hz hAD hal hzl hqa
     go_upto_region 24 with (fail)
    case' inr.inl =>
     have k1 : (q : Int) - 1 < 0 := by rw [HY.out.2.2.2, hDa]; decide
     clear hDa
     go_upto_region 20 with (fail)
    case' inr.inr =>
     obtain ⟨g5, rfl, h5c, hqa⟩ := HLast.out a z hDa
     rw [← HY.out.2.2.1] at hz
     obtain ⟨al, hal⟩ : ∃ al, al = a.length := ⟨_, rfl⟩
     obtain ⟨zl, hzl⟩ : ∃ zl, zl = z.length := ⟨_, rfl⟩
     rw [← hal] at h5c hqa
     rw [← hzl] at h5c hz
     have hzm : zl ≤ 8192 := by rw [hzl]; exact HD.out.2.2 z (by rw [hDa]; simp)
     have k1 : (q : Int) - 1 = (al : Int) := by omega
     have k2 : (al : Int) < (q : Int) := by omega
     have k3 : (8192 : Int) < (zl : Int) + (bl : Int) := by omega
     have k4 : (al : Int) + 1 = (q : Int) := by omega
     have k5 : (zl : Int) ≤ 8192 := by omega
     clear hDa hz hal hzl hqa hzm
     go_upto_region 20 with (fail)
    case' inr.inl | inr.inr =>
     have hrow : ∀ i, q ≤ i → i < 100 → cO D i = none := fun i hi _ => gG (by rw [← HY.out.2.2.2]; exact hi)
     have HR := aA fun (X : World) (u : aB [] wq X) => (HS.out.sg.keep u).create (i := q) hrow (by omega)
     have HNm := aA fun X : World => xM X q (by omega)
     have hT : bT G2 wq wq.drew := .of (aB.refl [] wq).drew
     clear hrow
     go_region_held3 (fun X => X.cell? ⟨lg, 0, none⟩ = some (.pointer (some ⟨v, 0, none⟩)))
      (first
       | (with_reducible exact cN (aB.refl [] wq).drew hc0)
       | (with_reducible exact hq7))
      (first
       | (go_at_call 55; (with_reducible refine (HNm.out _).mono ?_); rintro e w6 ⟨rfl, rfl⟩)
       | (go_at_call 11; (with_reducible refine (HR.out _ ?_).mono ?_); (exact (aB.refl [] wq).drew); rintro e w7 ⟨rfl, hs7, hst7⟩; have hq7 := HLB.out _ (hT.trans hst7)))
     have hs7' : cU w0 w7 v p room (cO (D ++ [[]])) (cO ds) (c + j) G2 := by
      have := hs7
      rwa [HY.out.2.2.2, IN] at this
     have H7 := aA (HS.out.stay (hT.trans hst7) hs7')
     clear hs7 hs7' hst7 hq7 hT HR HNm hc0
     have HQL := aA (show (D.map List.length).length = q by rw [dF, HY.out.2.2.2])
     go_wp2_with (first
      | (at_builtin; refine fS TI rfl _ _ rfl (base := w.heap.size) (l := D.map List.length) (r := [0]) (by rfl) (H7.out.s5.upd ((aB.refl [] w7).alloc _) (by simp)) (by rfl) (iS TI (ty := 3) (B := w7.heap.size) (nC _ _ _ rfl)) (Ag _) ?c1 ?c2 ?c3 ?_)
      | fail)
     case c1 => have := HY.out.2.2.2; simp; omega
     case c2 => have := HY.out.2.2.2; simp; omega
     case c3 => have := H7.out.st.size; simp; omega
     intro v8 wz ho8 hg8 hn8
     have HT := aA (H7.out.turn HP.out.1 HP.out.2.1 (((aB.refl [] w7).alloc (.cells #[.int .i64 0] 3 (0, 0))).mono (by simp) |>.trans (aB.ofGrown hg8)) (fun i hi => by simpa using hi) ho8 (hn8.imp id fun q g hg => by have := q g hg; omega))
     obtain ⟨a8, c8, m8, hm8, rfl⟩ := ho8.sliceM
     have hm8' : m8 = q + 1 := by rw [hm8, bD, HQL.out]; rfl
     have HM8 := aA hm8'
     clear ho8 hg8 hn8 hm8 hm8'
     go_upto_region 24 with (fail)
     generalize hG8 : lG w7 wz ++ G2 = G8 at *
     have HZ : Hid (∃ (A' : List Bs) (z : Bs), pL w0 w wz v p room ds (A' ++ [z]) (c + j) base lg (.slice fa fm fc) (.slice sa sm sc) L (ds.map List.length) (.slice a8 m8 c8) (.slice q6 m6 r6) (.slice (some ⟨g7, 0, none⟩) m7 r7) ((A' ++ [z]).map List.length) L1 M1 G G8 ∧ mL D y.d = A' ++ [z ++ y.d] ∧ q = A'.length ∧ m8 = q + 1 ∧ z.length + bl ≤ 8192 ∧ (∀ d ∈ A' ++ [z], d.length ≤ 8192) ∧ (y.d ≠ [] → ∀ g, (Value.slice ya bl yc).ownBlock = some g → g ∈ G8)) :=
      aA ⟨D, [], by rw [eZ]; exact HT.out, hAD, HY.out.2.2.2, HM8.out, by simp; omega, fun d hd => by
       rcases bK.1 hd with q | q
       ·exact HD.out.2.2 d q
       rw [aM.1 q]; simp, fun hd g hg => by rw [← hG8]; exact fM _ (HY.out.2.1 hd g hg)⟩
     have HYY := aA (aC HY.out.1 HY.out.2.2.1)
     obtain ⟨kk, hkk⟩ : ∃ kk, kk = q := ⟨_, rfl⟩
     subst hkk
     clear HT HM8 hG8 HQL H7 HY HLB HLast hq6 hw1 hAD
    case' pos.inl =>
     have HZ : Hid (∃ (A' : List Bs) (z : Bs), pL w0 w wq v p room ds (A' ++ [z]) (c + j) base lg (.slice fa fm fc) (.slice sa sm sc) L (ds.map List.length) (.slice (some ⟨g5, 0, none⟩) q c5) (.slice q6 m6 r6) (.slice (some ⟨g7, 0, none⟩) m7 r7) ((A' ++ [z]).map List.length) L1 M1 G G2 ∧ mL D y.d = A' ++ [z ++ y.d] ∧ al = A'.length ∧ q = al + 1 ∧ z.length + bl ≤ 8192 ∧ (∀ d ∈ A' ++ [z], d.length ≤ 8192) ∧ (y.d ≠ [] → ∀ g, (Value.slice ya bl yc).ownBlock = some g → g ∈ G2)) :=
      aA ⟨a, z, by have h := HS.out; rw [HA.out.1] at h; exact h, HA.out.2.1, HA.out.2.2.1, HA.out.2.2.2.2, by rw [← HA.out.2.2.2.1]; omega, fun d hd => HD.out.2.2 d (by rw [HA.out.1]; exact hd), HY.out.2.1⟩
     have HYY := aA (aC HY.out.1 HY.out.2.2.1)
     clear HY HLB HLast HA hq6 hw1 k1 k2 k3 h5c hc0 HS
     obtain ⟨kk, hkk⟩ : ∃ kk, kk = al := ⟨_, rfl⟩
     subst hkk
     obtain ⟨wz, hwz⟩ : ∃ wz, wz = wq := ⟨_, rfl⟩
     subst hwz
     obtain ⟨G8, hG8⟩ : ∃ G8, G8 = G2 := ⟨_, rfl⟩
     subst hG8
     obtain ⟨m8, hm8⟩ : ∃ m8, m8 = q := ⟨_, rfl⟩
     subst hm8
     obtain ⟨c8, hc8⟩ : ∃ c8, c8 = c5 := ⟨_, rfl⟩
     subst hc8
     obtain ⟨a8, ha8⟩ : ∃ a8 : Option Addr, a8 = some ⟨g5, 0, none⟩ := ⟨_, rfl⟩
     rw [← ha8] at HZ ⊢
     clear ha8
    all_goals
     obtain ⟨A', z', hz1⟩ := HZ.out
     have HZ1 := aA hz1
     clear HZ hz1
     have hc1 := aD HZ1.out.1.log.box 0
     simp only [bA, bB] at hc1
     have HLZ : Hid (∀ X, bT G8 wz X → X.cell? ⟨lg, 0, none⟩ = some (.pointer (some ⟨v, 0, none⟩))) := aA fun X s => (iD (s.block (kX _ _ hc1) (HZ1.out.1.foot _ (dQ.2 (.inl rfl))).1)).trans hc1
     have hlenA : A'.length + 1 ≤ 50 ∧ 16 * (A'.length + 1) + 5 ≤ room := by
      have h1 := HD.out.2.1
      have h2 := HALL.out.2
      rw [HZ1.out.2.1, bD, DR] at h1
      omega
     have hkk := HZ1.out.2.2.1
     have hrow : ∀ i' y', i' < 100 → cO (A' ++ [z']) i' = some y' → i' < A'.length + 1 ∧ y'.length ≤ 8192 := fun i' y' _ hy' => by
      obtain ⟨h2, h3⟩ := eX.1 hy'
      exact ⟨by simpa using h2, HZ1.out.2.2.2.2.2.1 y' (by rw [← h3]; exact fX h2)⟩
     have hrd : Rd wz (.slice ya bl yc) y.d := by
      have := HZ1.out.1.ld.dat y HYY.out.1.1
      rwa [HYY.out.1.2] at this
     have hyl := HYY.out.2
     have HR := aA fun (X : World) (u : aB [] wz X) => (HZ1.out.1.sg.keep u).append (by omega) (i := kk) (n := A'.length + 1) (x := z') (by omega) (by rw [hkk]; show (A' ++ [z'])[A'.length]? = some z'; simp) (hrd.keep u) (fun hd g hg => .inl (HZ1.out.2.2.2.2.2.2 hd g hg)) hrow (by rw [← hyl]; omega) (by rw [← hyl]; have := HZ1.out.2.2.2.2.1; omega)
     have hkl : kk < 50 := by omega
     have HNm := aA fun X : World => xM X kk (by omega)
     have hT : bT G8 wz wz.drew := .of (aB.refl [] wz).drew
     clear hrow hrd hyl hkk
     go_region_held3 (fun X => X.cell? ⟨lg, 0, none⟩ = some (.pointer (some ⟨v, 0, none⟩)))
      (first
       | (with_reducible exact cN (aB.refl [] wz).drew hc1)
       | (with_reducible exact hq7))
      (first
       | (go_at_call 55; (with_reducible refine (HNm.out _).mono ?_); rintro e w6 ⟨rfl, rfl⟩)
       | (go_at_call 13; (with_reducible refine (HR.out _ ?_).mono ?_); (exact (aB.refl [] wz).drew); rintro e w9 ⟨rfl, hs9, hst9⟩; have hq7 := HLZ.out _ (hT.trans hst9)))
     have hs9' : cU w0 w9 v p room (cO (A' ++ [z' ++ y.d])) (cO ds) (c + j + 1) G8 := by
      have := hs9
      rwa [HZ1.out.2.2.1, Rb] at this
     have h9 := HZ1.out.1.stay (hT.trans hst9) hs9'
     obtain ⟨-, -, -, hsat⟩ := h9.s5.at TI
     obtain ⟨g9, rfl, hgb, hgf, hgc⟩ := hsat A'.length (by simp)
     have p5 : w9.cell? ⟨g9, kk, none⟩ = some (.int .i64 z'.length) := by
      have := hgc 0 _ rfl
      rw [jI, kU] at this
      rw [HZ1.out.2.2.1, this]
      simp
     have f5 := hgf kk
     have hm8 : kk < m8 := by have := HZ1.out.2.2.2.1; omega
     have hm8' : (kk : Int) < (m8 : Int) := by omega
     have hz8 : (z'.length : Int) + (bl : Int) ≤ 8192 := by have := HZ1.out.2.2.2.2.1; omega
     have H9 := aA h9
     clear h9 hsat hgb hgf hgc hs9 hs9' hst9 hq7 hT HR HNm hc1
     have h10 : nE (w9.setCell ⟨g9, kk, none⟩ (.int .i64 ((z'.length : Int) + (bl : Int)))) w.heap.size (.slice (some ⟨g9, 0, none⟩) m8 c8) ((A' ++ [z' ++ y.d]).map List.length) := by
      have h5 := H9.out.s5
      rw [eZ] at h5
      have h := aK.setLastI (l := A'.map List.length) (x := z'.length) h5 (z'.length + bl)
      rw [dF, ← HZ1.out.2.2.1, tS] at h
      rw [eZ]
      simp only [dR, kT, bD, ← HYY.out.2]
      exact h
     have H10 := aA (H9.out.turn HP.out.1 HP.out.2.1 ((aB.refl [g9] w9).setCell (aM.2 rfl) kk _) (fun i hi => by rw [aM.1 hi]; rfl) h10 (.inl rfl))
     have hDe : gU ds ((A.map aO.fr).take (j + 1)) = A' ++ [z' ++ y.d] := HDn.out.trans HZ1.out.2.1
     rw [← hDe] at H10
     clear h10 hDe
     go_wp2_with fail
     go_roundg (m7 + 1 - (j + 1))
     case measure => omega
     case rel => exact ⟨j + 1, _, by go_num, by omega, rfl, H10⟩
   obtain rfl : j = m7 := by omega
   have hjm : ¬ (j : Int) < (j : Int) := Int.lt_irrefl _
   obtain ⟨a5, c5, q, hq, rfl⟩ := HS.out.s5.sliceM
   have hDe : gU ds ((A.map aO.fr).take j) = gU ds (A.map aO.fr) := by rw [dY (by rw [dF, ← HN.out]; exact aQ _)]
   rw [hDe] at HS
   have hc0 := aD HS.out.log.box 0
   simp only [bA, bB] at hc0
   have HSy := aA (HS.out.sg.sync (by omega))
   clear hDe hq
   go_wp2_with fail
   refine HSy.out.mono ?_
   rintro e w9 ⟨rfl, hs9, hst9⟩
   have H9 := aA (aC hs9 hst9)
   obtain ⟨F9, u9, hF9⟩ := hst9
   have hlog := HS.out.log.upd u9 fun i hi => hF9 i (HS.out.foot i hi).1
   have hfr := HS.out.fr.upd u9 fun i hi => hF9 i (HS.out.g6 i hi)
   have p1 := aD hlog.box 1
   have p2 := aD hlog.box 2
   have f1 := aZ hlog.box 1
   have f2 := aZ hlog.box 2
   simp only [bA, bB, bS] at p1 p2
   have hm6 : m6 = L1.length := (hfr.own.at iH).1
   have HM6 := aA hm6
   have HLF := aA (aC hlog hfr)
   have hbs := HLF.out.1.lt lg (dQ.2 (.inl rfl))
   clear hs9 hlog hfr hm6 u9 hF9 hc0 HSy
   go_wp2_with (first
    | (at_builtin; refine fS iH rfl _ _ rfl (base := base) (l := L) (r := L1) (by rfl) HLF.out.1.fr.own (by rw [← HM6.out]; rfl) (aK.src iH HLF.out.2.own) (uK HLF.out.2.dat) ?c1 ?c2 ?c3 ?_)
    | fail)
   case c1 => have := HE.out.2.2.1; omega
   case c2 => have := HE.out.2.2.1; omega
   case c3 => omega
   intro v8 w10 ho8 hg8 hn8
   have hbx := ((aB.ofGrown hg8).block lg (aH HLF.out.1.box) fun q => HLF.out.1.s1 (eF.2 (.inl (by simpa using q)))).trans HLF.out.1.box
   have g1 := aD hbx 1
   have g2 := aD hbx 2
   have e1 := aZ hbx 1
   have e2 := aZ hbx 2
   simp only [bA, bB, bS] at g1 g2
   have HFin := aA (HS.out.fin HH.out.low hbw H9.out.2 H9.out.1 rfl HP.out.2.2.2.2.2 ho8 hg8 hn8 rfl)
   obtain ⟨a8, c8, m8, hm8, rfl⟩ := ho8.sliceM
   clear hbx ho8 hg8 hn8 hm8
   go_wp2_with fail
   go_ret
   obtain ⟨G', h1, h2, h3⟩ := HFin.out
   have e6 := HE.out.1
   rw [dY (by rw [dF, ← HN.out]; exact aQ _)] at e6
   exact .inl ⟨HALL.out.1, rfl, _, _, L1, G', h1, e6, h2, h3⟩
attribute [local go_sem] Oper.semAt_some
theorem Rr {C : Nat} {v : Value} {d : Bs} : eC C fun W => Rd W v d := fun X Y F h u hr => by
 refine h.upd1 u fun hd g hg hF => ?_
 obtain ⟨-, o, ho, hn⟩ := hr g hF
 obtain ⟨a, c, rfl, h1, h2, h3⟩ := h.slice
 obtain ⟨-, -, -, hcell⟩ := h.cell
 obtain ⟨b, off, rfl, hc⟩ := hcell (oO.2 hd)
 cases hg
 have := hc 0 (oO.2 hd)
 simp only [World.cell?, ho] at this
 cases o <;> first | (cases hn; done) | (simp at this)
theorem Rs {C base : Nat} {fv : Value} {L : List aO} : eC C fun W => dP W base fv L := fun X Y F h u hr =>
 ⟨vX X Y F h.own u hr, fun x hx => Rr X Y F (h.dat x hx) u hr, h.sep⟩
def kA : Nat → List eE → List (Nat × eE)
 | _, [] => []
 | k, x :: l => (k, x) :: kA (k + 1) l
theorem yB : ∀ (l : List eE) (k : Nat), (kA k l).length = l.length
 | [], _ => rfl
 | _ :: l, k => bM (· + 1) (yB l (k + 1))
theorem Dm : ∀ (l : List eE) (k : Nat), (kA k l).map (·.2) = l
 | [], _ => rfl
 | _ :: l, k => bM (List.cons _) (Dm l (k + 1))
theorem Dn : ∀ (l : List eE) (k i : Nat), (kA k l)[i]? = l[i]?.map fun x => (k + i, x)
 | [], _, _ => rfl
 | _ :: _, _, 0 => rfl
 | _ :: l, k, i + 1 => by
  show (kA (k + 1) l)[i]? = _
  rw [Dn l (k + 1) i, show k + 1 + i = k + (i + 1) by omega]; rfl
theorem Rt {l : List eE} {i : Nat} {x : eE} (h : l[i]? = some x) : (kA 0 l).take (i + 1) = (kA 0 l).take i ++ [(i, x)] := by
 rw [iK, Dn, h]; simp
theorem Jb {l : List eE} {pre : List (Nat × eE)} {x : Nat × eE} (h : pre ++ [x] <+: kA 0 l) : x.1 = pre.length ∧ l[pre.length]? = some x.2 ∧ pre.map (·.2) = l.take pre.length := by
 obtain ⟨t, ht⟩ := h
 have h1 : (kA 0 l)[pre.length]? = some x := by rw [← ht]; simp
 rw [Dn] at h1
 cases hl : l[pre.length]? with
 | none => rw [hl] at h1; cases h1
 | some y =>
  rw [hl] at h1
  simp only [yP, iJ, fY] at h1
  subst h1
  refine ⟨rfl, rfl, ?_⟩
  have := bM (fun z => (z.map (·.2)).take pre.length) ht
  simp only [Dm, eZ, eJ] at this
  rw [List.take_append_of_le_length (by simp), dY (by simp)] at this
  exact this
def jS (N : Nat) (X Y : World) : Prop := ∃ F, aB F X Y ∧ ∀ i ∈ F, N ≤ i
theorem jS.u {N : Nat} {X Y : World} (u : aB [] X Y) : jS N X Y := ⟨[], u, by simp⟩
theorem jS.t {N : Nat} {A B C : World} (h : jS N A B) (g : jS N B C) : jS N A C := by
 obtain ⟨F, u, hF⟩ := h
 obtain ⟨G, v, hG⟩ := g
 exact ⟨F ++ G, (u.mono fun k hk _ => iL _ hk).next v fun k hk _ => fM _ hk, fun i hi => (bK.1 hi).elim (hF i) (hG i)⟩
theorem jS.b {N : Nat} (W : World) (l : Nat) (o : Obj) (h : N ≤ l) : jS N W (W.putObj l o) := ⟨[l], aB.putObj l o, fun i hi => by rw [aM.1 hi]; exact h⟩
theorem gC.kp {w w' : World} {N base l v : Nat} {fv sv : Value} {L : List aO} {sz : List Nat} (h : gC w base l v fv sv L sz) (hN : ∀ i ∈ iB l fv sv L, i < N) (k : jS N w w') : gC w' base l v fv sv L sz := by
 obtain ⟨F, u, hF⟩ := k
 exact h.upd u fun i hi q => by have := hN i hi; have := hF i q; omega
def Jc (x : Nat × eE) (vs : Array Value) (b : Nat) (W : World) : Prop := ∃ v', vs = #[.int .i64 x.1, .agg #[.int .u8 x.2.1.toNat, v']] ∧ Ow W b v' x.2.2
theorem Ru (n l Bm N lg base v : Nat) (fv sv : Value) (L : List aO) (sz : List Nat) (hlen : L.length ≤ 100000) (hsm : ∀ x ∈ L, x.d.length ≤ 100000) (J Jx : List (Nat × eE) → World → Prop)
  (hJ : ∀ s X Y, J s X → aB [] X Y → J s Y)
  (hY : ∀ pre x vs W0 W1, J pre W0 → aB [] W0 W1 → Jc x vs W0.heap.size W1 → pre ++ [x] <+: kA 0 (L.map aO.fr) → YieldAt Fence.wide (n - 1) Tryz.prog l vs W1 fun e W' => (e = .returned (.bool true) ∧ J (pre ++ [x]) W' ∧ jS N W1 W') ∨ (e = .returned (.bool false) ∧ Jx (pre ++ [x]) W')) (W : World) (hN : ∀ i ∈ iB lg fv sv L, i < N) (hcB : W.cell? ⟨Bm, 0, none⟩ = some (.pointer (some ⟨lg, 0, none⟩))) (h : gC W base lg v fv sv L sz) (h0 : J [] W) :
  Calls Tryz.prog 118 #[.func (.yield l) #[] #[], .pointer (some ⟨Bm, 0, none⟩)] W fun e W' => (∃ v, e = .returned v) ∧ (J (kA 0 (L.map aO.fr)) W' ∨ ∃ pre, pre <+: kA 0 (L.map aO.fr) ∧ Jx pre W') := by
 obtain ⟨a0, c0, hfv⟩ := h.fr.own.slice
 obtain ⟨-, hc1, hc2, hat⟩ := (hfv ▸ h.fr.own).at iH
 obtain ⟨m, hm⟩ : ∃ m, m = L.length := ⟨_, rfl⟩
 rw [← hm] at hfv hc1 hlen
 subst hfv
 have b0 := aD h.box 0
 have b1 := aD h.box 1
 simp only [bA, bB, bS] at b0 b1
 unfold maxLen at hc2
 have HH := aA h
 have HJ0 := aA h0
 have HM := aA hm
 have HJS := aA hJ
 have HYY := aA hY
 clear h h0 hm hJ hY hat
 go_in
 go_wp2_with fail
 go_quiet (fail)
 have hu0 : aB [] W (W.drewN nq) := (aB.refl [] W).drewN nq
 generalize W.drewN nq = W1 at *
 have HH1 := aA (HH.out.keep hu0)
 have HJ1 := aA (HJS.out _ _ _ HJ0.out hu0)
 clear hu0 HH HJ0 b0 b1 hcB
 go_upto_region 2 with (fail)
 refine (wpIn_wide (n := n)).1 ?_
 gi_loopw [23] (fun i wr => ∃ k : Nat, i = .int .i64 k ∧ k ≤ m ∧ Hid (J ((kA 0 (L.map aO.fr)).take k) wr ∧ gC wr base lg v (.slice a0 m c0) sv L sz)) (fun i _ => m + 1 - (intOf i).toNat)
 case atStart => exact ⟨0, rfl, dH _, aA ⟨HJ1.out, HH1.out⟩⟩
 case round =>
  clear HJ1 HH1
  obtain ⟨k, rfl, hk, HR⟩ := hrel
  generalize wr = wo at *
  by_cases hkm : k < m
  ·have hkm' : (k : Int) < (m : Int) := by omega
   have hkl : k < L.length := by rw [← HM.out]; exact hkm
   obtain ⟨-, -, -, hat⟩ := HR.out.2.fr.own.at iH
   obtain ⟨g, rfl, hgb, -, hca⟩ := hat k hkl
   have hrd := HR.out.2.fr.dat L[k] (fX hkl)
   have hsk := hsm L[k] (fX hkl)
   have p0 := hca 0 _ rfl
   have p1 := hca 1 _ rfl
   have hst : (kA 0 (L.map aO.fr)).take (k + 1) = (kA 0 (L.map aO.fr)).take k ++ [(k, L[k].fr)] := Rt (by rw [lL, bL hkl]; rfl)
   have HST := aA hst
   obtain ⟨x, hx⟩ : ∃ x, x = L[k] := ⟨_, rfl⟩
   rw [← hx] at hrd hsk p0 p1 HST
   obtain ⟨xa, xc, hxd, -⟩ := hrd.slice
   obtain ⟨xm, hxm⟩ : ∃ xm, xm = x.d.length := ⟨_, rfl⟩
   rw [← hxm] at hxd
   rw [hxd] at p1 hrd
   have HRD := aA hrd
   have HSK := aA hsk
   clear hat hca hrd hsk hst hx hxm hkl hxd
   rw [kU] at p0
   gi_wp2
   have hua := (aB.refl [] wo).alloc (.cells #[.int .u8 x.k.toNat, .slice xa xm xc] 25 (0, 0))
   refine ⟨trivial, (fun h => by cases h), (jJ.2 (Gf _ x.k (HRD.out.keep hua) (bG HSK.out (by omega)))).mono ?_⟩
   rintro e w6 ⟨v6, rfl, ho6, hu6⟩
   have hu7 : aB [] wo w6 := hua.trans hu6
   obtain ⟨fn, tmps, assign, body, hy, hR⟩ := HYY.out ((kA 0 (L.map aO.fr)).take k) (k, x.fr) _ wo w6 HR.out.1 hu7 ⟨v6, rfl, ho6.base (bG (aQ _) hua.size)⟩ (by rw [← HST.out]; exact List.take_prefix _ _)
   have HL6 := aA (HR.out.2.keep hu7)
   clear hua hu6 hu7 ho6 p0 p1
   change Sem.run Tryz.prog (Instr.yield l #[.int .i64 (k : Int), .agg #[.int .u8 x.k.toNat, v6]]) w6 = _ at hy
   gi_wp2
   refine ⟨(fun h => by cases h), hR.mono ?_⟩
   rintro e W3 (⟨rfl, hJ3, hk3⟩ | ⟨rfl, hJx3⟩)
   ·have H3 := aA (aC hJ3 (HL6.out.kp hN hk3))
    clear hJ3 hk3 hy hR
    gi_wp2
    go_roundw
    case rel => exact ⟨k + 1, by simp, by omega, aA ⟨by rw [HST.out]; exact H3.out.1, H3.out.2⟩⟩
    case measure => simp only [intOf]; omega
   clear hy hR
   gi_wp2
   refine rO (results_none rfl _ _ _) rfl ?_
   exact ⟨⟨_, rfl⟩, .inr ⟨_, (by rw [← HST.out]; exact List.take_prefix _ _), hJx3⟩⟩
  have hkm' : ¬ (k : Int) < (m : Int) := by omega
  gi_wp2
  go_end0
  have hf : (kA 0 (L.map aO.fr)).take k = kA 0 (L.map aO.fr) := dY (by rw [yB, dF, ← HM.out]; omega)
  exact ⟨⟨_, rfl⟩, .inl (by rw [← hf]; exact HR.out.1)⟩
theorem Jd (n : Nat) {w0 : World} {Bm N lg base v : Nat} {fv sv : Value} {L : List aO} {sz : List Nat} (hN : ∀ i ∈ iB lg fv sv L, i < N) (hcB : w0.cell? ⟨Bm, 0, none⟩ = some (.pointer (some ⟨lg, 0, none⟩))) (h : gC w0 base lg v fv sv L sz) (hlen : L.length ≤ 100000) (hsm : ∀ x ∈ L, x.d.length ≤ 100000) :
  CK n Tryz.prog 118 #[.pointer (some ⟨Bm, 0, none⟩)] Jc (jS N) (kA 0 (L.map aO.fr)) w0 :=
 fun l J Jx W hW hJ _ hY h0 => jJ.2 (Ru n l Bm N lg base v fv sv L sz hlen hsm J Jx hJ hY W hN (eQ hW hcB) (h.keep hW) h0)
theorem Je (w : World) (p : Option Addr) : Calls Tryz.prog 60 #[.pointer p] w fun e w' => e = .returned (.func (.func 118) #[] #[.pointer (some ⟨w.heap.size, 0, none⟩)]) ∧ w' = w.alloc (.cells #[.pointer p] 40 (0, 0)) := by
 go_in
 go_wp2_with fail
 go_ret
 exact ⟨rfl, rfl⟩
theorem Jf (w : World) {base lg v : Nat} {fv sv : Value} {L : List aO} {sz : List Nat} (h : gC w base lg v fv sv L sz) (hlen : L.length ≤ 100000) (hsm : ∀ x ∈ L, x.d.length ≤ 100000) :
  Calls Tryz.prog 21 #[.pointer (some ⟨lg, 0, none⟩)] w fun e w' => e = .returned (.int .i64 L.length) ∧ aB [] w w' := by
 refine (jJ (n := 6)).1 ?_
 refine callsIn_of_wp_marks Tryz.func21 rfl trivial ?_ rfl
 simp only [Tryz.ntmps21, lI, eG, lJ, Nat.reduceAdd, Nat.reduceSub, DT, DU, DV, DW, List.nil_append, List.cons_append]
 gi_wp2
 refine ⟨trivial, (jJ.2 (Je _ _)).mono ?_⟩
 rintro e w' ⟨rfl, rfl⟩
 have hb0 := jG (.cells #[.pointer (some ⟨lg, 0, none⟩)] 40 (0, 0)) (aX w (.cells #[.int .i64 0] 3 (0, 0)))
 have hbm := aX (w.alloc (.cells #[.int .i64 0] 3 (0, 0))) (.cells #[.pointer (some ⟨lg, 0, none⟩)] 40 (0, 0))
 have hu : aB [] w ((w.alloc (.cells #[.int .i64 0] 3 (0, 0))).alloc (.cells #[.pointer (some ⟨lg, 0, none⟩)] 40 (0, 0))) := ((aB.refl [] w).alloc _).alloc _
 rw [gW] at hbm
 try rw [gW]
 generalize (w.alloc (.cells #[.int .i64 0] 3 (0, 0))).alloc (.cells #[.pointer (some ⟨lg, 0, none⟩)] 40 (0, 0)) = W0 at *
 gi_wp2
 have hsz : w.heap.size + 1 < W0.heap.size := aH hbm
 refine CM (gf := 118) (lb := #[.pointer (some ⟨w.heap.size + 1, 0, none⟩)]) rfl (enters_of Tryz.func118 (by kernel_rfl) rfl)
  (Jd 5 (N := w.heap.size) (fun i hi => (h.lt i hi).2) (aD hbm 0) (h.keep hu) hlen hsm) jS.t (fun W l o o' hl _ _ => jS.b W l o' (by omega)) (aB.refl [] _) (fun _ _ _ _ ⟨_, e, _⟩ => by rw [e]; rfl)
  (fun pre W => W.heap[w.heap.size]? = some (.cells #[.int .i64 pre.length] 3 (0, 0)) ∧ aB [] w W ∧ W0.heap.size ≤ W.heap.size)
  (fun _ _ _ => False)
  (fun _ => (pG rfl).and ((Ar (by omega)).and Hh))
  (fun _ _ => rB)
  ⟨hb0, hu, aQ _⟩
  (fun _ x a' W => ∃ i6 i7, a' = { tmps := #[.pointer (some ⟨lg, 0, none⟩), undef, .int .i64 0, .pointer (some ⟨w.heap.size, 0, none⟩), .pointer (some ⟨lg, 0, none⟩), .func (.func 118) #[] #[.pointer (some ⟨w.heap.size + 1, 0, none⟩)], i6, i7, undef, undef, undef], defers := [] })
  (fun _ _ _ => rB)
  ?assign ?body ?done ?stop
 case assign =>
  rintro l pre x vs V W K ⟨hi1, hi2, hi3⟩ hvw ⟨v', rfl, -⟩ hK
  gi_wp2
  exact hK _ _ (KeepsOthers.refl _) (jS.u (aB.refl [] W)) ⟨gF hvw hi1, hi2.trans hvw, bG hi3 hvw.size⟩ ⟨.int .i64 x.1, .agg #[.int .u8 x.2.1.toNat, v'], by first | rfl | simp⟩
 case body =>
  rintro l pre x a' W ⟨hi1, hi2, hi3⟩ ⟨i6, i7, rfl⟩ hpre
  have c0 := aD hi1 0
  have f0 := aZ hi1 0
  simp only [bA, bB] at c0
  have hlt : (pre.length : Int) + 1 ≤ 100000 := by
   have := hpre.length_le
   rw [yB, dF, bD] at this
   simp at this
   omega
  clear hpre
  gi_wp2
  refine ⟨KeepsOthers.setCell _ _ _, ⟨[w.heap.size], (aB.refl _ W).setCell (by simp) _ _, by simp⟩, ?_, hi2.setCellNew (aQ _) _ _, by rw [Eb]; exact hi3⟩
  rw [bD, DR, tS]
  exact vW hi1 _
 case done =>
  rintro D W hD ⟨hi1, hi2, hi3⟩ hK
  have c0 := aD hi1 0
  simp only [bA, bB] at c0
  gi_wp2
  refine ⟨by simp, .inl ⟨_, _, rfl, run_takeDeferred hK, ?_⟩⟩
  refine ⟨_, results_tmp rfl _ _ _, ?_, hi2.next (aB.putObj D _) (by simp; omega)⟩
  rw [yB, dF]
  rfl
 case stop =>
  rintro D c pre W _ _ h _
  exact h.elim
end Go.Proofs.YtgpefiacbipfpaaGreatDoor
