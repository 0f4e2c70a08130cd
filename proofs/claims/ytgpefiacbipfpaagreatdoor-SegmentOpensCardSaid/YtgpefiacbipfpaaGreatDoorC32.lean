/- Opening rows of calls. -/
import Derived.Test.YtgpefiacbipfpaaGreatDoorC31
set_option maxRecDepth 100000
namespace Go.Proofs.YtgpefiacbipfpaaGreatDoor
open Go.ChangeShapes Go.WideShapes Go.ChangeAt Go.RowKit Go.Deep
section
variable {H : Type} {enc : TypeId × Value → H} {w : World} {base : Nat} {spare : Nat → Bool} {held : Bool}
end
theorem TZ : fA cZ 1 8 31 3 where
 len := fun _ => rfl
 pos := by omega
 und := Tryz.underlying31
 info := by
  obtain ⟨i, h, h1, h2, h3⟩ := kD (show (Tryz.prog.info? 3).map (fun i => (i.zero, i.size, i.bytes)) = some (some (.int .i64 0), 1, 8) by kernel_rfl)
  exact ⟨i, _, h, h1, h2, h3, rfl⟩
end Go.Proofs.YtgpefiacbipfpaaGreatDoor
namespace Go.Proofs.YtgpefiacbipfpaaGreatDoor
open Go.RowKit Go.Maps
theorem TT : fA cT 1 16 134 9 := Ic
theorem QW (l : List Bs) : ∀ x ∈ l, ∀ u ∈ cT x, u.oneCell' = true := by
 intro x _ u hu
 obtain rfl := aM.1 hu
 rfl
abbrev AD (w : World) (v : Value) (l : List Bs) : Prop := iF 1 (lP cT) w v l
theorem AD.at {w : World} {a : Option Addr} {n c : Nat} {l : List Bs} (h : AD w (.slice a n c) l) : n = l.length ∧ n ≤ c ∧ c ≤ 9223372036854775807 ∧ ∀ i (_ : i < n), ∃ b off, a = some ⟨b, off, none⟩ ∧ w.cell? ⟨b, off + i, none⟩ = some (.string (bC (l.getD i []))) := by
 obtain ⟨a', c', hv, h1, h2, h3⟩ := h
 simp only [fG] at hv
 obtain ⟨rfl, rfl, rfl⟩ := hv
 refine ⟨rfl, h1, by unfold maxLen at h2; omega, fun i hi => ?_⟩
 obtain ⟨b, off, e, hc⟩ := h3 i hi
 refine ⟨b, off, e, ?_⟩
 have := hc 0 _ rfl
 rw [jI, kU] at this
 rw [dI, bL hi]
 exact this
theorem IJ {l : List Bs} {i : Nat} (hi : i < l.length) : l.take i ++ [l.getD i []] = l.take (i + 1) := by
 rw [iK, dI, bL hi]
 rfl
theorem xZ (a b : Bs) : ((bC a).toList == (bC b).toList) = decide (a = b) := by
 rw [Bool.eq_iff_iff]
 simp only [beq_iff_eq, decide_eq_true_eq]
 constructor
 ·intro h
  have h2 : (bC a).data.toList = (bC b).data.toList := by
   have := h
   simpa [ByteArray.toList_eq] using this
  simpa [xY] using h2
 rintro rfl; rfl
theorem QX (w : World) {va vb : Value} {l m : List Bs} (ha : AD w va l) (hb : AD w vb m) :
  Calls Tryz.prog 76 #[va, vb] w fun e w' => e = .returned (.bool (decide (l = m))) ∧ aB [] w w' := by
 obtain ⟨pa, ca, rfl, -, -, -⟩ := id ha
 obtain ⟨pb, cb, rfl, -, -, -⟩ := id hb
 obtain ⟨-, q1, q2, HA⟩ := ha.at
 obtain ⟨-, q3, q4, HB⟩ := hb.at
 obtain ⟨n, hn⟩ : ∃ n, n = l.length := ⟨_, rfl⟩
 obtain ⟨k, hk⟩ : ∃ k, k = m.length := ⟨_, rfl⟩
 rw [← hn] at HA q1
 rw [← hk] at HB q3
 have HHA := aA HA
 have HHB := aA HB
 have HN := aA (aC hn hk)
 rw [← hn, ← hk]
 clear ha hb HA HB hn hk
 by_cases hnk : n = k
 ·subst hnk
  have hz : ((n : Int) == (n : Int)) = true := by simp
  go_in
  go_wp2_with fail
  go_loopg [5] n (fun gh v5 wr => ∃ i : Nat, v5 = .int .i64 i ∧ i ≤ n ∧ gh = n - i ∧ Hid (aB [] w wr ∧ l.take i = m.take i))
  case atStart => exact ⟨0, rfl, by omega, rfl, aA ⟨aB.refl [] w, by simp⟩⟩
  case round =>
   obtain ⟨i, rfl, hi, rfl, HT⟩ := hrel
   by_cases hin : i < n
   ·have hin' : (i : Int) < (n : Int) := by omega
    obtain ⟨W, hW⟩ : ∃ W, W = wr := ⟨_, rfl⟩
    subst hW
    obtain ⟨b1, o1, rfl, d1⟩ := HHA.out i hin
    obtain ⟨b2, o2, rfl, d2⟩ := HHB.out i hin
    have e1 := cN HT.out.1 d1
    have e2 := cN HT.out.1 d2
    have hb := xZ (l.getD i []) (m.getD i [])
    have HS : Hid (l.getD i [] = m.getD i [] → l.take (i + 1) = m.take (i + 1)) := aA fun e => by
     have h1 := HN.out.1; have h2 := HN.out.2
     rw [← IJ (l := l) (by omega), ← IJ (l := m) (by omega), HT.out.2, e]
    clear d1 d2
    by_cases he : l.getD i [] = m.getD i []
    ·have HE := aA he
     rw [decide_eq_true he] at hb
     clear he
     generalize bC (l.getD i []) = s1 at *
     generalize bC (m.getD i []) = s2 at *
     go_wp2_with fail
     go_quiet (fail)
     have HU := aA (HT.out.1.drewN nq)
     clear e1 e2
     generalize W.drewN nq = W2 at *
     go_wp2_with fail
     go_roundg (n - (i + 1))
     case measure => omega
     case rel => exact ⟨i + 1, by go_num, by omega, rfl, aA ⟨HU.out, HS.out HE.out⟩⟩
    have HE := aA he
    rw [decide_eq_false he] at hb
    have hne : decide (l = m) = false := by rw [decide_eq_false_iff_not]; intro e; exact HE.out (by rw [e])
    have HNE := aA hne
    clear he hne
    generalize bC (l.getD i []) = s1 at *
    generalize bC (m.getD i []) = s2 at *
    go_wp2_with fail
    go_quiet (fail)
    have HU := aA (HT.out.1.drewN nq)
    clear e1 e2
    generalize W.drewN nq = W2 at *
    go_wp2_with fail
    go_ret
    exact ⟨by rw [HNE.out]; rfl, HU.out⟩
   have hin' : ¬ (i : Int) < (n : Int) := by omega
   have heq : decide (l = m) = true := by
    have h1 := HN.out.1; have h2 := HN.out.2
    have h3 := HT.out.2
    rw [dY (by omega), dY (by omega)] at h3
    simpa using h3
   have HEQ := aA heq
   clear heq
   go_wp2_with fail
   go_ret
   exact ⟨by rw [HEQ.out]; rfl, HT.out.1⟩
 have hz : ((n : Int) == (k : Int)) = false := by simp; omega
 have hne : decide (l = m) = false := by
  have h1 := HN.out.1; have h2 := HN.out.2
  rw [decide_eq_false_iff_not]; rintro rfl; omega
 have HNE := aA hne
 clear hne
 go_in
 go_wp2_with fail
 go_ret
 exact ⟨by rw [HNE.out]; rfl, aB.refl [] w⟩
section
variable {w0 w w' : World} {v p room : Nat} {fs last : aG} {c : Nat} {G : List Nat}
theorem Lv.guardF (h : Lv w0 w v p room fs last c G) {F : List Nat} (u : aB F w w') (hF : ∀ i ∈ F, i ∈ G ∧ w0.heap.size ≤ i) {G' : List Nat} (hg : ∀ b ∈ G', w.heap.size ≤ b ∧ b < w'.heap.size) : Lv w0 w' v p room fs last c (G' ++ G) := by
 obtain ⟨D, k, s, X, h1, h2, h3, h4⟩ := h.st
 refine ⟨⟨D, k, s, X, ⟨h1.at_.keep u (fun i hi q => h4 i (hF i q).1 hi), h1.fuse, h1.upd.next u (fun i hi hlt => by have := (hF i hi).2; omega), h1.low⟩, h2, h3, fun i hi q => ?_⟩, fun i hi => ?_⟩
 ·rcases bK.1 hi with e | e
  ·have := h1.at_.lt i q
   have := (hg i e).1
   omega
  exact h4 i e q
 rcases bK.1 hi with e | e
 ·exact (hg i e).2
 exact dN (h.lt i e) u.size
theorem IK {room : Nat} {fs : aG} (h : dC room fs) : (bH fs).length = (fs.map fun p => bP p.2.data.length).sum := by
 have h1 : ∀ p ∈ fs, p.2.blks.length = bP p.2.data.length := fun p hp => (h.ok p hp).blks_len
 clear h
 induction fs with
 | nil => rfl
 | cons x l ih =>
  have e := ih fun p hp => h1 p (iZ _ hp)
  have e2 := h1 x (sO ..)
  simp only [bH, jT, bD, dR, sM] at e ⊢
  rw [e2]
  omega
theorem IL {room : Nat} {fs : aG} (h : dC room fs) {k : Nat} (hk : ∀ p ∈ fs, p.2.data.length ≤ 512 * k) : (bH fs).length ≤ k * fs.length := by
 rw [IK h]
 clear h
 induction fs with
 | nil => simp
 | cons x l ih =>
  have e := ih fun p hp => hk p (iZ _ hp)
  have e2 := hk x (sO ..)
  rw [dR, sM, eG, Nat.mul_succ]
  have : bP x.2.data.length ≤ k := by unfold bP; omega
  omega
end
section
variable {w0 W : World} {v p room : Nat} {fs last : aG} {c : Nat} {G : List Nat}
end
structure sI (w0 w : World) (v p room : Nat) (fs last : aG) (c : Nat) (G : List Nat) : Prop where
 st : ∃ (D : aI) (k s : Nat) (X : fV), dM w v p D room k s fs last X ∧ (∀ i ∈ X.fp v, w0.heap.size ≤ i) ∧ k ≤ 3 + 2 * c ∧ D.wr ≤ 10000 + 50000 * c ∧ ∀ i ∈ G, i ∉ X.fp v
 upd : aB [] w0 w
 lt : ∀ i ∈ G, i < w.heap.size
 one : 1 ≤ room
structure Dv (w0 w : World) (p room : Nat) (P : aG → Prop) (c : Nat) (G : List Nat) : Prop where
 st : ∃ (D : aI) (F : List Nat), bN w p D F ∧ (∀ i ∈ F, w0.heap.size ≤ i) ∧ room + 36 = D.n ∧ D.wr ≤ 10000 + 50000 * c ∧ (∀ i ∈ G, i ∉ F) ∧ ∀ l', iM D.blk l' → ∃ (k' : Nat) (fs' : aG), k' ≤ 3 + 2 * c ∧ P fs' ∧ jB l' room k' fs'
 upd : aB [] w0 w
 lt : ∀ i ∈ G, i < w.heap.size
 one : 1 ≤ room
structure sJ (w0 w : World) (p room : Nat) (P : aG → Prop) (safe : Bool) (c : Nat) (G : List Nat) : Prop where
 st : ∃ (D : aI) (k : Nat) (F : List Nat) (fs : aG), P fs ∧ bN w p D F ∧ D.down = false ∧ (safe = true → D.fuse < 0) ∧ D.wr ≤ 10000 + 50000 * c ∧ jB D.blk room k fs ∧ room + 36 = D.n ∧ k ≤ 3 + 2 * c ∧ (∀ i ∈ F, w0.heap.size ≤ i) ∧ ∀ i ∈ G, i ∉ F
 upd : aB [] w0 w
 lt : ∀ i ∈ G, i < w.heap.size
 one : 1 ≤ room
section
variable {w0 w w' : World} {v p room : Nat} {fs last : aG} {c : Nat} {G : List Nat} {P : aG → Prop}
theorem sI.of (h : Lv w0 w v p room fs last c G) (h1 : 1 ≤ room) : sI w0 w v p room fs last c G := by
 obtain ⟨D, k, s, X, h2, h3, h4, h5⟩ := h.st
 exact ⟨⟨D, k, s, X, h2.at_, h2.low, h3, h4, h5⟩, h2.upd, h.lt, h1⟩
theorem dM.dn {D D' : aI} {k s : Nat} {X : fV} (h1 : dM w v p D room k s fs last X) (hn : D'.n = D.n) : room + 36 = D'.n := by
 rw [hn]; have := h1.log.nD; omega
theorem sI.dv (h : sI w0 w v p room fs last c G) : Dv w0 w p room (fun f => f = last) c G := by
 obtain ⟨D, k, s, X, h1, h2, h3, h4, h5⟩ := h.st
 have hF : ∀ i ∈ X.F, i ∈ X.fp v := fun i hi => aV.2 (by simp [hi])
 exact ⟨⟨D, X.F, h1.log.dev, fun i hi => h2 i (hF i hi), h1.dn rfl, h4, fun i hi q => h5 i hi (hF i q), fun l' hl => ⟨k, last, h3, rfl, h1.inv.crash hl⟩⟩, h.upd, h.lt, h.one⟩
theorem Dv.keep (h : Dv w0 w p room P c G) (u : aB [] w w') : Dv w0 w' p room P c G := by
 obtain ⟨D, F, h1, h2⟩ := h.st
 exact ⟨⟨D, F, h1.upd u (by simp), h2⟩, h.upd.trans u, fun i hi => dN (h.lt i hi) u.size, h.one⟩
theorem Dv.imp {Q : aG → Prop} (h : Dv w0 w p room P c G) (hi : ∀ f, P f → Q f) : Dv w0 w p room Q c G := by
 obtain ⟨D, F, h1, h2, h3, h4, h5, h6⟩ := h.st
 exact ⟨⟨D, F, h1, h2, h3, h4, h5, fun l' hl => by obtain ⟨k', fs', q1, q2, q3⟩ := h6 l' hl; exact ⟨k', fs', q1, hi _ q2, q3⟩⟩, h.upd, h.lt, h.one⟩
theorem sI.fuse (h : sI w0 w v p room fs last c G) (n : Int) (hn : rF n) : Calls Tryz.prog 123 #[.pointer (some ⟨p, 0, none⟩), .int .i64 n] w fun r w' => r = .returned (.int .i64 0) ∧ sI w0 w' v p room fs last c G ∧ bT G w w' ∧ (n < 0 → Lv w0 w' v p room fs last c G) := by
 obtain ⟨D, k, s, X, h1, h2, h3, h4, h5⟩ := h.st
 have sp := h1.sep
 have hpF := h1.log.dev.p_mem
 refine (Fh w h1.log.dev h1.up n hn.1 hn.2).mono fun r w' ⟨e, hd, hu⟩ => ?_
 have hoff : ∀ {i x : Nat}, X.T i = x → x ≠ 3 → i ∉ [p] := fun q1 q2 q3 => by
  rw [aM.1 q3, sp.F p hpF] at q1
  exact q2 q1.symm
 have hp : p ∈ X.fp v := aV.2 (by simp [hpF])
 have hat : dM w' v p { D with fuse := max n (-1) } room k s fs last X :=
  ⟨(hu.block v (aH h1.box) (hoff sp.v (by decide))).trans h1.box,
   ⟨h1.log.log.upd hu (hoff sp.j (by decide)), hd, h1.log.ca.upd hu (fun i hi => hoff (sp.FC i hi) (by decide)), h1.log.jF, h1.log.jC, h1.log.ap, h1.log.nD, fun i hi => dN (h1.log.lt i hi) hu.size⟩,
   h1.fil.upd hu (fun i hi => hoff (sp.FM i hi) (by decide)), h1.las.upd hu (fun i hi => hoff (sp.FL i hi) (by decide)),
   h1.map.upd hu (hoff sp.q (by decide)) (fun i hi e => hoff (sp.nv i e) (by decide) hi) (fun i hi e => hoff (sp.lv i e) (by decide) hi), h1.dir.upd hu (fun i hi e => hoff (sp.va i e) (by decide) hi), h1.up, h1.inv, h1.see, sp⟩
 have hu2 : aB [] w0 w' := h.upd.next hu fun i hi hlt => by have := h2 i (by rw [aM.1 hi]; exact hp); omega
 have hlt' : ∀ i ∈ G, i < w'.heap.size := fun i hi => dN (h.lt i hi) hu.size
 exact ⟨e, ⟨⟨_, k, s, X, hat, h2, h3, h4, h5⟩, hu2, hlt', h.one⟩, ⟨_, hu, fun i hi q => h5 i hi (by rw [aM.1 q]; exact hp)⟩, fun hneg => ⟨⟨_, k, s, X, ⟨hat, by show max n (-1) < 0; omega, hu2, h2⟩, h3, h4, h5⟩, hlt'⟩⟩
theorem Dv.crash (h : Dv w0 w p room P c G) (hc : c ≤ 1000000) {pv : Value} {picks : List Int} (hp : uJ w pv picks) (hpk : ∀ x ∈ picks, -9223372036854775808 ≤ x ∧ x ≤ 9223372036854775807) (hpo : picks ≠ [] → ∀ b, pv.ownBlock = some b → b ∈ G ∨ b < w0.heap.size) :
  Calls Tryz.prog 22 #[.pointer (some ⟨p, 0, none⟩), pv] w fun r w' => r = .returned (.tuple #[]) ∧ sJ w0 w' p room P true c G ∧ bT G w w' := by
 obtain ⟨D, F, h1, h2, h3, h4, h5, h6⟩ := h.st
 have hsz := h.upd.size
 refine (OO w h1 (by omega) hp hpk fun hne b hb q => ?_).mono fun r w' ⟨D', F', hr, hcr, hwr, hD, hu, hF'⟩ => ?_
 ·rcases hpo hne b hb with e | e
  ·exact h5 b e q
  have := h2 b q; omega
 obtain ⟨k', fs', q1, q2, q3⟩ := h6 _ hcr.of
 refine ⟨hr, ⟨⟨D', k', F', fs', q2, hD, hcr.down, fun _ => by rw [hcr.fuse]; omega, by omega, q3, by rw [hcr.n]; exact h3, q1, fun i hi => h2 i (hF' i hi), fun i hi q => h5 i hi (hF' i q)⟩, h.upd.next hu fun i hi hlt => ?_, fun i hi => dN (h.lt i hi) hu.size, h.one⟩, ⟨_, hu, fun i hi q => h5 i hi q⟩⟩
 have := h2 i hi; omega
theorem sJ.fuse {sf : Bool} (h : sJ w0 w p room P sf c G) (n : Int) (hn : rF n) : Calls Tryz.prog 123 #[.pointer (some ⟨p, 0, none⟩), .int .i64 n] w fun r w' => r = .returned (.int .i64 0) ∧ sJ w0 w' p room P false c G ∧ bT G w w' := by
 obtain ⟨D, k, F, fs, h1, h2, h3, h4, h5, h6, h7, h8, h9, h10⟩ := h.st
 refine (Fh w h2 h3 n hn.1 hn.2).mono fun r w' ⟨e, hd, hu⟩ => ?_
 have hpF := h2.p_mem
 have hu2 : aB [] w0 w' := h.upd.next hu fun i hi hlt => by have := h9 i (by rw [aM.1 hi]; exact hpF); omega
 exact ⟨e, ⟨⟨_, k, F, fs, h1, hd, h3, (fun q => by cases q), h5, h6, h7, h8, h9, h10⟩, hu2, fun i hi => dN (h.lt i hi) hu.size, h.one⟩, ⟨_, hu, fun i hi q => h10 i hi (by rw [aM.1 q]; exact hpF)⟩⟩
theorem sJ.mount {sf : Bool} (h : sJ w0 w p room P sf c G) (hc : c ≤ 1000000) :
  Calls Tryz.prog 33 #[.pointer (some ⟨p, 0, none⟩)] w fun r w' => (∃ v fs, r = .returned (.tuple #[.pointer (some ⟨v, 0, none⟩), .int .i64 0]) ∧ P fs ∧ sI w0 w' v p room fs fs (c + 1) G ∧ bT G w w' ∧ (sf = true → Lv w0 w' v p room fs fs (c + 1) G)) ∨ (sf = false ∧ r = .returned (.tuple #[.pointer none, .int .i64 2]) ∧ Dv w0 w' p room P (c + 1) G ∧ bT G w w') := by
 obtain ⟨D, k, F, fs, h1, h2, h3, h4, h5, h6, h7, h8, h9, h10⟩ := h.st
 refine (IC w h2 h3 (by omega) h6 h7 h.one (by omega)).mono fun r w' ⟨e, D', vv, hr, hR, hok, hbad⟩ => ?_
 have hw := hR.wr
 have hsz := h.upd.size
 rcases hR.out with ⟨rfl, -, -, hfu⟩ | ⟨rfl, hnf, -⟩
 ·obtain ⟨v, s', X, rfl, hat, hu, hfp⟩ := hok rfl
  have hu2 : aB [] w0 w' := h.upd.next hu fun i hi hlt => by have := h9 i hi; omega
  have hlow : ∀ i ∈ X.fp v, w0.heap.size ≤ i := fun i hi => by
   rcases hfp i hi with q | q
   ·exact h9 i q
   omega
  have hG : ∀ i ∈ G, i ∉ X.fp v := fun i hi q => by
   rcases hfp i q with q | q
   ·exact h10 i hi q
   have := h.lt i hi; omega
  have hlt' : ∀ i ∈ G, i < w'.heap.size := fun i hi => dN (h.lt i hi) hu.size
  exact .inl ⟨v, fs, hr, h1, ⟨⟨D', k + 1, s', X, hat, hlow, by omega, by omega, hG⟩, hu2, hlt', h.one⟩, ⟨_, hu, h10⟩, fun hs => ⟨⟨D', k + 1, s', X, ⟨hat, hfu (h4 hs), hu2, hlow⟩, by omega, by omega, hG⟩, hlt'⟩⟩
 obtain ⟨rfl, ⟨F', hd, hu, hF'⟩, hcr⟩ := hbad (by decide)
 refine .inr ⟨?_, hr, ⟨⟨D', F', hd, fun i hi => ?_, by rw [hR.n]; exact h7, by omega, fun i hi q => ?_, fun l' hl => ?_⟩, h.upd.next hu fun i hi hlt => by have := h9 i hi; omega, fun i hi => dN (h.lt i hi) hu.size, h.one⟩, ⟨_, hu, h10⟩⟩
 ·cases sf with
  | false => rfl
  | true => have := hnf h3; have := h4 rfl; omega
 ·rcases hF' i hi with q | q
  ·exact h9 i q
  omega
 ·rcases hF' i q with q | q
  ·exact h10 i hi q
  have := h.lt i hi; omega
 obtain ⟨k', q1, q2⟩ := hcr l' hl
 exact ⟨k', fs, by omega, h1, q2⟩
end
end Go.Proofs.YtgpefiacbipfpaaGreatDoor
