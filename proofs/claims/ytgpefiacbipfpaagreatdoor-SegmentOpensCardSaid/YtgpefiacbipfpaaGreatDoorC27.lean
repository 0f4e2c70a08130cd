/- Appending, in plain words and in memory: the free blocks that it takes, the node that grows. -/
import Derived.Shelf.SlIter.Nil
import Derived.Test.YtgpefiacbipfpaaGreatDoorC26
set_option maxRecDepth 100000
set_option maxHeartbeats 8000000
namespace Go.Proofs.YtgpefiacbipfpaaGreatDoor
open Go.RowKit Go.Maps
def nO (room : Nat) (fs last : aG) : List aR := dZ (dG (cY room fs) (cY room last)) room 0
def nP (room : Nat) (fs last : aG) : Nat := aY (nO room fs last)
def rD (f : bO) (n : Nat) : Nat := bP (f.data.length + n) - bP f.data.length
def lE (room : Nat) (fs last : aG) (nm : Bs) (n : Nat) : Nat := match bF fs nm with | none => 80 | some f => if 32768 < f.data.length + n then 84 else if nP room fs last < rD f n then 85 else 0
def tJ (room : Nat) (fs last : aG) (f : bO) (d : Bs) : bO := grown f (cL (nO room fs last) (rD f d.length)) d
def uS (room : Nat) (fs last : aG) (nm d : Bs) : aG := match bF fs nm with | none => fs | some f => cQ bQ fs nm (tJ room fs last f d)
theorem CZ {room : Nat} (fs last : aG) {b : Nat} (h : b < room) : dG (cY room fs) (cY room last) b = (!decide (b ∈ bH fs) && !decide (b ∈ bH last)) := by
 unfold dG
 rw [dI, dI, sG fs h, sG last h]
 rfl
theorem PG {room : Nat} {fs last : aG} {b : Nat} : b ∈ bY (nO room fs last) ↔ b < room ∧ b ∉ bH fs ∧ b ∉ bH last := by
 unfold nO
 rw [vJ, EG]
 constructor
 ·rintro ⟨h1, h2⟩
  rw [CZ fs last h1] at h2
  simp at h2
  exact ⟨h1, h2⟩
 rintro ⟨h1, h2, h3⟩
 exact ⟨h1, by rw [CZ fs last h1]; simp [h2, h3]⟩
theorem eY.grow {l : Nat → aL} {room k s : Nat} {fs last : aG} (h : eY l room k s fs last) {nm : Bs} {f : bO} (hg : bF fs nm = some f) (n : Nat) : oD room fs last nm f (cL (nO room fs last) n) where
 get := hg
 ok := h.now
 kins := h.kin
 was := fun q hq => Az h.was.nodup hq
 pos := BD _ _ fun r hr => (wV _ _ _ r hr).1
 free := fun b hb => by
  rw [vK] at hb
  exact PG.1 (rM hb)
 nodup := by
  rw [vK]
  have : (bY (nO room fs last)).Nodup := by unfold nO; rw [vJ]; exact KW _ _
  exact this.sublist (List.take_sublist ..)
theorem take_add {room : Nat} {fs last : aG} (hr : room ≤ 512) {n : Nat} (hn : n ≤ 1000) : CI (cL (nO room fs last) n) := by
 have hp := BD (nO room fs last) n fun r hr => (wV _ _ _ r hr).1
 refine ⟨hp, EF _ _ _ fun r hr' => ?_, ?_⟩
 ·have := (wV _ _ _ r hr').2
  omega
 have h1 := sU hp
 have h2 : aY (cL (nO room fs last) n) ≤ n := by rw [← mH, vK, bX]; omega
 omega
theorem Da {fs : aG} (hs : cP bQ fs) {nm : Bs} {g : bO} {b : Nat} : b ∈ bH (cQ bQ fs nm g) ↔ b ∈ g.blks ∨ ∃ p ∈ fs, p.1 ≠ nm ∧ b ∈ p.2.blks := by
 rw [(EQ (wX dD hs nm g)).mem_iff]
 show b ∈ List.flatMap _ _ ↔ _
 rw [jT, bK]
 constructor
 ·rintro (h | h)
  ·exact .inl h
  obtain ⟨p, hp, hb⟩ := lK.1 h
  have := mX.1 hp
  exact .inr ⟨p, this.1, this.2, hb⟩
 rintro (h | ⟨p, hp, hn, hb⟩)
 ·exact .inl h
 exact .inr (lK.2 ⟨p, mX.2 ⟨hp, hn⟩, hb⟩)
theorem Db {fs : aG} (hs : cP bQ fs) {nm : Bs} {f : bO} (hg : bF fs nm = some f) {b : Nat} : b ∈ bH fs ↔ b ∈ f.blks ∨ ∃ p ∈ fs, p.1 ≠ nm ∧ b ∈ p.2.blks := by
 constructor
 ·intro h
  obtain ⟨p, hp, hb⟩ := lK.1 h
  by_cases e : p.1 = nm
  ·have := mW dD hs hp
   rw [e, hg] at this
   rw [mQ this]
   exact .inl hb
  exact .inr ⟨p, hp, e, hb⟩
 rintro (h | ⟨p, hp, -, hb⟩)
 ·exact nW (eU hg) h
 exact nW hp hb
theorem PH {room : Nat} {fs : aG} (hs : cP bQ fs) {nm : Bs} {f : bO} (hg : bF fs nm = some f) (rs : List aR) (d : Bs) : fT (cY room fs) rs = cY room (cQ bQ fs nm (grown f rs d)) := by
 refine CX (by rw [rC, gO]) fun b hb => ?_
 have h1 := As (cY room fs) rs b
 rw [dI, dI, sG fs hb] at h1
 have hl : (fT (cY room fs) rs)[b]? = some ((fT (cY room fs) rs)[b]'(by rw [rC, gO]; exact hb)) := bL _
 rw [hl] at h1 ⊢
 simp only [tT] at h1
 rw [h1]
 congr 1
 have hm : b ∈ bH (cQ bQ fs nm (grown f rs d)) ↔ b ∈ bH fs ∨ b ∈ bY rs := by
  rw [Da hs, Db hs hg, vY, bK]
  constructor
  ·rintro ((h | h) | h)
   ·exact .inl (.inl h)
   ·exact .inr h
   exact .inl (.inr h)
  rintro ((h | h) | h)
  ·exact .inl (.inl h)
  ·exact .inr h
  exact .inl (.inr h)
 rw [Bool.eq_iff_iff]
 simp [hm]
theorem PI {fs : aG} (hs : cP bQ fs) (A : Bs → Nat) {nm : Bs} {f g : bO} (hg : bF fs nm = some f) : dW (cQ bQ fs nm g) A = dW fs A := by
 refine wW dD (qZ (sT dD hs nm g) _) (qZ hs A) fun k => ?_
 rw [rA, pS dD hs, rA]
 by_cases h : nm = k
 ·subst h; rw [aF rfl, hg]; rfl
 rw [aE h]
theorem dL.grow {w w' : World} {mf : Nat} {fs : aG} {A : Bs → Nat} {R : Bs → Value} {FM : List Nat} (h : dL w mf fs A R FM) (hs : cP bQ fs) {nm : Bs} {f g : bO} {rv : Value} (hg : bF fs nm = some f) (u : aB [A nm] w w')
  (hn : iG w' 0 (A nm) g.data.length rv g.runs) (hr : ∀ b, rv.ownBlock = some b → w.heap.size ≤ b) : dL w' mf (cQ bQ fs nm g) A (fP R nm rv) (rv.ownBlock.toList ++ FM) := by
 have hmem : ∀ p ∈ cQ bQ fs nm g, (p = (nm, g)) ∨ (p ∈ fs ∧ p.1 ≠ nm) := fun p hp => uD hs hp
 have hf := eU hg
 have e2 : fP R nm rv nm = rv := by simp [fP]
 have o2 : ∀ {k}, k ≠ nm → fP R nm rv k = R k := fun hk => by simp [fP, hk]
 have hAm : A nm ≠ mf := fun e => by
  obtain ⟨es, clock, hb, -⟩ := h.map
  have := (h.node _ hf).1
  simp only at this
  rw [e, hb] at this
  cases this
 refine ⟨by rw [PI hs A hg]; exact mJ h.map u (by simp; exact fun e => hAm e.symm), fun p hp => ?_, by simp [h.mem], fun p hp => ?_, fun p hp b hb => ?_, fun p hp q hq hne => ?_, fun p hp q hq hne b hb => ?_, fun i hi => ?_⟩
 ·rcases hmem p hp with rfl | ⟨hp, hk⟩
  ·rw [e2]; exact hn
  rw [o2 hk]
  have hnd := h.node p hp
  have hne := h.apA p hp _ hf hk
  refine hnd.upd u (fun q => hne (aM.1 q)) (fun b hb q => ?_)
  rw [aM.1 q] at hb
  exact tH hnd.2 (h.node _ hf).1 (by decide) hb
 ·rcases hmem p hp with rfl | ⟨hp, hk⟩
  ·simp [h.memA _ hf]
  simp [h.memA p hp]
 ·rcases hmem p hp with rfl | ⟨hp, hk⟩
  ·rw [e2] at hb; simp [hb]
  rw [o2 hk] at hb; simp [h.memR p hp b hb]
 ·rcases hmem p hp with rfl | ⟨hp, hk⟩
  ·rcases hmem q hq with rfl | ⟨hq, hk2⟩
   ·exact absurd rfl hne
   exact h.apA (nm, f) hf q hq hne
  rcases hmem q hq with rfl | ⟨hq, hk2⟩
  ·exact h.apA p hp (nm, f) hf hne
  exact h.apA p hp q hq hne
 ·rcases hmem p hp with rfl | ⟨hp, hk⟩
  ·rcases hmem q hq with rfl | ⟨hq, hk2⟩
   ·exact absurd rfl hne
   rw [e2] at hb; rw [o2 hk2]; intro e; have := h.lt _ (h.memR q hq b e); have := hr b hb; omega
  rw [o2 hk] at hb
  rcases hmem q hq with rfl | ⟨hq, hk2⟩
  ·rw [e2]; intro e; have := h.lt _ (h.memR p hp b hb); have := hr b e; omega
  rw [o2 hk2]; exact h.apR p hp q hq hne b hb
 simp only [bK, mR] at hi
 rcases hi with hi | hi
 ·exact (hn.2.block i hi).2
 exact dN (h.lt i hi) u.size
theorem dM.used {w w' : World} {v p : Nat} {D : aI} {room k s : Nat} {fs last : aG} {X : fV} (h : dM w v p D room k s fs last X) (u : aB [v, X.j] w w') (hb : w'.heap[v]? = some (eW X.j X.c X.q X.mf X.ml X.va false)) (hl : bZ w' X.j p (room + 16) k false) : dM w' v p D room k s fs last X := by
 have hv1 : ∀ {i x : Nat}, X.T i = x → x ≠ 1 → x ≠ 2 → i ∉ [v, X.j] := fun h1 h2 h3 hi => by
  simp only [aJ, cA, cG] at hi
  rcases hi with hi | hi
  ·exact eI h1 h.sep.v h2 hi
  exact eI h1 h.sep.j h3 hi
 exact ⟨hb, ⟨hl, h.log.dev.upd u fun i hi => hv1 (h.sep.F i hi) (by decide) (by decide), h.log.ca.upd u fun i hi => hv1 (h.sep.FC i hi) (by decide) (by decide), h.log.jF, h.log.jC, h.log.ap, h.log.nD, fun i hi => dN (h.log.lt i hi) u.size⟩, h.fil.upd u fun i hi => hv1 (h.sep.FM i hi) (by decide) (by decide), h.las.upd u fun i hi => hv1 (h.sep.FL i hi) (by decide) (by decide),
  h.map.upd u (hv1 h.sep.q (by decide) (by decide)) (fun i hi e => hv1 (h.sep.nv _ e) (by decide) (by decide) hi) (fun i hi e => hv1 (h.sep.lv _ e) (by decide) (by decide) hi), h.dir.upd u (fun i hi e => hv1 (h.sep.va _ e) (by decide) (by decide) hi), h.up, h.inv, h.see, h.sep⟩
theorem dM.upd_used {w w' : World} {v : Nat} {X : fV} (u : aB [v, X.j] w w') : aB (X.fp v) w w' := AA u fun i hi => by
 simp only [aJ, cA, cG] at hi
 rcases hi with rfl | rfl <;> exact aV.2 (by simp)
theorem oE.write {l : Nat → aL} {room k s : Nat} {fs last : aG} {nm : Bs} {f : bO} {rs : List aR} {d : Bs} {i kk : Nat} (h : oE l room k s fs last nm f rs (f.data ++ d.take i)) (g : oD room fs last nm f rs) {b fr : Nat} {old : Bs} (hi : i ≤ d.length) (hb : (f.blks ++ bY rs)[(f.data.length + i) / 512]? = some b)
  (hfr : fr = (f.data.length + i) % 512) (hk : kk = ((d.drop i).take (512 - fr)).length) (ho : old.length = 512) (hold : fr = 0 ∨ old = (l (36 + b)).view) :
  oE (exec1 l (.write (36 + b) (sH old fr (d.drop i)))) room k s fs last nm f rs (f.data ++ d.take (i + kk)) := by
 have hk1 : kk ≤ 512 - fr := by rw [hk, bX]; omega
 have hk2 : kk ≤ d.length - i := by rw [hk, bX, eD]; omega
 have hk3 : kk = 512 - fr ∨ kk = d.length - i := by rw [hk, bX, eD]; omega
 have hti : (d.take i).length = i := by rw [bX]; omega
 have e : d.take (i + kk) = d.take i ++ (d.drop i).take kk := List.take_add
 have hlen : (f.data ++ (d.take i ++ (d.drop i).take kk)).length = f.data.length + i + kk := by
  rw [bD, bD, hti, bX, eD]; omega
 rw [e]
 refine h.step g hb (by rw [bD, hti]; omega) (by rw [hlen]; omega) (CY ho (by omega)) fun i' hi' hx => ?_
 rw [hlen] at hx
 by_cases q : i' < fr
 ·rw [Pr q (by omega)]
  rcases hold with h0 | h0
  ·omega
  rw [h0]
  have h1 := h.part _ b i' hb hi' (by rw [bD, hti]; omega)
  have h9 : (f.data ++ d.take i ++ (d.drop i).take kk)[512 * ((f.data.length + i) / 512) + i']? = (f.data ++ d.take i)[512 * ((f.data.length + i) / 512) + i']? := kQ (by rw [bD, hti]; omega)
  rw [show (l (36 + b)).view = oX l b from rfl, h1, ← eJ, h9]
 rw [Ps (by omega) (by omega) (by rw [eD]; omega) hi', ← eJ, oN (by rw [bD, hti]; omega), bD, hti, qE (by omega)]
 congr 1
 omega
def PJ (w : World) (v p : Nat) (D : aI) (room k s : Nat) (fs last : aG) (X : fV) (nm d : Bs) (r : Ending) (w' : World) : Prop :=
 ∃ (e : Nat) (D' : aI), r = .returned (.int .i64 (if e = 0 then lE room fs last nm d.length else e : Nat)) ∧ iO D e D' 40000 ∧
  (e = 0 → lD w v p room X D' k s (if lE room fs last nm d.length = 0 then uS room fs last nm d else fs) last w') ∧
  (e ≠ 0 → AB w v p X D' w' ∧ ∀ l', iM D'.blk l' → jB l' room k last)
theorem Rd.naught {w : World} {v : Value} {l : Bs} (h : Rd w v l) (he : l = []) (w' : World) : Rd w' v l := by
 subst he
 obtain ⟨⟨a, c, rfl, h1, h2, -⟩, h4⟩ := h
 exact ⟨⟨a, c, rfl, h1, h2, fun i hi => absurd hi (by simp)⟩, h4⟩
theorem lD.same {w w' : World} {v p : Nat} {D : aI} {room k s : Nat} {fs last : aG} {X : fV} (h : dM w' v p D room k s fs last X) (u : aB (X.fp v) w w') : lD w v p room X D k s fs last w' := ⟨X, h, u, fun _i hi => .inl hi⟩
theorem oD.grown_ok {room : Nat} {fs last : aG} {nm : Bs} {f : bO} {rs : List aR} (g : oD room fs last nm f rs) {d : Bs} (hlen : aY rs = bP (f.data.length + d.length) - bP f.data.length) (hmost : f.data.length + d.length ≤ 32768) : mY room (grown f rs d) := by
 have hok := g.ok.ok _ g.mem
 have hb := vY f rs d
 refine ⟨zD rs _ hok.canon g.pos, fun r hr => ?_, ?_, by show (f.data ++ d).length ≤ _; rw [bD]; exact hmost⟩
 ·have hc : jL (rs.foldl gR f.runs) := zD rs _ hok.canon g.pos
  have hpos := oT hc r hr
  have hm : r.1 + r.2 - 1 ∈ (grown f rs d).blks := zF.2 ⟨r, hr, by omega, by omega⟩
  rw [hb] at hm
  have : r.1 + r.2 - 1 < room := by
   rcases bK.1 hm with q | q
   ·exact hok.blks_lt _ q
   exact (g.free _ q).1
  omega
 have h1 := hok.len
 have e1 : aY (grown f rs d).runs = (f.blks ++ bY rs).length := by rw [← hb]; exact (mH _).symm
 rw [e1, bD, bO.blks, mH, mH]
 show _ = bP (f.data ++ d).length
 simp only at h1
 rw [h1, hlen, bD]
 unfold bP; omega
structure jP (w4 : World) (v p : Nat) (D : aI) (room k s : Nat) (fs last : aG) (X : fV) (nm : Bs) (f : bO) (rs : List aR) (d : Bs) (i : Nat) (Di : aI) (Fi : List Nat) (li : List (Bc.Nd Int fE)) (FCi : List Nat) (Vi : Nat → Bs) (wr : World) : Prop where
 box : wr.heap[v]? = some (eW X.j X.c X.q X.mf X.ml X.va false)
 log : jE wr X.j p (room + 16) k X.c X.m false Di Fi li Vi FCi
 ran : iO D 0 Di i
 stage : oE Di.blk room k s fs last nm f rs (f.data ++ d.take i)
 see : ∀ b, b < room → Vi (16 + b) = (Di.blk (36 + b)).view
 upd : aB (v :: X.j :: (X.F ++ X.FC)) w4 wr
 subF : ∀ a ∈ Fi, a ∈ X.F ∨ w4.heap.size ≤ a
 subC : ∀ a ∈ FCi, a ∈ X.FC ∨ w4.heap.size ≤ a
section
variable {w w4 wr : World} {v p : Nat} {D : aI} {room k s : Nat} {fs last : aG} {X : fV} {nm : Bs} {f : bO} {rs : List aR} {d : Bs} {i : Nat} {Di : aI} {Fi : List Nat} {li : List (Bc.Nd Int fE)} {FCi : List Nat} {Vi : Nat → Bs}
theorem jP.keep {w' : World} (h : jP w4 v p D room k s fs last X nm f rs d i Di Fi li FCi Vi wr) (u : aB [] wr w') : jP w4 v p D room k s fs last X nm f rs d i Di Fi li FCi Vi w' :=
 ⟨gF u h.box, h.log.upd u (by simp) (by simp) (by simp), h.ran, h.stage, h.see, h.upd.trans (u.mono (by simp)), h.subF, h.subC⟩
theorem jP.keepG {w' : World} (h : jP w4 v p D room k s fs last X nm f rs d i Di Fi li FCi Vi wr) {G : List Nat} (u : aB G wr w') (hG : ∀ a ∈ G, w4.heap.size ≤ a ∧ a ∉ Fi ∧ a ∉ FCi) (hv : v < w4.heap.size) (hj : X.j < w4.heap.size) : jP w4 v p D room k s fs last X nm f rs d i Di Fi li FCi Vi w' :=
 ⟨(u.block v (aH h.box) (fun q => by have := (hG v q).1; omega)).trans h.box, h.log.upd u (fun q => by have := (hG _ q).1; omega) (fun a ha q => (hG a q).2.1 ha) (fun a ha q => (hG a q).2.2 ha), h.ran, h.stage, h.see, h.upd.next u (fun a ha hlt => by have := (hG a ha).1; omega), h.subF, h.subC⟩
theorem jP.dev (h : jP w4 v p D room k s fs last X nm f rs d i Di Fi li FCi Vi wr) : Di.down = false := by
 rcases h.ran.out with ⟨-, -, h, -⟩ | ⟨h, -⟩
 ·exact h
 cases h
theorem jP.off (h : jP w4 v p D room k s fs last X nm f rs d i Di Fi li FCi Vi wr) (H : dM w v p D room k s fs last X) (hsz : w.heap.size ≤ w4.heap.size) : v ∉ X.j :: (Fi ++ FCi) ∧ (∀ a ∈ X.j :: (Fi ++ FCi), a < w4.heap.size → a ∈ v :: X.j :: (X.F ++ X.FC)) := by
 obtain ⟨o1, o2, o3, -⟩ := H.off
 have hv := H.lt v (aV.2 (by simp))
 constructor
 ·intro q
  simp only [aJ, bK] at q
  rcases q with q | q | q
  ·exact o1 q
  ·rcases h.subF v q with q | q
   ·exact o2 q
   omega
  rcases h.subC v q with q | q
  ·exact o3 q
  omega
 intro a q hlt
 simp only [aJ, bK] at q ⊢
 rcases q with q | q | q
 ·exact .inr (.inl q)
 ·rcases h.subF a q with q | q
  ·exact .inr (.inr (.inl q))
  omega
 rcases h.subC a q with q | q
 ·exact .inr (.inr (.inr q))
 omega
theorem jP.got (h : jP w4 v p D room k s fs last X nm f rs d i Di Fi li FCi Vi wr) (H : dM w v p D room k s fs last X) (hsz : w.heap.size ≤ w4.heap.size) {w7 : World} {D7 : aI} {l7 : List (Bc.Nd Int fE)} {FC7 : List Nat} (hE : bV [] Di 0 D7)
  (hL : jE w7 X.j p (room + 16) k X.c X.m (decide (0 = 2)) D7 Fi l7 Vi FC7) (hu : aB (X.j :: (Fi ++ FCi)) wr w7) (hF : ∀ a ∈ FC7, a ∈ FCi ∨ wr.heap.size ≤ a) : jP w4 v p D room k s fs last X nm f rs d i D7 Fi l7 FC7 Vi w7 := by
 obtain ⟨a1, a2⟩ := h.off H hsz
 have hb : D7.blk = Di.blk := hE.up.2.2.2
 refine ⟨(hu.block v (aH h.box) a1).trans h.box, hL, (h.ran.next (hE.ran (c := 0) (by simp))).more (by omega), by rw [hb]; exact h.stage, fun b hb' => by rw [hb]; exact h.see b hb', h.upd.next hu fun a ha hlt => a2 a ha hlt, h.subF, fun a ha => ?_⟩
 rcases hF a ha with q | q
 ·exact h.subC a q
 have := h.upd.size; exact .inr (by omega)
theorem jP.wrote (h : jP w4 v p D room k s fs last X nm f rs d i Di Fi li FCi Vi wr) (H : dM w v p D room k s fs last X) (hsz : w.heap.size ≤ w4.heap.size) {w8 : World} {D8 : aI} {F8 FC8 : List Nat} {l8 : List (Bc.Nd Int fE)} {b x kk : Nat} {xb : Bs} (hx : x = 16 + b) (hkk : 1 ≤ kk)
  (hE : bV [.write (20 + x) xb] Di 0 D8) (hL : jE w8 X.j p (room + 16) k X.c X.m (decide (0 = 2)) D8 F8 l8 (if 0 = 0 then pE Vi x xb else Vi) FC8) (hu : aB (X.j :: (Fi ++ FCi)) wr w8) (hF : ∀ a ∈ F8, a ∈ Fi ∨ wr.heap.size ≤ a) (hC : ∀ a ∈ FC8, a ∈ FCi ∨ wr.heap.size ≤ a)
  (hst : oE (exec1 Di.blk (.write (36 + b) xb)) room k s fs last nm f rs (f.data ++ d.take (i + kk))) : jP w4 v p D room k s fs last X nm f rs d (i + kk) D8 F8 l8 FC8 (pE Vi x xb) w8 := by
 obtain ⟨a1, a2⟩ := h.off H hsz
 have hb : D8.blk = exec1 Di.blk (.write (36 + b) xb) := by rw [hE.up.2.2.2, vF, sS, hx, show 20 + (16 + b) = 36 + b by omega]
 rw [aF rfl] at hL
 have hs := h.upd.size
 refine ⟨(hu.block v (aH h.box) a1).trans h.box, hL, (h.ran.next (hE.ran (c := 1) (by simp))).more (by omega), by rw [hb]; exact hst, fun b' hb' => ?_, h.upd.next hu fun a ha hlt => a2 a ha hlt, fun a ha => ?_, fun a ha => ?_⟩
 ·rw [hb, hx]
  unfold pE
  by_cases e : b' = b
  ·subst e; rw [aF rfl, mT, aL.view_push]
  rw [aE (by omega), fH _ (by omega)]; exact h.see b' hb'
 ·rcases hF a ha with q | q
  ·exact h.subF a q
  exact .inr (by omega)
 rcases hC a ha with q | q
 ·exact h.subC a q
 exact .inr (by omega)
theorem jP.down (h : jP w4 v p D room k s fs last X nm f rs d i Di Fi li FCi Vi wr) (H : dM w v p D room k s fs last X) (hu04 : aB (X.fp v) w w4) {t : List cE} {w8 w9 : World} {D8 : aI} {F8 FC8 : List Nat} {l8 : List (Bc.Nd Int fE)} {V8 : Nat → Bs} {c : Nat} (hc : i + t.length ≤ c) (hE : bV t Di 2 D8)
  (hL : jE w8 X.j p (room + 16) k X.c X.m (decide (2 = 2)) D8 F8 l8 V8 FC8) (hu : aB (X.j :: (Fi ++ FCi)) wr w8) (hF : ∀ a ∈ F8, a ∈ Fi ∨ wr.heap.size ≤ a) (hb9 : w9.heap[v]? = some (eW X.j X.c X.q X.mf X.ml X.va (false || decide (2 = 2)))) (hu9 : aB [v] w8 w9) (hC : ∀ p q, t = p ++ q → xT (exec p Di.blk) room k s last) :
  iO D 2 D8 c ∧ AB w v p X D8 w9 ∧ ∀ l', iM D8.blk l' → jB l' room k last := by
 have hsz := hu04.size
 obtain ⟨a1, a2⟩ := h.off H hsz
 obtain ⟨o1, o2, o3, o4, o5, o6, o7, o8, -⟩ := H.off
 have hs := h.upd.size
 have hF8 : ∀ a ∈ F8, a ∈ X.F ∨ w4.heap.size ≤ a := fun a ha => by
  rcases hF a ha with q | q
  ·exact h.subF a q
  exact .inr (by omega)
 have hvl := H.lt v (aV.2 (by simp))
 have hjl := H.lt X.j (aV.2 (by simp))
 have hvF : v ∉ F8 := fun q => by
  rcases hF8 v q with q | q
  ·exact o2 q
  omega
 have hjF : X.j ∉ F8 := fun q => by
  rcases hF8 X.j q with q | q
  ·exact o7 q
  omega
 have hu49 : aB (v :: X.j :: (X.F ++ X.FC)) w4 w9 := (h.upd.next hu fun a ha hlt => a2 a ha hlt).trans (hu9.mono (by simp))
 have hfew := H.inv.few
 refine ⟨(h.ran.next (hE.ran (aQ _))).more hc, ⟨v :: X.j :: F8, ⟨⟨X.j, X.c, X.q, X.mf, X.ml, X.va, _, room + 16, _, _, hb9, hL.log.upd hu9 (by simp; exact fun e => o1 e.symm), ⟨F8, hL.dev.upd hu9 (fun a ha q => hvF (by rw [← aM.1 q]; exact ha)), fun a ha => by simp [ha], hvF, hjF⟩, by omega, o1, by simp, by simp⟩, (hE.dn (by omega)).2.2.1⟩, hu04.trans (hu49.mono fun a ha _ => ?_), fun a ha => ?_⟩, fun l' hcr => ?_⟩
 ·simp only [aJ, bK] at ha
  rcases ha with q | q | q | q <;> exact aV.2 (by simp [q])
 ·simp only [aJ] at ha
  rcases ha with q | q | q
  ·exact .inl (aV.2 (by simp [q]))
  ·exact .inl (aV.2 (by simp [q]))
  rcases hF8 a q with q | q
  ·exact .inl (aV.2 (by simp [q]))
  exact .inr (by omega)
 obtain ⟨-, -, -, p1, q1, he, hbk⟩ := hE.dn (by omega)
 rw [hbk] at hcr
 exact (hC p1 q1 he).crash hcr
end
theorem PK (w : World) {v p : Nat} {D : aI} {room k s : Nat} {fs last : aG} {X : fV} (h : dM w v p D room k s fs last X) (hwr : D.wr ≤ 137438900000) (nm : ByteArray) (hs : nm.size ≤ maxLen) {dv : Value} {d : Bs} (hd : Rd w dv d) (hdo : d ≠ [] → ∀ g, dv.ownBlock = some g → g ∉ X.fp v ∧ g < w.heap.size) (hdl : d.length ≤ 140737488355328) :
  Calls Tryz.prog 13 #[.pointer (some ⟨v, 0, none⟩), .string nm, dv] w (PJ w v p D room k s fs last X nm.data.toList d) := by
 have hvl := aH h.box
 obtain ⟨o1, o2, o3, o4, o5, o6, o7, o8, o9, o10, o11, o12, o13, o14, o15⟩ := h.off
 have hfew := h.inv.few
 have hU := Ay w h.box h.log.log h.log.dev (by omega) o1 h.fil o4 o9 nm hs
 rw [h.up] at hU
 have HU := aA hU
 have H := aA h
 obtain ⟨ad, cd, hdv, -, -, -⟩ := hd.slice
 subst hdv
 have HD := aA (aC hd hdo)
 obtain ⟨n0, hn0⟩ : ∃ n0, n0 = d.length := ⟨_, rfl⟩
 rw [← hn0] at HD hdl ⊢
 have HN0 := aA hn0
 clear h hU hd hdo hn0
 go_in
 go_wp2_with fail
 refine HU.out.mono ?_
 rintro r w1 ⟨rfl, hb1, hl1, hu1⟩
 simp only [Bool.false_or, Bool.false_eq_true, if_false] at hb1 hl1 ⊢
 have H1 := aA (aC (H.out.used hu1 hb1 (by simpa using hl1)) hu1)
 clear hb1 hl1 hu1 HU
 cases hg : bF fs nm.data.toList with
 | none =>
  have hc : lE room fs last nm.data.toList d.length = 80 := by unfold lE; rw [hg]
  have HC := aA hc
  clear hc
  go_wp2_with fail
  go_ret
  exact ⟨0, D, by rw [aF rfl, HC.out]; rfl, (iO.refl H.out.up).more (by omega), fun _ => by rw [HC.out]; exact lD.same H1.out.1 (dM.upd_used H1.out.2), fun h => absurd rfl h⟩
 | some f =>
  have hfo := H.out.inv.now.ok _ (eU hg)
  have hnd := H1.out.1.fil.node _ (eU hg)
  have hsize := hfo.most
  simp only at hfo hnd hsize
  have HNE := aA (FY w1 hnd hsize n0 hdl)
  have HFO := aA hfo
  have HG := aA hg
  by_cases hlong : 32768 < f.data.length + n0
  ·have hc : lE room fs last nm.data.toList d.length = 84 := by unfold lE; rw [hg, ← HN0.out]; dsimp only; rw [aF hlong]
   have HC := aA hc
   rw [aF hlong, aF hlong] at HNE
   clear hc hnd hfo hg hlong
   go_wp2_with fail
   refine HNE.out.mono ?_
   rintro r w2 ⟨rfl, ha2⟩
   have hu2 : aB [] w1 w2 := (aB.refl [] w1).alike ha2
   go_wp2_with fail
   go_ret
   exact ⟨0, D, by rw [aF rfl, HC.out]; rfl, (iO.refl H.out.up).more (by omega), fun _ => by rw [HC.out]; exact lD.same (H1.out.1.keep hu2 (by simp)) ((dM.upd_used H1.out.2).trans (hu2.mono (by simp))), fun h => absurd rfl h⟩
  rw [aE hlong, aE hlong] at HNE
  have hneed : rD f n0 = gM (f.data.length + n0) - gM f.data.length := rfl
  rw [← hneed] at HNE
  have hneed65 : rD f n0 ≤ 65 := by unfold rD bP; omega
  have HND := aA hneed
  generalize hnd0 : rD f n0 = need at *
  by_cases hfree : nP room fs last < need
  ·have hc : lE room fs last nm.data.toList d.length = 85 := by unfold lE; rw [hg, ← HN0.out]; dsimp only; rw [aE hlong, hnd0, aF hfree]
   have HC := aA hc
   have HT := aA fun (Y : World) (u : aB [] w1 Y) => OA Y (H1.out.1.keep u (by simp)).map (by rw [gO, gO]) (by rw [gO]; omega) need (by rw [gO]; exact hfree) (by omega)
   have c2 := aD H1.out.1.box 2
   simp only [bA, bB, bS] at c2
   clear hc hnd hfo hg hlong hneed hfree
   go_wp2_with fail
   refine HNE.out.mono ?_
   rintro r w2 ⟨rfl, ha2⟩
   have hu2 : aB [] w1 w2 := (aB.refl [] w1).alike ha2
   have k2 := cN hu2 c2
   have HU2 := aA hu2
   clear hu2 ha2
   go_wp2_with fail
   refine (HT.out w2 HU2.out).mono ?_
   rintro r w3 ⟨rfl, hu3⟩
   have hu13 := HU2.out.trans hu3
   go_wp2_with fail
   go_ret
   exact ⟨0, D, by rw [aF rfl, HC.out]; rfl, (iO.refl H.out.up).more (by omega), fun _ => by rw [HC.out]; exact lD.same (H1.out.1.keep hu13 (by simp)) ((dM.upd_used H1.out.2).trans (hu13.mono (by simp))), fun h => absurd rfl h⟩
  have hc : lE room fs last nm.data.toList d.length = 0 := by unfold lE; rw [hg, ← HN0.out]; dsimp only; rw [aE hlong, hnd0, aE hfree]
  have HC := aA hc
  have hfree' : need ≤ aY (dZ (dG (cY room fs) (cY room last)) (cY room fs).length 0) := by rw [gO]; exact Nat.le_of_not_lt hfree
  have HT := aA fun (Y : World) (u : aB [] w1 Y) => Ho Y (H1.out.1.keep u (by simp)).map (by rw [gO, gO]) (by rw [gO]; omega) need hfree'
  have c2 := aD H1.out.1.box 2
  simp only [bA, bB, bS] at c2
  have hle : f.data.length + n0 ≤ 32768 := by omega
  clear hc hnd hfo hg hlong hneed
  go_wp2_with fail
  refine HNE.out.mono ?_
  rintro r w2 ⟨rfl, ha2⟩
  have hu2 : aB [] w1 w2 := (aB.refl [] w1).alike ha2
  have k2 := cN hu2 c2
  have HU2 := aA hu2
  clear hu2 ha2
  go_wp2_with fail
  refine (HT.out w2 HU2.out).mono ?_
  rintro r w3 ⟨rv3, rfl, hr3, hm3, hu3⟩
  rw [gO] at hr3 hm3
  have hrs : cL (dZ (dG (cY room fs) (cY room last)) room 0) need = cL (nO room fs last) need := rfl
  rw [hrs] at hr3 hm3
  have hgrow := H.out.inv.grow HG.out need
  have hadd := take_add (fs := fs) (last := last) (by omega : room ≤ 512) (by omega : need ≤ 1000)
  have hlen : aY (cL (nO room fs last) need) = need := KV _ _ (by show need ≤ nP room fs last; omega)
  have hgF : tJ room fs last f d = grown f (cL (nO room fs last) need) d := by unfold tJ; rw [← HN0.out, hnd0]
  generalize cL (nO room fs last) need = rs at *
  have h2 := H1.out.1.keep HU2.out (by simp)
  have hsep := H.out.sep
  have hoff8 : ∀ {a x : Nat}, X.T a = x → x ≠ 8 → a ∉ X.nv.ownBlock.toList := fun h1 h2 q => eI h1 (hsep.nv _ (by simpa using q)) h2 rfl
  have hfil3 := h2.fil.upd hu3 fun i hi => hoff8 (hsep.FM i hi) (by decide)
  have hnd3 := hfil3.node _ (eU HG.out)
  simp only at hnd3
  have hpos := sU (oT HFO.out.canon)
  have hl64 : aY f.runs ≤ 64 := by rw [HFO.out.len]; unfold bP; omega
  have HZ := aA (Cj w3 hnd3)
  have HEX := aA (GY w3 hnd3 (dH _) hsize (HFO.out.small (by omega)) n0 (by omega) (aK.rd TR hr3) hadd (by rw [hlen]; exact HND.out) (by omega))
  have H3 := aA (aC hm3 (aC hu3 (aC h2 (aC hfil3 (aC hgrow (aC hlen hgF))))))
  clear hm3 hu3 h2 hfil3 hnd3 hgrow hlen hgF hr3 hadd hrs hpos hl64 HT HNE hfree hfree'
  go_wp2_with fail
  refine HZ.out.mono ?_
  rintro r w3' ⟨rfl, rfl⟩
  go_wp2_with fail
  refine HEX.out.mono ?_
  rintro r w4 ⟨rfl, rv4, hnd4, hu4, hn4⟩
  obtain ⟨hm3, hu3, h2, hfil3, hgrow, hlen, hgF⟩ := H3.out
  have hlenD : (grown f rs d).data.length = f.data.length + n0 := by show (f.data ++ d).length = _; rw [bD, HN0.out]
  have hfil4 := hfil3.grow (g := grown f rs d) H.out.inv.now.srt HG.out hu4 (by rw [hlenD]; exact hnd4) hn4
  have hgok : mY room (grown f rs d) := hgrow.grown_ok (by rw [hlen, HND.out, HN0.out]; rfl) (by rw [← HN0.out]; omega)
  have hA5 : X.T (X.A nm.data.toList) = 5 := hsep.FM _ (H.out.fil.memA _ (eU HG.out))
  have hu14 : aB (X.A nm.data.toList :: X.nv.ownBlock.toList) w1 w4 := ((HU2.out.mono (by simp)).trans (hu3.mono (fun k hk _ => by simp only [aJ]; exact .inr hk))).trans (hu4.mono (fun k hk _ => by simp at hk; simp [hk]))
  have hoff4 : ∀ {a x : Nat}, X.T a = x → x ≠ 5 → x ≠ 8 → a ∉ X.A nm.data.toList :: X.nv.ownBlock.toList := fun h1 h2 h3 q => by
   rcases aJ.1 q with q | q
   ·exact eI h1 hA5 h2 q
   exact hoff8 h1 h3 q
  have hmap4 : fJ w4 X.base X.q X.nv X.lv (cY room (cQ bQ fs nm.data.toList (grown f rs d))) (cY room last) := by
   rw [PH H.out.inv.now.srt HG.out rs d] at hm3
   exact hm3.upd hu4 (by simp; exact fun e => eI hA5 hsep.q (by decide) e.symm) (fun i hi e => eI hA5 (hsep.nv _ e) (by decide) (aM.1 hi).symm) (fun i hi e => eI hA5 (hsep.lv _ e) (by decide) (aM.1 hi).symm)
  have hbox4 : w4.heap[v]? = some (eW X.j X.c X.q X.mf X.ml X.va false) := (hu14.block v (aH H1.out.1.box) (hoff4 hsep.v (by decide) (by decide))).trans H1.out.1.box
  have hlog4 := H1.out.1.log.upd hu14 (hoff4 hsep.j (by decide) (by decide)) (fun i hi => hoff4 (hsep.F i hi) (by decide) (by decide)) (fun i hi => hoff4 (hsep.FC i hi) (by decide) (by decide))
  have hlas4 := H1.out.1.las.upd hu14 (fun i hi => hoff4 (hsep.FL i hi) (by decide) (by decide))
  have hdir4 := H1.out.1.dir.upd hu14 (fun i hi e => hoff4 (hsep.va i e) (by decide) (by decide) hi)
  have hu04 : aB (X.fp v) w w4 := (dM.upd_used H1.out.2).trans (hu14.mono fun k hk _ => by
   rcases aJ.1 hk with q | q
   ·rw [q]; exact aV.2 (by simp [H.out.fil.memA _ (eU HG.out)])
   exact aV.2 (by simp at q; simp [q]))
  have hrd4 : Rd w4 (.slice ad n0 cd) d := by
   by_cases hde : d = []
   ·exact HD.out.1.naught hde w4
   exact HD.out.1.upd hu04 fun g hg => (HD.out.2 hde g hg).1
  have hst0 : jP w4 v p D room k s fs last X nm.data.toList f rs d 0 D X.F X.l X.FC X.V w4 := ⟨hbox4, hlog4, iO.refl H.out.up, by simpa using oE.start H.out.inv hgrow, H.out.see, aB.refl _ _, fun a ha => .inl ha, fun a ha => .inl ha⟩
  have H4 := aA (aC hfil4 (aC hgok (aC hmap4 (aC hlas4 (aC hdir4 (aC hu04 (aC hgrow (aC hlen (aC hgF (aC hn4 hst0))))))))))
  have HRD4 := aA hrd4
  have hsz4 := hu04.size
  have hsz3 : w.heap.size ≤ w3'.heap.size := by have := H1.out.2.size; have := HU2.out.size; have := hu3.size; omega
  clear hfil4 hgok hmap4 hlas4 hdir4 hu04 hgrow hlen hgF hn4 hst0 hbox4 hlog4 hrd4 hoff8 hoff4 hu14 hm3 hu3 h2 hfil3 hnd4 hu4 HEX HZ hlenD c2 k2 H3 hA5
  generalize hSZ : f.data.length = size at *
  go_wp2_with fail
  go_loopg [2, 11] n0 (fun gh v2 v11 wr => ∃ (i : Nat) (Di : aI) (Fi : List Nat) (li : List (Bc.Nd Int fE)) (FCi : List Nat) (Vi : Nat → Bs) (a2 : Option Addr) (c2 : Nat), v2 = .slice a2 gh c2 ∧ v11 = .int .i64 (size + i : Nat) ∧ i + gh = n0 ∧
   Hid (jP w4 v p D room k s fs last X nm.data.toList f rs d i Di Fi li FCi Vi wr) ∧ Hid (Rd wr (.slice a2 gh c2) (d.drop i) ∧ ∀ g, (Value.slice a2 gh c2).ownBlock = some g → (Value.slice ad n0 cd).ownBlock = some g))
  case atStart => exact ⟨0, D, X.F, X.l, X.FC, X.V, ad, cd, rfl, by simp, by omega, aA H4.out.2.2.2.2.2.2.2.2.2.2, aA ⟨by simpa using HRD4.out, fun g hg => hg⟩⟩
  case round =>
   obtain ⟨i, Di, Fi, li, FCi, Vi, a2, c2, rfl, rfl, hign, HS, HR⟩ := hrel
   by_cases hr : 0 < gk
   ·have hlt : (0 : Int) < (gk : Int) := by omega
    have hgok := H4.out.2.1
    have hgl : (grown f rs d).data.length = size + n0 := by show (f.data ++ d).length = _; rw [bD, HN0.out, hSZ]
    have hoff : ∀ a ∈ rv4.ownBlock.toList ++ X.FM, a ∉ v :: X.j :: (X.F ++ X.FC) := fun a ha q => by
     rcases bK.1 ha with ha | ha
     ·have h1 := H4.out.2.2.2.2.2.2.2.2.2.1 a (by simpa using ha)
      have h2 := H.out.lt a (aV.2 (by simp only [aJ, bK] at q; rcases q with q | q | q | q <;> simp [q]))
      omega
     have h5 := hsep.FM a ha
     simp only [aJ, bK] at q
     rcases q with q | q | q | q
     ·exact eI h5 hsep.v (by decide) q
     ·exact eI h5 hsep.j (by decide) q
     ·exact eI h5 (hsep.F a q) (by decide) rfl
     exact eI h5 (hsep.FC a q) (by decide) rfl
    have hfilr := H4.out.1.upd HS.out.upd hoff
    have hndr := hfilr.node (nm.data.toList, grown f rs d) (eU (by rw [pS dD H.out.inv.now.srt, aF rfl]))
    simp only at hndr
    have hndr : iG wr 0 (X.A nm.data.toList) (size + n0) (fP X.R nm.data.toList rv4 nm.data.toList) (grown f rs d).runs := by rw [← hgl]; exact hndr
    have hbx : (bY (grown f rs d).runs) = f.blks ++ bY rs := vY f rs d
    have hbl : (f.blks ++ bY rs).length = bP (size + n0) := by
     have := hgok.blks_len
     rw [bO.blks, hbx, hgl] at this; exact this
    obtain ⟨b, hb⟩ : ∃ b, (f.blks ++ bY rs)[(size + i) / 512]? = some b := ⟨_, bL (by rw [hbl]; unfold bP; omega)⟩
    have hbr : b < room := by
     have hm : b ∈ (grown f rs d).blks := by rw [vY]; exact fC hb
     exact hgok.blks_lt b hm
    have hsm : pF (grown f rs d).runs 100000 := by
     have := hgok.small (by omega : room ≤ 512)
     exact ⟨this.one, this.sum, by have := this.len; omega⟩
    have hAT := GZ wr hndr (by omega) hsm (size + i) (by omega) (by rw [hbx]; exact hb)
    obtain ⟨fr, hfr⟩ : ∃ fr, fr = (size + i) % 512 := ⟨_, rfl⟩
    rw [← hfr] at hAT
    have HFr := aA hfr
    have HBb := aA hb
    have HAT := aA hAT
    have hfr5 : fr < 512 := by omega
    obtain ⟨x, hx⟩ : ∃ x : Nat, x = 16 + b := ⟨_, rfl⟩
    have Hx := aA hx
    have hx5 : x < room + 16 := by omega
    have e16 : (16 : Int) + (b : Int) = (x : Int) := by omega
    have HE16 := aA e16
    have hw16 : IntKind.i64.wrap (16 + (b : Int)) = 16 + (b : Int) := fF _ (by omega)
    have k0 := aD HS.out.box 0
    have k1 := aD HS.out.box 1
    simp only [bA, bB, bS] at k0 k1
    have hwri : Di.wr ≤ 137438950000 := by have := HS.out.ran.wr; omega
    have hdni : Di.down = false := by
     rcases HS.out.ran.out with ⟨-, -, h, -⟩ | ⟨h, -⟩
     ·exact h
     cases h
    have hVx : Vi x = (Di.blk (20 + x)).view := by rw [hx, HS.out.see b hbr, show 20 + (16 + b) = 36 + b by omega]
    have hV5 : (Vi x).length = 512 := by rw [hVx]; exact HS.out.stage.core.sized.view _
    have HVx := aA (aC hVx hV5)
    have HGet := aA fun (Y : World) (u : aB [] wr Y) => GR Y (HS.out.log.upd u (by simp) (by simp) (by simp)) hdni (by omega) x (by omega) hVx hV5
    clear hgok hgl hoff hfilr hndr hbx hbl hb hsm hAT hfr hx e16 hVx hV5
    by_cases hfr0 : 0 < fr
    case' pos =>
     have hfr0' : (0 : Int) < (fr : Int) := by omega
     go_wp2_with fail
     refine HAT.out.mono ?_
     rintro r w5 ⟨rfl, hu5⟩
     have q0 := cN hu5 k0
     have q1 := cN hu5 k1
     have q0a : ∀ o, (w5.alloc o).cell? ⟨v, 0, none⟩ = some (.pointer (some ⟨X.j, 0, none⟩)) := fun o => cN ((aB.refl [] w5).alloc o) q0
     have q1a : ∀ o, (w5.alloc o).cell? ⟨v, 1, none⟩ = some (.pointer (some ⟨X.c, 0, none⟩)) := fun o => cN ((aB.refl [] w5).alloc o) q1
     have hb5 := gF hu5 HS.out.box
     have HU5 := aA hu5
     clear hu5 HAT
     go_wp2_with (first | (refine zY rfl _ _ rfl 512 (by omega) (l := cH) rfl rfl rfl rfl ?_) | fail)
     have hu6 : aB [] wr (w5.alloc (.cells (aP c8 cH).toArray 5)) := HU5.out.alloc _
     generalize (w5.alloc (.cells (aP c8 cH).toArray 5)) = w6 at *
     rw [HE16.out]
     refine (HGet.out w6 hu6).mono ?_
     rintro r w7 ⟨e, D7, l7, FC7, v7, rfl, hE7, hL7, hu7, hF7, hok7, hbad7⟩
     have hEr := hE7.err
     have HS6 := aA (HS.out.keep hu6)
     rcases hEr with rfl | rfl
     case' inr =>
      obtain rfl := hbad7 (by omega)
      have hb7 := ((hu7.block v (aH HS6.out.box) (HS6.out.off H.out hsz4).1)).trans HS6.out.box
      have HEN := aA (Aw w7 hb7 2)
      have H7 := aA (aC hE7 (aC hL7 (aC hu7 hF7)))
      clear hb7 hE7 hL7 hu7 hF7 hok7 hbad7
      go_wp2_with fail
      refine HEN.out.mono ?_
      rintro r w9 ⟨rfl, hb9, hu9⟩
      go_wp2_with fail
      go_ret
      obtain ⟨z1, z2, z3⟩ := HS6.out.down H.out H4.out.2.2.2.2.2.1 (t := []) (c := 40000) (by simp; omega) H7.out.1 H7.out.2.1 H7.out.2.2.1 (fun a ha => .inl ha) hb9 hu9 (fun p1 q1 e => by
       have : p1 = [] := (AU.1 e.symm).1
       subst this; exact HS.out.stage.core)
      exact ⟨2, D7, rfl, z1, fun h => absurd h (by omega), fun _ => ⟨z2, z3⟩⟩
     case' inl =>
      have hS7 := HS6.out.got H.out hsz4 hE7 hL7 hu7 hF7
      have HS7 := aA hS7
      obtain ⟨hrow, hrowC⟩ := hok7 rfl
      have hrd7 : Rd w7 (.slice a2 gk c2) (d.drop i) := (HR.out.1.keep hu6).upd hu7 fun g hg q => by
       have h1 := HD.out.2 (JY (by have := HN0.out; omega)) g (HR.out.2 g hg)
       have h2 := (HS.out.off H.out hsz4).2 g q (by omega)
       exact h1.1 (aV.2 (by simp only [aJ, bK] at h2; rcases h2 with q | q | q | q <;> simp [q]))
      have hblk7 : D7.blk = Di.blk := hE7.up.2.2.2
      have HOLD : Hid ((Vi x).length = 512 ∧ (fr = 0 ∨ Vi x = (D7.blk (36 + b)).view)) := aA ⟨HVx.out.2, .inr (by rw [hblk7, HVx.out.1, Hx.out, show 20 + (16 + b) = 36 + b by omega])⟩
      generalize Vi x = old at *
      have hgr4 : wr.heap.size ≤ w6.heap.size := hu6.size
      have hrow' := hrow.base hgr4
      obtain ⟨-, g5, cc5, ty5, cur5, rfl, hcc5, hcm5, hgb5, -, -, -⟩ := hrow
      have HROW := aA (aC hrow' (aC (hrowC g5 rfl) (show wr.heap.size ≤ g5 by omega)))
      have HRD7 := aA hrd7
      have hmono5 : wr.heap.size ≤ w7.heap.size := by have := hu7.size; omega
      clear hE7 hL7 hu7 hF7 hok7 hbad7 hS7 hrowC hrow' hrd7 hblk7 HS6 HGet q0 q1 q0a q1a hb5 HU5 hu6 k0 k1 hwri hdni hfr0' hgr4 hgb5
      obtain ⟨D5, hD5⟩ : ∃ D5, D5 = D7 := ⟨_, rfl⟩
      subst hD5
      obtain ⟨l5, hl5⟩ : ∃ l5, l5 = l7 := ⟨_, rfl⟩
      subst hl5
      obtain ⟨FC5, hFC5⟩ : ∃ FC5, FC5 = FC7 := ⟨_, rfl⟩
      subst hFC5
      obtain ⟨W5, hW5⟩ : ∃ W5, W5 = w7 := ⟨_, rfl⟩
      subst hW5
      go_upto_region 19 with (fail)
    case' neg =>
     have hfr0' : ¬ (0 : Int) < (fr : Int) := by omega
     go_wp2_with fail
     refine HAT.out.mono ?_
     rintro r w5 ⟨rfl, hu5⟩
     have HU5 := aA hu5
     clear hu5 HAT k0 k1
     go_upto_region 19 with (first | (refine zY rfl _ _ rfl 512 (by omega) (l := cH) rfl rfl rfl rfl ?_) | fail)
     have hu6 : aB [] wr (w5.alloc (.cells (aP c8 cH).toArray 5)) := HU5.out.alloc _
     have hmono5 := hu6.size
     have hg5w := HU5.out.size
     have HROW' : lC (w5.alloc (.cells (aP c8 cH).toArray 5)) wr.heap.size (.slice (some ⟨w5.heap.size, 0, none⟩) 512 512) cH := Ow.row8 (Ow.made (n := 512) (l := cH) hg5w (by omega) rfl) rR
     obtain ⟨W5, hW5⟩ : ∃ W5, W5 = w5.alloc (.cells (aP c8 cH).toArray 5) := ⟨_, rfl⟩
     rw [← hW5] at hu6 hmono5 HROW' ⊢
     obtain ⟨g5, hg5⟩ : ∃ g5, g5 = w5.heap.size := ⟨_, rfl⟩
     rw [← hg5] at HROW' hg5w ⊢
     obtain ⟨cc5, hcc⟩ : ∃ cc5 : Nat, cc5 = 512 := ⟨_, rfl⟩
     have hcc5 : 512 ≤ cc5 := by omega
     rw [show Value.slice (some ⟨g5, 0, none⟩) 512 512 = Value.slice (some ⟨g5, 0, none⟩) 512 cc5 by rw [hcc]] at HROW' ⊢
     have HROW := aA (aC HROW' (aC (show g5 ∉ FCi from fun q => by have := HS.out.log.lt g5 q; omega) hg5w))
     have HS7 := aA (HS.out.keep hu6)
     have HRD7 := aA (HR.out.1.keep hu6)
     have HOLD : Hid (cH.length = 512 ∧ (fr = 0 ∨ cH = (Di.blk (36 + b)).view)) := aA ⟨rR, .inl (by omega)⟩
     obtain ⟨old, hold⟩ : ∃ old, old = cH := ⟨_, rfl⟩
     rw [← hold] at HROW HOLD
     obtain ⟨D5, hD5⟩ : ∃ D5, D5 = Di := ⟨_, rfl⟩
     rw [← hD5] at HS7 HOLD
     obtain ⟨l5, hl5⟩ : ∃ l5, l5 = li := ⟨_, rfl⟩
     rw [← hl5] at HS7
     obtain ⟨FC5, hFC5⟩ : ∃ FC5, FC5 = FCi := ⟨_, rfl⟩
     rw [← hFC5] at HS7 HROW
     clear hW5 hg5 hcc hold hD5 hl5 hFC5 HROW' hu6 HGet HU5 hfr0' hwri hdni hg5w
    all_goals
     have hne : d.drop i ≠ [] := fun e => by have := bM List.length e; rw [eD, ← HN0.out] at this; simp at this; omega
     obtain ⟨hl1, hl2, hl3, hl4⟩ := HRD7.out.cell
     obtain ⟨bd, od, rfl, -⟩ := hl4 hr
     obtain ⟨kk, hkk⟩ : ∃ kk, kk = ((d.drop i).take (512 - fr)).length := ⟨_, rfl⟩
     have hkk1 : kk ≤ gk := by rw [hkk, bX, eD, ← HN0.out]; omega
     have hkk2 : 1 ≤ kk := by rw [hkk, bX, eD, ← HN0.out]; omega
     have HKK := aA hkk
     have hfc1 : fr ≤ cc5 := by omega
     have hfc2 : ¬ cc5 = fr := by omega
     have hfc3 : fr ≤ 512 := by omega
     have hwr4 := HS.out.upd.size
     have hvl4 : v < w4.heap.size := by omega
     have hjl4 : X.j < w4.heap.size := by have := H.out.lt X.j (aV.2 (by simp)); omega
     have hgF : g5 ∉ Fi := fun q => by have := HS.out.log.dev.lt g5 q; have := HROW.out.2.2; omega
     have hSw := fun (w8 : World) (u : aB [g5] W5 w8) => HS7.out.keepG u (fun a ha => by rw [aM.1 ha]; exact ⟨by have := HROW.out.2.2; omega, hgF, HROW.out.2.1⟩) hvl4 hjl4
     have HSw := aA hSw
     clear hl1 hl2 hl3 hl4 hkk hSw
     go_wp2_with (first | (refine Pv rfl (Operand.tmp 84) (Operand.tmp 85) rfl HROW.out.1 hfc3 HRD7.out hne HOLD.out.1 rfl rfl rfl ?_; intro w8 hrow8 hu8; rw [← HKK.out]; have HS8 := aA (HSw.out w8 hu8); have k0 := aD HS8.out.box 0; have k1 := aD HS8.out.box 1; simp only [bA, bB, bS] at k0 k1; have HR8 := aA (aC hrow8 hu8); clear hrow8 hu8) | fail)
     rw [HE16.out]
     refine (Ob w8 HS8.out.log HS8.out.dev (by have := HS8.out.ran.wr; omega) x hx5 HR8.out.1.rd (CY HOLD.out.1 hfc3) hgF (by have := HROW.out.2.2; omega) HROW.out.2.1 (by have := HR8.out.1.lt g5 rfl; omega)).mono ?_
     rintro r w9 ⟨e, D9, F9, l9, FC9, rfl, hE9, hL9, hu9, hF9, hC9⟩
     have hEr := hE9.err
     have hst := HS8.out.stage.write (kk := kk) H4.out.2.2.2.2.2.2.1 (by rw [← HN0.out]; omega) (by rw [hSZ]; exact HBb.out) (by rw [hSZ]; exact HFr.out) HKK.out HOLD.out.1 HOLD.out.2
     rcases hEr with rfl | rfl
     case' inr =>
      have hb9 := ((hu9.block v (aH HS8.out.box) (HS8.out.off H.out hsz4).1)).trans HS8.out.box
      have HEN := aA (Aw w9 hb9 2)
      have H9 := aA (aC hE9 (aC hL9 (aC hu9 (aC hF9 hst))))
      clear hb9 hE9 hL9 hu9 hF9 hC9 hst
      go_wp2_with fail
      refine HEN.out.mono ?_
      rintro r w10 ⟨rfl, hb10, hu10⟩
      go_wp2_with fail
      go_ret
      obtain ⟨hE9, hL9, hu9, hF9, hst⟩ := H9.out
      obtain ⟨z1, z2, z3⟩ := HS8.out.down H.out H4.out.2.2.2.2.2.1 (c := 40000) (by simp; omega) hE9 (by simpa using hL9) hu9 hF9 hb10 hu10 (fun p1 q1 e => by
       cases p1 with
       | nil => exact HS8.out.stage.core
       | cons o p2 =>
        rw [List.cons_append, List.cons.injEq] at e
        have : p2 = [] := (AU.1 e.2.symm).1
        subst this
        rw [← e.1, Hx.out, show 20 + (16 + b) = 36 + b by omega]
        exact hst.core)
      exact ⟨2, D9, rfl, z1, fun h => absurd h (by omega), fun _ => ⟨z2, z3⟩⟩
     case' inl =>
      have hS9 := HS8.out.wrote H.out hsz4 Hx.out hkk2 hE9 hL9 hu9 hF9 hC9 hst
      have hoffd : ∀ g, (Value.slice (some ⟨bd, od, none⟩) gk c2).ownBlock = some g → g ∉ [g5] ∧ g ∉ X.j :: (Fi ++ FC5) := fun g hg => by
       have h1 := HD.out.2 (JY (by have := HN0.out; omega)) g (HR.out.2 g hg)
       refine ⟨fun q => ?_, fun q => ?_⟩
       ·have := aM.1 q
        have := HROW.out.2.2
        omega
       have h2 := (HS8.out.off H.out hsz4).2 g q (by omega)
       exact h1.1 (aV.2 (by simp only [aJ, bK] at h2; rcases h2 with q | q | q | q <;> simp [q]))
      have hrd9 := (HRD7.out.upd HR8.out.2 fun g hg => (hoffd g hg).1).upd hu9 fun g hg => (hoffd g hg).2
      have hdl : (d.drop i).length = gk := by rw [eD, ← HN0.out]; omega
      obtain ⟨a9, c9, -, hcut, -, hr9, hown9⟩ := hrd9.cut kk gk hkk1 (by omega)
      have hcut2 := hcut hdl.symm
      rw [rN, dY (by rw [eD, ← HN0.out]; omega)] at hr9
      have HS9 := aA hS9
      have HR9 := aA (aC hr9 hown9)
      clear hE9 hL9 hu9 hF9 hC9 hst hS9 hoffd hrd9 hdl hr9 hown9 k0 k1 hcut
      go_wp2_with fail
      go_quiet (fail)
      have hun : aB [] w9 (w9.drewN nq) := (aB.refl [] w9).drewN nq
      have HS10 := aA (HS9.out.keep hun)
      have HR10 := aA (aC (HR9.out.1.keep hun) HR9.out.2)
      generalize w9.drewN nq = w10 at *
      clear hun
      go_wp2_with fail
      go_roundg (gk - kk)
      case measure => omega
      case rel => exact ⟨i + kk, D9, F9, l9, FC9, _, a9, c9, rfl, by go_num, by omega, HS10, aA ⟨HR10.out.1, fun g hg => HR.out.2 g (HR10.out.2 g hg)⟩⟩
   obtain rfl : gk = 0 := by omega
   go_wp2_with fail
   go_ret
   obtain ⟨hfil4, hgok, hmap4, hlas4, hdir4, hu04, hgrow, hlen, hgF, hn4, -⟩ := H4.out
   have hS := HS.out
   have hin : i = d.length := by rw [← HN0.out]; omega
   have happ : uS room fs last nm.data.toList d = cQ bQ fs nm.data.toList (grown f rs d) := by unfold uS; rw [HG.out]; dsimp only; rw [hgF]
   have hlt := H.out.lt
   have hrv : ∀ g, rv4.ownBlock = some g → w3'.heap.size ≤ g ∧ g < w4.heap.size := fun g hg => ⟨hn4 g hg, hfil4.lt g (by simp [hg])⟩
   have hoffT : ∀ {a x : Nat}, X.T a = x → x ≠ 1 → x ≠ 2 → x ≠ 3 → x ≠ 4 → a ∉ v :: X.j :: (X.F ++ X.FC) := fun h1 h2 h3 h4 h5 q => by
    simp only [aJ, bK] at q
    rcases q with q | q | q | q
    ·exact eI h1 hsep.v h2 q
    ·exact eI h1 hsep.j h3 q
    ·exact eI h1 (hsep.F _ q) h4 rfl
    exact eI h1 (hsep.FC _ q) h5 rfl
   have hoff : ∀ a ∈ rv4.ownBlock.toList ++ X.FM, a ∉ v :: X.j :: (X.F ++ X.FC) := fun a ha q => by
    rcases bK.1 ha with ha | ha
    ·have h1 := hrv a (by simpa using ha)
     have h2 := hlt a (aV.2 (by simp only [aJ, bK] at q; rcases q with q | q | q | q <;> simp [q]))
     omega
    exact hoffT (hsep.FM a ha) (by decide) (by decide) (by decide) (by decide) q
   have hinv : eY Di.blk room k s (cQ bQ fs nm.data.toList (grown f rs d)) last := by
    have hst := hS.stage
    rw [hin, rL] at hst
    exact hst.done hgrow (by rw [hlen, HND.out, ← HN0.out, hSZ]; rfl) (by rw [← HN0.out, hSZ]; omega)
   have hran : iO D 0 Di 40000 := hS.ran.more (by omega)
   have hfpU : aB (X.fp v) w wr := hu04.trans (hS.upd.mono fun a ha _ => by
    simp only [aJ, bK] at ha
    rcases ha with q | q | q | q <;> exact aV.2 (by simp [q]))
   refine ⟨0, Di, by rw [aF rfl, HC.out]; rfl, hran, fun _ => ?_, fun h => absurd rfl h⟩
   rw [HC.out, aF rfl, happ]
   refine ⟨{ X with F := Fi, FC := FCi, l := li, V := Vi, FM := rv4.ownBlock.toList ++ X.FM, R := fP X.R nm.data.toList rv4, T := fun a => if w4.heap.size ≤ a then (if a ∈ FCi then 4 else 3) else if w.heap.size ≤ a then 5 else X.T a }, ⟨hS.box, hS.log, hfil4.upd hS.upd hoff, hlas4.upd hS.upd (fun a ha => hoffT (hsep.FL a ha) (by decide) (by decide) (by decide) (by decide)),
    hmap4.upd hS.upd (hoffT hsep.q (by decide) (by decide) (by decide) (by decide)) (fun a ha e => hoffT (hsep.nv a e) (by decide) (by decide) (by decide) (by decide) ha) (fun a ha e => hoffT (hsep.lv a e) (by decide) (by decide) (by decide) (by decide) ha),
    hdir4.upd hS.upd (fun a ha e => hoffT (hsep.va a e) (by decide) (by decide) (by decide) (by decide) ha), hS.dev, hinv, hS.see, ?_⟩, hfpU, ?_⟩
   ·have old : ∀ {a x : Nat}, a ∈ X.fp v → X.T a = x → (if w4.heap.size ≤ a then (if a ∈ FCi then 4 else 3) else if w.heap.size ≤ a then 5 else X.T a) = x := fun h1 h2 => by
     have := hlt _ h1
     rw [aE (by omega), aE (by omega), h2]
    exact {
     v := old (aV.2 (by simp)) hsep.v
     j := old (aV.2 (by simp)) hsep.j
     F := fun a ha => by
      show (if _ then _ else _) = _
      rcases hS.subF a ha with q | q
      ·exact old (aV.2 (by simp [q])) (hsep.F a q)
      rw [aF q, aE (fun e => hS.log.ap a e ha)]
     FC := fun a ha => by
      show (if _ then _ else _) = _
      rcases hS.subC a ha with q | q
      ·exact old (aV.2 (by simp [q])) (hsep.FC a q)
      rw [aF q, aF ha]
     FM := fun a ha => by
      show (if _ then _ else _) = _
      rcases bK.1 ha with q | q
      ·have := hrv a (by simpa using q)
       rw [aE (by omega), aF (by omega)]
      exact old (aV.2 (by simp [q])) (hsep.FM a q)
     FL := fun a ha => old (aV.2 (by simp [ha])) (hsep.FL a ha)
     q := old (aV.2 (by simp)) hsep.q
     nv := fun g hg => old (aV.2 (by simp [hg])) (hsep.nv g hg)
     lv := fun g hg => old (aV.2 (by simp [hg])) (hsep.lv g hg)
     va := fun g hg => old (aV.2 (by simp [hg])) (hsep.va g hg) }
   intro a ha
   rcases aV.1 ha with q | q | q | q | q | q | q | q | q | q
   ·exact .inl (aV.2 (by simp [q]))
   ·exact .inl (aV.2 (by simp at q; simp [q]))
   ·exact .inl (aV.2 (by simp at q; simp [q]))
   ·rcases hS.subF a q with q | q
    ·exact .inl (aV.2 (by simp [q]))
    exact .inr (by omega)
   ·rcases hS.subC a q with q | q
    ·exact .inl (aV.2 (by simp [q]))
    exact .inr (by omega)
   ·rcases bK.1 q with q | q
    ·have := hrv a (by simpa using q); exact .inr (by omega)
    exact .inl (aV.2 (by simp [q]))
   ·exact .inl (aV.2 (by simp at q; simp [q]))
   ·exact .inl (aV.2 (by simp at q; simp [q]))
   ·exact .inl (aV.2 (by simp at q; simp [q]))
   exact .inl (aV.2 (by simp at q; simp [q]))
open Go.Sort Go.Shelf
theorem PL (w : World) :
  Calls Tryz.prog 96 #[.func (.func 146) #[] #[.pointer (some ⟨w.heap.size, 0, none⟩)]] (w.alloc (.cells #[.map none] 82)) fun e w' => ∃ v, e = .returned v ∧ gV w' (w.heap.size + 1) v [] ∧ aB [] (w.alloc (.cells #[.map none] 82)) w' := by
 have hseq : SeqGives Fence.wide 2 Tryz.prog 146 #[.pointer (some ⟨w.heap.size, 0, none⟩)] encStr (fun ss : List (List UInt8) => ss = []) 0 (w.alloc (.cells #[.map none] 82)) :=
  AnyZ.keys_gives_nil (ρ := CS) { CT with } Fence.wide _ trivial rfl w.heap.size _ (by simp) (by simp)
 have cS := AnyZ.sorted_in Hy Fence.wide 5 trivial trivial trivial trivial rfl (by omega) (Ia _) (enters_of Tryz.func145 (by kernel_rfl) rfl) 146 #[.pointer (some ⟨w.heap.size, 0, none⟩)] trivial (enters_of Tryz.func146 (by kernel_rfl) rfl) _ _ (by unfold maxLen; omega) (by omega) _ hseq
 refine (jJ.1 cS).mono ?_
 rintro e w' ⟨v, ss, rfl, rfl, hrow, hnil, hb⟩
 refine ⟨v, rfl, ?_, ⟨hb.os, hb.output, hb.size, fun k hk _ => hb.block k (by exact hk)⟩⟩
 have e4 : (w.alloc (.cells #[.map none] 82)).heap.size = w.heap.size + 1 := by simp
 have e3 : (([] : List (List UInt8)).mergeSort (fun x y => decide (x ≤ y))).map encStr = aP cT [] := by simp [aP]
 rw [e4, e3] at hrow
 exact hrow
theorem PM (w : World) : Calls Tryz.prog 49 #[.map none] w fun e w' => ∃ v, e = .returned v ∧ Ow w' w.heap.size v (dT []) ∧ aB [] w w' := by
 have HK := aA fun (X : World) (B : Nat) (ty : TypeId) (fz : Nat × Nat) (hB : X.heap[B]? = some (.cells #[.int .u8 102, .int .u8 105, .int .u8 108, .int .u8 101, .int .u8 115] ty fz)) => nX X (show Rd X (.slice (some ⟨B, 0, none⟩) 5 5) kZ from tC (l := kZ) hB (by decide)) 0 (by omega) (by decide)
 have hcvt := fun W : World => Go.Lib.run_convert_bytes_const W 23 5 #[.int .u8 102, .int .u8 105, .int .u8 108, .int .u8 101, .int .u8 115] 5 5 T8.und Tryz.underlying5
 have hu1 : aB [] w (w.alloc (.cells #[.int .u8 102, .int .u8 105, .int .u8 108, .int .u8 101, .int .u8 115] 5 (5, 6))) := (aB.refl [] w).alloc _
 have hb1 := aX w (.cells #[.int .u8 102, .int .u8 105, .int .u8 108, .int .u8 101, .int .u8 115] 5 (5, 6))
 have hum := Tryz.underlying82
 go_in
 go_wp2_with fail
 generalize w.alloc (.cells #[.int .u8 102, .int .u8 105, .int .u8 108, .int .u8 101, .int .u8 115] 5 (5, 6)) = w1 at *
 refine (HK.out _ _ _ _ hb1).mono ?_
 rintro e w2 ⟨v2, rfl, ho2, hu2⟩
 obtain ⟨a2, c2, m2, hm2, rfl⟩ := ho2.sliceM
 have hU2 := hu1.trans hu2
 have HKS := CU none w2
 have HSS := PL w2
 have H2 := aA (aC (ho2.base hu1.size) (aC hU2 hm2))
 clear ho2 hu1 hu2 hU2 hb1 hcvt hm2
 go_wp2_with fail
 refine HKS.mono ?_
 rintro e w3 ⟨rfl, rfl⟩
 go_wp2_with fail
 refine HSS.mono ?_
 rintro e w4 ⟨v4, rfl, ho4, hu4⟩
 obtain ⟨a4, c4, m4, hm4, rfl⟩ := ho4.sliceM
 obtain rfl : m4 = 0 := hm4
 have hU4 : aB [] w w4 := (H2.out.2.1.alloc _).trans hu4
 have H4 := aA (aC (H2.out.1.upd (((aB.refl [] w2).alloc _).trans hu4) (by simp)) hU4)
 clear ho4 hu4 hU4 HKS HSS
 go_wp2_with fail
 go_loopg [3, 16] 0 (fun gh v3 v16 wr => gh = 0 ∧ v3 = .slice a2 m2 c2 ∧ v16 = .int .i64 0 ∧ wr = w4)
 case atStart => exact ⟨rfl, rfl, rfl, rfl⟩
 case round =>
  obtain ⟨rfl, rfl, rfl, rfl⟩ := hrel
  have hp0 : aN 0 = [0] := by unfold aN; simp
  have hm6 : (kZ ++ aN 0).length = 6 := by rw [hp0]; rfl
  have hm2 : m2 = 6 := by rw [H2.out.2.2, hm6]
  have HP0 := aA hp0
  obtain ⟨k, hk⟩ : ∃ k, k = 8192 - m2 := ⟨_, rfl⟩
  have hsub : IntKind.i64.wrap (8192 - (m2 : Int)) = (k : Int) := by rw [fF _ (by omega)]; omega
  have HM := aA (aC hm2 (aC hk hm6))
  clear hm2 hk hp0 hm6
  go_wp2_with (refine zX rfl _ _ rfl (l := kZ ++ aN 0) (k := k) rfl H4.out.1 (by simp [kZ]) rfl (by have := HM.out; omega) H4.out.2.size ?_)
  intro v8 w8 ho8 hg8 _
  obtain ⟨a8, c8, m8, hm8, rfl⟩ := ho8.sliceM
  have hu8 : aB [] w w8 := H4.out.2.grown hg8 (fun g hg => (H4.out.1.block g hg).1)
  have HO8 := aA ho8
  clear hm8 ho8 hg8
  go_wp2_with fail
  go_ret
  refine ⟨_, rfl, ?_, hu8⟩
  have h1 := HO8.out
  have e1 : kZ ++ aN 0 ++ List.replicate k 0 = dT [] := by
   have h6 : (qL []).length = 6 := by show (kZ ++ aN 0 ++ []).length = 6; rw [HP0.out]; rfl
   unfold dT
   rw [h6, show k = 8192 - 6 by have := HM.out; omega]
   show _ = kZ ++ aN 0 ++ [] ++ _
   rw [sN]
  rw [eJ] at e1
  rw [e1] at h1
  exact h1
end Go.Proofs.YtgpefiacbipfpaaGreatDoor
namespace Go.Proofs.YtgpefiacbipfpaaGreatDoor
open Go.RowKit Go.Maps
def oG : Bs := List.replicate 8192 0
theorem PN : oG.length = 8192 := pN ..
theorem PO (W : World) : (Instr.makeSlice 23 (.int .i64 8192) (.int .i64 8192)).run Tryz.prog W = .ok (.slice (some ⟨W.heap.size, 0, none⟩) 8192 8192) (W.alloc (.cells (aP c8 oG).toArray 5)) := by
 obtain ⟨i, h0, h1, h2, h3⟩ := kD (show (Tryz.prog.info? 5).map (fun i => (i.zero, i.size, i.bytes)) = some (some (.int .u8 0), 1, 1) by kernel_rfl)
 have hrun := run_make (P := Tryz.prog) W 23 5 i _ T8.und h0 h1 .i64 .i64 ((8192 : Nat) : Int) ((8192 : Nat) : Int) (by omega) (Ba _) (by rw [h3]; omega) (by omega)
 rw [h2] at hrun
 rw [oP, FJ] at hrun
 exact hrun
def xV (n : Nat) : List cE := pH n ++ (gZ 0 1 [] ++ jK 2 0 (oV oG (dT [])))
def PP (w : World) (p : Nat) (D : aI) (F : List Nat) (r : Ending) (w' : World) : Prop :=
 ∃ (e : Nat) (D' : aI) (F' : List Nat), r = .returned (.int .i64 e) ∧ bV (xV D.n) D e D' ∧ bN w' p D' F' ∧ aB F w w' ∧ ∀ i ∈ F', i ∈ F ∨ w.heap.size ≤ i
theorem PQ (w : World) {p : Nat} {D : aI} {F : List Nat} (h : bN w p D F) (hdn : D.down = false) (hwr : D.wr ≤ 137438940000) (hsz : iE D.blk) :
  Calls Tryz.prog 32 #[.pointer (some ⟨p, 0, none⟩)] w (PP w p D F) := by
 have hbn := h.bounds
 have HJ := aA (Mr w h (by omega) hdn)
 have HFl := h.lt
 have HSZ := aA hsz
 clear h hsz
 go_in
 go_wp2_with fail
 refine HJ.out.mono ?_
 rintro r w1 ⟨e, D1, F1, rfl, hE1, hD1, hU1, hF1⟩
 have hEr := hE1.err
 have hE1' : bV (pH D.n) D e D1 := hE1
 have hw1 := hE1.wr
 have hfl : (vQ D.n).length ≤ 600 := by unfold vQ; simp [Aa]; omega
 have H1 := aA (aC hE1' (aC hD1 (aC hU1 hF1)))
 clear hE1 hE1' hD1 hU1 hF1 HJ
 rcases hEr with rfl | rfl
 ·obtain ⟨hq1, hq2, hq3⟩ := In (n := D.n) (by omega) HSZ.out
  have hb1 := H1.out.1.up.2.2.2
  have hn1 : D1.n = D.n := H1.out.1.n
  have HO := aA (GQ w1 H1.out.2.1 H1.out.1.up.2.1 (by omega) (k := 0) (s := 1) (ws := []) (g := fun _ => cH) (by omega) (.inl ⟨rfl, by rw [hb1]; exact hq1⟩) (by omega))
  have HQ := aA (aC hq1 (aC hq2 hb1))
  clear hq1 hq2 hq3 hb1
  go_wp2_with fail
  refine HO.out.mono ?_
  rintro r w2 ⟨e, D2, F2, v2, rfl, hE2, hD2, hU2, hF2, hbad2, hok2⟩
  have hEr := hE2.err
  have hw2 := hE2.wr
  have hol : (gZ 0 1 []).length ≤ 10 := by decide
  have H2 := aA (aC hE2 (aC hD2 (aC hU2 hF2)))
  have hn2 : D2.n = D.n := by rw [hE2.n, hn1]
  clear hE2 hD2 hU2 hF2 HO
  rcases hEr with rfl | rfl
  ·obtain ⟨j, rfl, hlog, hj, hjF⟩ := hok2 rfl
   have hb2 := H2.out.1.up.2.2.2
   have hqo := (BA HQ.out.1 (by omega)).2
   have hqq : eP D2.blk 1 0 (dK oG) := by
    rw [hb2, HQ.out.2.2]
    exact hqo.congr fun i hi => Io hi
   have hd := (dC.nil (D.n - 36)).dir_len (by omega)
   have ho := uB (a := oG) hd
   rw [hn1] at hlog
   have hHL := fun (Y : World) => PM Y
   have HWR := aA fun (Y : World) (va vb : Value) (ha : Rd Y va oG) (hb : Rd Y vb (dT [])) (hG : ∀ g, vb.ownBlock = some g → g ∉ j :: F2 ∧ g < Y.heap.size) (hGl : ∀ i ∈ j :: F2, i < Y.heap.size) => GU Y ha hb PN hd (j :: F2) hG hGl
   have HCM := aA fun (Y : World) (u : aB [] w2 Y) (vw : Value) (hw : eR Y (j :: F2) vw (oV oG (dT []))) => GN Y (H2.out.2.1.upd u (by simp)) H2.out.1.up.2.1 (by omega) (hlog.upd u (by simp)) hjF (by omega) (by omega) hqq.slots hw ho.wok (fun x hx => by have := ho.low x hx; omega)
   have HLD := aA hHL
   have hmk := PO
   have hGl : ∀ i ∈ j :: F2, i < w2.heap.size := fun i hi => by
    rcases aJ.1 hi with q | q
    ·rw [q]; exact aH hlog
    exact H2.out.2.1.lt i q
   have hjl : w1.heap.size ≤ j := hj
   have HX := aA (aC hGl (aC hqq (aC hd ho)))
   have HZ := aA fun (Y : World) (u : aB [] (w2.alloc (.cells (aP c8 oG).toArray 5)).drew Y) => aC (Ow.rd (((Ow.made (w := w2) (base := 0) (n := 8192) (l := oG) (dH _) (by omega) rfl).upd (aB.refl [] _).drew (by simp)).upd u (by simp))) ((((aB.refl [] w2).alloc _).drew).trans u)
   have HZb := aA fun (Y : World) (u : aB [] w2.drew Y) => aC (Ow.rd (Ow.made (w := Y) (base := 0) (n := 8192) (l := oG) (dH _) (by omega) rfl)) ((((aB.refl [] w2).drew).trans u).alloc (.cells (aP c8 oG).toArray 5))
   have HS2 := aA (((aB.refl [] w2).alloc (.cells (aP c8 oG).toArray 5)).drew).size
   clear hHL hbad2 hok2 hlog hb2 hqo hqq hd ho hGl hj
   go_wp2_with fail
   go_region_held3 (fun _ => True)
    (trivial)
    (first
     | (go_at_call 49; (with_reducible refine (HLD.out _).mono ?_); rintro e w7 ⟨v7, rfl, ho7, hu7⟩; obtain ⟨a7, c7, m7, hm7, rfl⟩ := ho7.sliceM; have HO7 := aA (ho7.base (b := w2.heap.size) (by first | exact HS2.out | exact aQ _)); have HU7 := aA hu7; clear ho7 hu7 hm7)
     | (go_at_call 51; (first | (have HQ7 := aA (HZ.out w7 HU7.out)) | (have HQ7 := aA (HZb.out w7 HU7.out))); (with_reducible refine (HWR.out _ _ _ HQ7.out.1 ?_ ?_ ?_).mono ?_); (first | (exact Ow.rd HO7.out) | (exact (Ow.rd HO7.out).keep ((aB.refl [] w7).alloc _))); (exact fun g hg => ⟨fun q => by have h1 := HX.out.1 g q; have h2 := (HO7.out.block g hg).1; omega, dN (HO7.out.block g hg).2 (by first | exact aQ _ | exact ((aB.refl [] w7).alloc _).size)⟩); (exact fun i hi => dN (HX.out.1 i hi) HQ7.out.2.size); rintro e w8 ⟨v8, rfl, hw8, hu8⟩; have HW8 := aA (aC hw8 (HQ7.out.2.trans hu8)); clear hw8 hu8)
     | (go_at_call 50; (with_reducible refine (HCM.out _ HW8.out.2 _ HW8.out.1).mono ?_); rintro r w9 ⟨e9, D9, F9, rfl, hE9, hD9, hL9, hu9, hF9⟩))
   all_goals
    go_wp2_with fail
    go_ret
    have hn2' := H2.out.1.n
    refine ⟨e9, D9, F9, rfl, H1.out.1.next (H2.out.1.next hE9), hD9, ?_, ?_⟩
    ·have hs1 := H1.out.2.2.1.size
     have hs2 := H2.out.2.2.1.size
     refine ((H1.out.2.2.1.next H2.out.2.2.1 (fun i hi hlt => ?_)).trans (HW8.out.2.mono (by simp))).next hu9 (fun i hi hlt => ?_)
     ·rcases H1.out.2.2.2 i hi with q | q
      ·exact q
      omega
     rcases aJ.1 hi with q | q
     ·omega
     rcases H2.out.2.2.2 i q with q | q
     ·rcases H1.out.2.2.2 i q with q | q
      ·exact q
      omega
     omega
    intro i hi
    have hs1 := H1.out.2.2.1.size
    have hs2 := H2.out.2.2.1.size
    have hs8 := HW8.out.2.size
    rcases hF9 i hi with q | q
    ·rcases H2.out.2.2.2 i q with q | q
     ·exact H1.out.2.2.2 i q
     exact .inr (by omega)
    exact .inr (by omega)
  obtain rfl := hbad2 (by omega)
  go_wp2_with fail
  go_ret
  have hs1 := H1.out.2.2.1.size
  refine ⟨2, D2, F2, rfl, H1.out.1.next (H2.out.1.stop _ (by omega)), H2.out.2.1, H1.out.2.2.1.next H2.out.2.2.1 (fun i hi hlt => ?_), fun i hi => ?_⟩
  ·rcases H1.out.2.2.2 i hi with q | q
   ·exact q
   omega
  rcases H2.out.2.2.2 i hi with q | q
  ·exact H1.out.2.2.2 i q
  exact .inr (by omega)
 go_wp2_with fail
 go_ret
 exact ⟨2, D1, F1, rfl, H1.out.1.stop _ (by omega), H1.out.2.1, H1.out.2.2.1, H1.out.2.2.2⟩
end Go.Proofs.YtgpefiacbipfpaaGreatDoor
