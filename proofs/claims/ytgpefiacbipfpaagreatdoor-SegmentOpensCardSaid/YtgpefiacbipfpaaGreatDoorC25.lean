/- Appending to a file, in plain words: its blocks are written one by one; whatever a crash leaves has the files of the last Sync. No program in sight. -/
import Derived.WalkMore
import Derived.Test.YtgpefiacbipfpaaGreatDoorC24
set_option maxRecDepth 100000
set_option maxHeartbeats 4000000
namespace Go.Proofs.YtgpefiacbipfpaaGreatDoor
theorem qM.at_ {l : Nat → aL} {f : bO} (h : qM l f) {j b i : Nat} (hj : f.blks[j]? = some b) (hi : i < 512) (hx : 512 * j + i < f.data.length) : ∀ y ∈ (l (36 + b)).poss, y[i]? = f.data[512 * j + i]? := by
 intro y hy
 have := h (fun a => if a = b then y else (l (36 + a)).safe) (fun a => by
  show (if a = b then y else _) ∈ _
  split
  ·rename_i e; subst e; exact hy
  exact sO) j b i hj hi hx
 simpa using this
theorem qM.of {l : Nat → aL} {f : bO} (h : ∀ j b i, f.blks[j]? = some b → i < 512 → 512 * j + i < f.data.length → ∀ y ∈ (l (36 + b)).poss, y[i]? = f.data[512 * j + i]?) : qM l f :=
 fun _c hc j b i hj hi hx => h j b i hj hi hx _ (hc b)
abbrev xT (l : Nat → aL) (room k s : Nat) (last : aG) : Prop := eY l room k s last last
theorem xT.write {l : Nat → aL} {room k s : Nat} {last : aG} (h : xT l room k s last) {b : Nat} {x : Bs} (hx : x.length = 512)
  (hb : ∀ q ∈ last, ∀ j, q.2.blks[j]? = some b → ∀ i, i < 512 → 512 * j + i < q.2.data.length → x[i]? = q.2.data[512 * j + i]?) : xT (exec1 l (.write (36 + b) x)) room k s last := by
 have hS : ∀ p ∈ last, qM (exec1 l (.write (36 + b) x)) p.2 := by
  intro p hp
  refine qM.of fun j b' i hj hi hlt y hy => ?_
  have hA := (h.sure p hp).at_ hj hi hlt
  by_cases e : b' = b
  ·subst e
   rw [mT] at hy
   simp only [aL.push, aL.poss, aJ, bK, cA, cG] at hy
   rcases hy with hy | hy | hy
   ·exact hA y (by simp [aL.poss, hy])
   ·exact hA y (by simp [aL.poss, hy])
   rw [hy]; exact hb p hp j hj i hi hlt
  rw [fH _ (by omega)] at hy
  exact hA y hy
 exact ⟨h.few, h.quiet.write _ (by omega) (by omega), h.sized.exec1 hx, h.now, h.was, fun p hp => (hS p hp).holds, hS, h.kin⟩
structure oD (room : Nat) (fs last : aG) (nm : Bs) (f : bO) (rs : List aR) : Prop where
 get : bF fs nm = some f
 ok : dC room fs
 kins : ∀ p ∈ fs, ∀ q ∈ last, uC p.2 q.2
 was : ∀ q ∈ last, q.2.blks.Nodup
 pos : ∀ r ∈ rs, 1 ≤ r.2
 free : ∀ b ∈ bY rs, b < room ∧ b ∉ bH fs ∧ b ∉ bH last
 nodup : (bY rs).Nodup
def grown (f : bO) (rs : List aR) (d : Bs) : bO := ⟨rs.foldl gR f.runs, f.data ++ d⟩
theorem vY (f : bO) (rs : List aR) (d : Bs) : (grown f rs d).blks = f.blks ++ bY rs := KP rs f.runs
theorem Az {fs : aG} (h : (bH fs).Nodup) {p : Bs × bO} (hp : p ∈ fs) : p.2.blks.Nodup := by
 obtain ⟨u, v, rfl⟩ := List.append_of_mem hp
 have : p.2.blks.Sublist (bH (u ++ p :: v)) := by
  unfold bH
  rw [vA, jT]
  exact (List.sublist_append_left ..).trans (List.sublist_append_right ..)
 exact h.sublist this
section
variable {room : Nat} {fs last : aG} {nm : Bs} {f : bO} {rs : List aR}
theorem oD.mem (g : oD room fs last nm f rs) : (nm, f) ∈ fs := eU g.get
theorem oD.kin (g : oD room fs last nm f rs) : ∀ q ∈ last, uC f q.2 := g.kins _ g.mem
theorem oD.nd (g : oD room fs last nm f rs) : (f.blks ++ bY rs).Nodup := by
 rw [kO]
 exact ⟨Az g.ok.nodup g.mem, g.nodup, fun a ha b hb e => (g.free b hb).2.1 (e ▸ nW g.mem ha)⟩
structure oE (l : Nat → aL) (room k s : Nat) (fs last : aG) (nm : Bs) (f : bO) (rs : List aR) (X : Bs) : Prop where
 core : xT l room k s last
 rest : ∀ p ∈ fs, p.1 ≠ nm → oW (oX l) p.2
 part : wY (oX l) (f.blks ++ bY rs) X
theorem oE.start {l : Nat → aL} {k s : Nat} (h : eY l room k s fs last) (g : oD room fs last nm f rs) : oE l room k s fs last nm f rs f.data := by
 refine ⟨h.reset, fun p hp _ => h.holds p hp, fun j b i hj hi hx => ?_⟩
 have hf := (g.ok.ok _ g.mem).blks_len
 have hl : j < f.blks.length := by rw [hf]; simp only at hx ⊢; unfold bP; omega
 rw [kQ hl] at hj
 exact h.holds _ g.mem j b i hj hi hx
theorem oE.step {l : Nat → aL} {k s : Nat} {X e : Bs} (h : oE l room k s fs last nm f rs (f.data ++ X)) (g : oD room fs last nm f rs) {j b : Nat} (hj : (f.blks ++ bY rs)[j]? = some b)
  (h1 : 512 * j ≤ (f.data ++ X).length) (he : (f.data ++ (X ++ e)).length ≤ 512 * j + 512) {x : Bs} (hx : x.length = 512) (hxe : ∀ i, i < 512 → 512 * j + i < (f.data ++ (X ++ e)).length → x[i]? = (f.data ++ (X ++ e))[512 * j + i]?) :
  oE (exec1 l (.write (36 + b) x)) room k s fs last nm f rs (f.data ++ (X ++ e)) := by
 have hnd := g.nd
 have inj : ∀ {j'}, (f.blks ++ bY rs)[j']? = some b → j' = j := fun {j'} hj' => by
  obtain ⟨h2, e2⟩ := eX.1 hj
  obtain ⟨h3, e3⟩ := eX.1 hj'
  exact (List.getElem_inj hnd).1 (e3.trans e2.symm)
 refine ⟨h.core.write hx fun q hq j' hj' i hi hlt => ?_, fun p hp hne => (h.rest p hp hne).congr fun c hc => ?_, fun j' b' i hj' hi hlt => ?_⟩
 ·have hbq : b ∈ q.2.blks := fC hj'
  have hbl : b ∈ bH last := nW hq hbq
  rcases g.kin q hq with hk | ⟨hk, hd⟩
  ·have : b ∈ f.blks ++ bY rs := fC hj
   rcases bK.1 this with hm | hm
   ·exact absurd hbq (hk b hm)
   exact absurd hbl (g.free b hm).2.2
  have e1 : f.blks[j']? = some b := by
   obtain ⟨t, ht⟩ := hk
   rw [← ht, kQ (eX.1 hj').1]; exact hj'
  obtain rfl : j' = j := inj (by rw [kQ (eX.1 e1).1]; exact e1)
  obtain ⟨t, ht⟩ := hd
  have hfd : q.2.data.length ≤ f.data.length := by rw [← ht]; simp
  rw [hxe i hi (by rw [bD]; omega), kQ (by omega), ← ht, kQ hlt]
 ·show (exec1 l _ (36 + c)).view = (l (36 + c)).view
  have hne2 : c ≠ b := fun e2 => by
   subst e2
   have : c ∈ f.blks ++ bY rs := fC hj
   rcases bK.1 this with hm | hm
   ·exact zH g.ok.nodup hp g.mem hne c hc hm
   exact (g.free c hm).2.1 (nW hp hc)
  rw [fH _ (by omega)]
 show ((exec1 l _ (36 + b')).view)[i]? = _
 by_cases e2 : b' = b
 ·subst e2
  obtain rfl := inj hj'
  rw [mT, aL.view_push]
  exact hxe i hi hlt
 rw [fH _ (by omega)]
 have hjj : j' ≠ j := fun q => by rw [q, hj] at hj'; exact e2 (by cases hj'; rfl)
 have hlt2 : 512 * j' + i < (f.data ++ X).length := by
  rcases kP j' j with q | q
  ·omega
  exfalso; omega
 have := h.part j' b' i hj' hi hlt2
 rw [show (l (36 + b')).view = oX l b' from rfl, this, ← eJ, kQ hlt2]
theorem oE.done {l : Nat → aL} {k s : Nat} {d : Bs} (h : oE l room k s fs last nm f rs (f.data ++ d)) (g : oD room fs last nm f rs) (hlen : aY rs = bP (f.data.length + d.length) - bP f.data.length) (hmost : f.data.length + d.length ≤ 32768) :
  eY l room k s (cQ bQ fs nm (grown f rs d)) last := by
 have hok := g.ok.ok _ g.mem
 have hb := vY f rs d
 have hG : mY room (grown f rs d) := {
  canon := zD rs _ hok.canon g.pos
  le := by
   intro r hr
   have hc : jL (rs.foldl gR f.runs) := zD rs _ hok.canon g.pos
   have hpos := oT hc r hr
   have hm : r.1 + r.2 - 1 ∈ (grown f rs d).blks := zF.2 ⟨r, hr, by omega, by omega⟩
   rw [hb] at hm
   have : r.1 + r.2 - 1 < room := by
    rcases bK.1 hm with q | q
    ·exact hok.blks_lt _ q
    exact (g.free _ q).1
   omega
  len := by
   have h1 := hok.len
   have e1 : aY (grown f rs d).runs = (f.blks ++ bY rs).length := by rw [← hb]; exact (mH _).symm
   rw [e1, bD, bO.blks, mH, mH]
   show _ = bP (f.data ++ d).length
   simp only at h1
   rw [h1, hlen, bD]
   unfold bP; omega
  most := by show (f.data ++ d).length ≤ _; rw [bD]; exact hmost }
 have hput : dC room (cQ bQ fs nm (grown f rs d)) := ER g.ok (g.ok.name _ g.mem) hG (by rw [EJ dD g.ok.srt, g.get]; exact g.ok.few) (by rw [hb]; exact g.nd) (by
  intro b hbm hbd
  rw [hb] at hbm
  obtain ⟨p, hp, hpb⟩ := lK.1 hbd
  obtain ⟨hp1, hp2⟩ := mX.1 hp
  rcases bK.1 hbm with q | q
  ·exact zH g.ok.nodup hp1 g.mem hp2 b hpb q
  exact (g.free b q).2.1 (nW hp1 hpb))
 refine ⟨h.core.few, h.core.quiet, h.core.sized, hput, h.core.was, fun p hp => ?_, h.core.sure, fun p hp q hq => ?_⟩
 ·rcases uD g.ok.srt hp with rfl | ⟨hp, hne⟩
  ·show wY _ (grown f rs d).blks _
   rw [hb]; exact h.part
  exact h.rest p hp hne
 rcases uD g.ok.srt hp with rfl | ⟨hp, hne⟩
 ·show uC (grown f rs d) q.2
  unfold uC
  rw [hb]
  rcases g.kin q hq with hk | ⟨hk, hd⟩
  ·refine .inl fun b hbm => ?_
   rcases bK.1 hbm with q1 | q1
   ·exact hk b q1
   exact fun hb2 => (g.free b q1).2.2 (nW hq hb2)
  exact .inr ⟨hk.trans (yU ..), hd.trans (yU ..)⟩
 exact g.kins p hp q hq
end
theorem CW : ∀ {a b : List Nat}, a.Nodup → (∀ x ∈ a, x ∈ b) → a.length ≤ b.length
 | [], _, _, _ => dH _
 | x :: a, b, h, hs => by
  obtain ⟨h1, h2⟩ := kC.1 h
  have hx := hs x (by simp)
  have := CW (a := a) (b := b.erase x) h2 fun y hy => by
   have hne : y ≠ x := fun e => by subst e; exact h1 hy
   exact (List.mem_erase_of_ne hne).2 (hs y (by simp [hy]))
  have hl := Kh hx
  have := List.length_pos_of_mem hx
  simp only [eG]
  omega
theorem Im (p : Nat → Bool) : ∀ l : List Nat, l.length = (l.filter p).length + (l.filter fun b => !p b).length
 | [] => rfl
 | a :: l => by
  have := Im p l
  by_cases h : p a = true
  ·simp [h]; omega
  simp [h]; omega
theorem Pi {n : Nat} {L : List Nat} (h : L.Nodup) (hn : ∀ b ∈ L, b < n) : ((List.range n).filter fun b => !decide (b ∈ L)).length + L.length = n := by
 have h1 : ((List.range n).filter fun b => decide (b ∈ L)).length = L.length := by
  refine Nat.le_antisymm (CW (List.nodup_range.filter _) fun x hx => by simpa using (wM.1 hx).2) (CW h fun x hx => wM.2 ⟨yL.2 (hn x hx), by simpa using hx⟩)
 have h2 := Im (fun b => decide (b ∈ L)) (List.range n)
 rw [List.length_range, h1] at h2
 omega
def cY (room : Nat) (fs : aG) : List Bool := (List.range room).map fun b => decide (b ∈ bH fs)
theorem gO (room : Nat) (fs : aG) : (cY room fs).length = room := by simp [cY]
theorem sG {room : Nat} (fs : aG) {b : Nat} (h : b < room) : (cY room fs)[b]? = some (decide (b ∈ bH fs)) := by simp [cY, h]
theorem CX {room : Nat} {fs : aG} {l : List Bool} (hl : l.length = room) (h : ∀ b, b < room → l[b]? = some (decide (b ∈ bH fs))) : l = cY room fs := by
 apply wK
 intro b
 by_cases hb : b < room
 ·rw [h b hb, sG fs hb]
 rw [gG (by omega), gG (by rw [gO]; omega)]
theorem Pj {room : Nat} {fs gs : aG} (h : ∀ b, b ∈ bH fs ↔ b ∈ bH gs) : cY room fs = cY room gs := by
 unfold cY
 refine uZ fun b _ => ?_
 simp [h b]
def uR (last : aG) (f : bO) : Nat := (f.blks.filter fun b => decide (b ∈ bH last)).length
theorem Pk {room : Nat} {fs last : aG} (h : dC room fs) (hl : dC room last) {f : Nat → Bool} (hf : ∀ b, b < room → f b = (!decide (b ∈ bH fs) && !decide (b ∈ bH last))) :
  aY (dZ f room 0) + (bH last).length + ((bH fs).filter fun b => !decide (b ∈ bH last)).length = room := by
 have h1 : (bH last ++ (bH fs).filter fun b => !decide (b ∈ bH last)).Nodup := by
  rw [kO]
  refine ⟨hl.nodup, h.nodup.filter _, fun a ha b hb e => ?_⟩
  have := (wM.1 hb).2
  subst e
  simp [ha] at this
 have h2 := Pi (n := room) h1 fun b hb => by
  rcases bK.1 hb with q | q
  ·exact hl.lt b q
  exact h.lt b (wM.1 q).1
 rw [bD] at h2
 rw [← mH, vJ]
 unfold lO
 rw [show List.range' 0 (room - 0) = List.range room by rw [yW, List.range_eq_range']]
 have h3 : (List.range room).filter f = (List.range room).filter fun b => !decide (b ∈ bH last ++ (bH fs).filter fun b => !decide (b ∈ bH last)) := by
  refine List.filter_congr fun b hb => ?_
  rw [hf b (yL.1 hb)]
  by_cases q1 : b ∈ bH fs <;> by_cases q2 : b ∈ bH last <;> simp [q1, q2]
 rw [h3]
 omega
theorem Pl (n : Nat) : ∀ (l : Nat → aL) (i : Nat), (i < n → ((exec ((List.range n).map fun i => cE.write i cH) l i).view = cH)) ∧ (n ≤ i → exec ((List.range n).map fun i => cE.write i cH) l i = l i) := by
 induction n with
 | zero => intro l i; exact ⟨fun h => absurd h (by omega), fun _ => rfl⟩
 | succ n ih =>
  intro l i
  rw [DI, eZ, lN]
  obtain ⟨h1, h2⟩ := ih l i
  generalize exec ((List.range n).map fun i => cE.write i cH) l = l1 at *
  simp only [dR, kT, vF, sS]
  refine ⟨fun hi => ?_, fun hi => ?_⟩
  ·by_cases e : i = n
   ·subst e; rw [mT, aL.view_push]
   rw [fH _ e]; exact h1 (by omega)
  rw [fH _ (by omega)]; exact h2 (by omega)
def pH (n : Nat) : List cE := ((List.range n).map fun i => cE.write i cH) ++ ([.flush] ++ ([.write 1 cH, .flush] ++ [.write 0 (eN 0 (dS 0)), .flush]))
theorem In {n : Nat} (hn : 36 ≤ n) {l : Nat → aL} (hs : iE l) : eP (exec (pH n) l) 0 1 (fun _ => cH) ∧ iE (exec (pH n) l) ∧ ∀ i, (exec (pH n) l i).pend = [] := by
 have hz := Pl n l
 have hsz : ∀ o ∈ pH n, tY o := by
  intro o ho
  simp only [pH, bK, cV, aJ, cA, cG] at ho
  rcases ho with ⟨i, -, rfl⟩ | rfl | (rfl | rfl) | rfl | rfl
  ·exact rR
  ·trivial
  ·exact rR
  ·trivial
  ·exact zA (by omega) (by have := qJ (k := 0) (by omega); omega)
  trivial
 refine ⟨?_, hs.exec hsz, ?_⟩
 ·unfold pH
  rw [lN]
  generalize exec ((List.range n).map fun i => cE.write i cH) l = l1 at *
  simp only [List.cons_append, List.nil_append, vF, sS]
  have hv : ∀ i, i < n → (l1 i).view = cH := fun i hi => (hz i).1 hi
  have f0 : ∀ i, i < n → exec1 l1 .flush i = ⟨cH, []⟩ := fun i hi => by show (l1 i).flush = _; rw [aL.flush, hv i hi]
  generalize exec1 l1 .flush = l2 at *
  have f1 : ∀ i, i < n → exec1 (exec1 l2 (.write 1 cH)) .flush i = ⟨cH, []⟩ := fun i hi => by
   show (exec1 l2 (.write 1 cH) i).flush = _
   by_cases e : i = 1
   ·subst e; rw [mT, aL.flush, aL.view_push]
   rw [fH _ e, f0 i hi]; rfl
  generalize exec1 (exec1 l2 (.write 1 cH)) .flush = l3 at *
  have f2 : ∀ i, i < n → exec1 (exec1 l3 (.write 0 (eN 0 (dS 0)))) .flush i = ⟨if i = 0 then eN 0 (dS 0) else cH, []⟩ := fun i hi => by
   show (exec1 l3 (.write 0 (eN 0 (dS 0))) i).flush = _
   by_cases e : i = 0
   ·subst e; rw [mT, aL.flush, aL.view_push, aF rfl]
   rw [fH _ e, f1 i hi, aE e]; rfl
  generalize exec1 (exec1 l3 (.write 0 (eN 0 (dS 0)))) .flush = l4 at *
  refine ⟨⟨by omega, by simpa using f2 0 (by omega), by rw [f2 1 (by omega)], ?_⟩, ?_, fun i hi => ?_⟩
  ·rw [f2 1 (by omega)]
   intro c d h
   rw [aE (by omega), KE] at h
   cases h
  ·rw [f2 2 (by omega)]
   exact ⟨rfl, .inl (by simp)⟩
  rw [f2 _ (by omega), aE (by omega)]
 intro i
 unfold pH
 simp only [List.cons_append, List.nil_append, lN, vF, sS]
 rfl
theorem Io {i : Nat} (h : i < 16) : dK (List.replicate 8192 0) i = cH := by
 unfold dK cH
 rw [JU, List.take_replicate]
 congr 1
 omega
theorem eP.congr {l : Nat → aL} {k s : Nat} {f g : Nat → Bs} (h : eP l k s f) (e : ∀ n, n < 16 → g n = f n) : eP l k s g := ⟨h.slots, h.list, fun n hn => by rw [h.home n hn, e n hn]⟩
theorem Pm {n : Nat} (hn : 36 ≤ n) (hn5 : n ≤ 512) {l : Nat → aL} (hs : iE l) :
  eY (exec (jK 2 0 (oV (List.replicate 8192 0) (dT []))) (exec (gZ 0 1 []) (exec (pH n) l))) (n - 36) 2 1 [] [] := by
 obtain ⟨h1, h2, h3⟩ := In hn hs
 have h4 := (BA h1 (by omega)).2
 have hd := (dC.nil (n - 36)).dir_len (by omega)
 have h5 := (h4.congr (g := dK (List.replicate 8192 0)) fun i hi => Io hi)
 have ho := uB (a := List.replicate 8192 0) hd
 have h6 := (h5.commit ho (by omega)).2.1
 exact ⟨by omega, h6, (h2.exec (ED (by omega) ⟨by simp, by simp, by simp⟩)).exec (EC (by omega) ho.wok), dC.nil _, dC.nil _, fun p hp => absurd hp cA, fun p hp => absurd hp cA, fun p hp => absurd hp cA⟩
theorem wY.part {c : Nat → Bs} {bl : List Nat} {X : Bs} (h : wY c bl X) {at_ m b : Nat} (hb : bl[at_ / 512]? = some b) (hm : at_ + m ≤ X.length) (h5 : at_ % 512 + m ≤ 512) :
  ((c b).drop (at_ % 512)).take m = (X.drop at_).take m := by
 apply wK
 intro i
 rw [wL, wL]
 by_cases hi : i < m
 ·rw [aF hi, aF hi, DX, DX, h _ b (at_ % 512 + i) hb (by omega) (by omega)]
  congr 1
  omega
 rw [aE hi, aE hi]
theorem Pn {X : Bs} {a d m : Nat} : (X.drop a).take (d + m) = (X.drop a).take d ++ (X.drop (a + d)).take m := by
 rw [List.take_add, rN]
open Go.RowKit Go.Maps
structure fV where
 j : Nat
 c : Nat
 q : Nat
 m : Nat
 mf : Nat
 ml : Nat
 base : Nat
 va : Value
 nv : Value
 lv : Value
 F : List Nat
 FC : List Nat
 FM : List Nat
 FL : List Nat
 l : List (Bc.Nd Int fE)
 V : Nat → Bs
 A : Bs → Nat
 A' : Bs → Nat
 R : Bs → Value
 R' : Bs → Value
 T : Nat → Nat
structure Po (v : Nat) (X : fV) : Prop where
 v : X.T v = 1
 j : X.T X.j = 2
 F : ∀ i ∈ X.F, X.T i = 3
 FC : ∀ i ∈ X.FC, X.T i = 4
 FM : ∀ i ∈ X.FM, X.T i = 5
 FL : ∀ i ∈ X.FL, X.T i = 6
 q : X.T X.q = 7
 nv : ∀ g, X.nv.ownBlock = some g → X.T g = 8
 lv : ∀ g, X.lv.ownBlock = some g → X.T g = 9
 va : ∀ g, X.va.ownBlock = some g → X.T g = 10
def fV.fp (X : fV) (v : Nat) : List Nat := v :: X.j :: X.q :: (X.F ++ (X.FC ++ (X.FM ++ (X.FL ++ (X.nv.ownBlock.toList ++ (X.lv.ownBlock.toList ++ X.va.ownBlock.toList))))))
theorem aV {X : fV} {v i : Nat} : i ∈ X.fp v ↔ i = v ∨ i = X.j ∨ i = X.q ∨ i ∈ X.F ∨ i ∈ X.FC ∨ i ∈ X.FM ∨ i ∈ X.FL ∨ X.nv.ownBlock = some i ∨ X.lv.ownBlock = some i ∨ X.va.ownBlock = some i := by
 unfold fV.fp
 simp only [aJ, bK, mR]
structure dM (w : World) (v p : Nat) (D : aI) (room k s : Nat) (fs last : aG) (X : fV) : Prop where
 box : w.heap[v]? = some (eW X.j X.c X.q X.mf X.ml X.va false)
 log : jE w X.j p (room + 16) k X.c X.m false D X.F X.l X.V X.FC
 fil : dL w X.mf fs X.A X.R X.FM
 las : dL w X.ml last X.A' X.R' X.FL
 map : fJ w X.base X.q X.nv X.lv (cY room fs) (cY room last)
 dir : Ow w 0 X.va (dT last)
 up : D.down = false
 inv : eY D.blk room k s fs last
 see : ∀ b, b < room → X.V (16 + b) = (D.blk (36 + b)).view
 sep : Po v X
theorem jE.upd {w w' : World} {j p n k c m : Nat} {dead : Bool} {D : aI} {F : List Nat} {l : List (Bc.Nd Int fE)} {V : Nat → Bs} {FC G : List Nat} (h : jE w j p n k c m dead D F l V FC) (u : aB G w w') (hj : j ∉ G) (hF : ∀ i ∈ F, i ∉ G) (hC : ∀ i ∈ FC, i ∉ G) : jE w' j p n k c m dead D F l V FC :=
 ⟨h.log.upd u hj, h.dev.upd u hF, h.ca.upd u hC, h.jF, h.jC, h.ap, h.nD, fun i hi => dN (h.lt i hi) u.size⟩
theorem dM.lt {w : World} {v p : Nat} {D : aI} {room k s : Nat} {fs last : aG} {X : fV} (h : dM w v p D room k s fs last X) : ∀ i ∈ X.fp v, i < w.heap.size := by
 intro i hi
 rcases aV.1 hi with rfl | rfl | rfl | q | q | q | q | q | q | q
 ·exact aH h.box
 ·exact aH h.log.log
 ·exact aH h.map.box
 ·exact h.log.dev.lt i q
 ·exact h.log.lt i q
 ·exact h.fil.lt i q
 ·exact h.las.lt i q
 ·exact (h.map.now.block i q).2
 ·exact (h.map.last.block i q).2
 exact (h.dir.block i q).2
theorem dM.keep {w w' : World} {v p : Nat} {D : aI} {room k s : Nat} {fs last : aG} {X : fV} (h : dM w v p D room k s fs last X) {G : List Nat} (u : aB G w w') (hG : ∀ i ∈ X.fp v, i ∉ G) : dM w' v p D room k s fs last X := by
 have hg : ∀ {i}, (i = v ∨ i = X.j ∨ i = X.q ∨ i ∈ X.F ∨ i ∈ X.FC ∨ i ∈ X.FM ∨ i ∈ X.FL ∨ X.nv.ownBlock = some i ∨ X.lv.ownBlock = some i ∨ X.va.ownBlock = some i) → i ∉ G := fun hi => hG _ (aV.2 hi)
 exact ⟨(u.block v (aH h.box) (hg (by simp))).trans h.box, h.log.upd u (hg (by simp)) (fun i hi => hg (by simp [hi])) (fun i hi => hg (by simp [hi])), h.fil.upd u (fun i hi => hg (by simp [hi])), h.las.upd u (fun i hi => hg (by simp [hi])),
  h.map.upd u (hg (by simp)) (fun i hi e => hg (by simp [e]) hi) (fun i hi e => hg (by simp [e]) hi), h.dir.upd u (fun i hi e => hg (by simp [e]) hi), h.up, h.inv, h.see, h.sep⟩
theorem dM.off {w : World} {v p : Nat} {D : aI} {room k s : Nat} {fs last : aG} {X : fV} (h : dM w v p D room k s fs last X) : v ≠ X.j ∧ v ∉ X.F ∧ v ∉ X.FC ∧ v ∉ X.FM ∧ v ∉ X.FL ∧ v ≠ X.q ∧ X.j ∉ X.F ∧ X.j ∉ X.FC ∧ X.j ∉ X.FM ∧ X.j ∉ X.FL ∧ X.j ≠ X.q ∧ X.q ∉ X.F ∧ X.q ∉ X.FC ∧ X.q ∉ X.FM ∧ X.q ∉ X.FL := by
 have s := h.sep
 have e : ∀ {a b x y : Nat}, X.T a = x → X.T b = y → x ≠ y → a ≠ b := fun h1 h2 hn e => hn (by rw [← h1, ← h2, e])
 refine ⟨e s.v s.j (by decide), fun q => ?_, fun q => ?_, fun q => ?_, fun q => ?_, e s.v s.q (by decide), fun q => ?_, fun q => ?_, fun q => ?_, fun q => ?_, e s.j s.q (by decide), fun q => ?_, fun q => ?_, fun q => ?_, fun q => ?_⟩
 ·exact e s.v (s.F _ q) (by decide) rfl
 ·exact e s.v (s.FC _ q) (by decide) rfl
 ·exact e s.v (s.FM _ q) (by decide) rfl
 ·exact e s.v (s.FL _ q) (by decide) rfl
 ·exact e s.j (s.F _ q) (by decide) rfl
 ·exact e s.j (s.FC _ q) (by decide) rfl
 ·exact e s.j (s.FM _ q) (by decide) rfl
 ·exact e s.j (s.FL _ q) (by decide) rfl
 ·exact e s.q (s.F _ q) (by decide) rfl
 ·exact e s.q (s.FC _ q) (by decide) rfl
 ·exact e s.q (s.FM _ q) (by decide) rfl
 exact e s.q (s.FL _ q) (by decide) rfl
theorem eI {T : Nat → Nat} {a b x y : Nat} (h1 : T a = x) (h2 : T b = y) (hn : x ≠ y) : a ≠ b := fun e => hn (by rw [← h1, ← h2, e])
def lD (w : World) (v p room : Nat) (X : fV) (D : aI) (k s : Nat) (fs last : aG) (w' : World) : Prop :=
 ∃ X', dM w' v p D room k s fs last X' ∧ aB (X.fp v) w w' ∧ ∀ i ∈ X'.fp v, i ∈ X.fp v ∨ w.heap.size ≤ i
structure Pp (w : World) (v p : Nat) (D : aI) (F : List Nat) : Prop where
 ex : ∃ (j c q mf ml : Nat) (va : Value) (dead : Bool) (n k : Nat) (ld : Bool), w.heap[v]? = some (eW j c q mf ml va dead) ∧ bZ w j p n k ld ∧ (∃ F0, bN w p D F0 ∧ (∀ i ∈ F0, i ∈ F) ∧ v ∉ F0 ∧ j ∉ F0) ∧ n ≤ 512 ∧ v ≠ j ∧ v ∈ F ∧ j ∈ F
 down : D.down = true
structure iO (D : aI) (e : Nat) (D' : aI) (c : Nat) : Prop where
 n : D'.n = D.n
 wr : D'.wr ≤ D.wr + c
 out : (e = 0 ∧ D.down = false ∧ D'.down = false ∧ (D.fuse < 0 → D'.fuse < 0)) ∨ (e = 2 ∧ (D.down = false → 0 ≤ D.fuse) ∧ D'.down = true)
theorem bV.ran {t : List cE} {D D' : aI} {e : Nat} (h : bV t D e D') {c : Nat} (hc : t.length ≤ c) : iO D e D' c :=
 ⟨h.n, by have := h.wr; omega, h.out.imp (fun q => ⟨q.1, q.2.1, q.2.2.1, q.2.2.2.1⟩) (fun q => ⟨q.1, q.2.1, q.2.2.1⟩)⟩
theorem iO.next {D D1 D2 : aI} {e a b : Nat} (h : iO D 0 D1 a) (g : iO D1 e D2 b) : iO D e D2 (a + b) := by
 refine ⟨g.n.trans h.n, by have := g.wr; have := h.wr; omega, ?_⟩
 rcases h.out with ⟨-, h1, h2, h3⟩ | ⟨h1, -⟩
 ·rcases g.out with ⟨g1, g2, g3, g4⟩ | ⟨g1, g2, g3⟩
  ·exact .inl ⟨g1, h1, g3, fun q => g4 (h3 q)⟩
  refine .inr ⟨g1, fun _ => ?_, g3⟩
  have := g2 h2
  by_cases q : D.fuse < 0
  ·have := h3 q; omega
  omega
 cases h1
theorem iO.more {D D' : aI} {e c d : Nat} (h : iO D e D' c) (hc : c ≤ d) : iO D e D' d := ⟨h.n, by have := h.wr; omega, h.out⟩
theorem iO.refl {D : aI} (h : D.down = false) : iO D 0 D 0 := ⟨rfl, aQ _, .inl ⟨rfl, h, h, id⟩⟩
theorem iO.ok {D D' : aI} {e c : Nat} (h : iO D e D' c) (hf : D.fuse < 0) (hd : D.down = false) : e = 0 ∧ D'.fuse < 0 ∧ D'.down = false := by
 rcases h.out with ⟨h1, -, h3, h4⟩ | ⟨-, h2, -⟩
 ·exact ⟨h1, h4 hf, h3⟩
 have := h2 hd; omega
def fW (fs : aG) (nm : Bs) (at_ n : Int) : Nat := match bF fs nm with | none => 80 | some f => if at_ < 0 ∨ (f.data.length : Int) < at_ ∨ n < 0 then 1 else 0
def oF (fs : aG) (nm : Bs) (at_ n : Int) : Bs := match bF fs nm with | none => [] | some f => (f.data.drop at_.toNat).take n.toNat
def Ip (w : World) (v j p n k c m q mf ml : Nat) (va : Value) (D : aI) (F : List Nat) (V : Nat → Bs) (FC : List Nat) (fs : aG) (nm : Bs) (at_ cnt : Int) (r : Ending) (w' : World) : Prop :=
 ∃ (e : Nat) (D' : aI) (l' : List (Bc.Nd Int fE)) (FC' : List Nat) (rv : Value), r = .returned (.tuple #[rv, .int .i64 (if e = 0 then fW fs nm at_ cnt else e : Nat)]) ∧ bV [] D e D' ∧ w'.heap[v]? = some (eW j c q mf ml va (decide (e = 2))) ∧ jE w' j p n k c m (decide (e = 2)) D' F l' V FC' ∧
  aB (v :: j :: (F ++ FC)) w w' ∧ (∀ i ∈ FC', i ∈ FC ∨ w.heap.size ≤ i) ∧ (e = 0 → fW fs nm at_ cnt = 0 → Ow w' w.heap.size rv (oF fs nm at_ cnt) ∧ ∀ g, rv.ownBlock = some g → g ∉ FC') ∧ ((e ≠ 0 ∨ fW fs nm at_ cnt ≠ 0) → rv = .slice none 0 0)
theorem Pq (w : World) {v j p n k c m q mf ml : Nat} {va : Value} {D : aI} {F : List Nat} {l : List (Bc.Nd Int fE)} {V : Nat → Bs} {FC : List Nat} (h : w.heap[v]? = some (eW j c q mf ml va false)) (hA : jE w j p n k c m false D F l V FC) (hdn : D.down = false) (hn : n ≤ 512) (hwr : D.wr ≤ 137438953000) (hvj : v ≠ j) (hvF : v ∉ F) (hvC : v ∉ FC)
  {room : Nat} {fs : aG} {A : Bs → Nat} {R : Bs → Value} {FM : List Nat} (hf : dL w mf fs A R FM) (hvM : v ∉ FM) (hM : ∀ i ∈ FM, i ≠ j ∧ i ∉ F ∧ i ∉ FC) (hok : dC room fs) (hrn : room + 16 ≤ n) (hV : ∀ b, b < room → V (16 + b) = (D.blk (36 + b)).view) (hsz : iE D.blk) (hH : ∀ p ∈ fs, oW (oX D.blk) p.2)
  (s : ByteArray) (hs : s.size ≤ maxLen) (at_ cnt : Int) :
  Calls Tryz.prog 56 #[.pointer (some ⟨v, 0, none⟩), .string s, .int .i64 at_, .int .i64 cnt] w (Ip w v j p n k c m q mf ml va D F V FC fs s.data.toList at_ cnt) := by
 have hU0 := Ay w h hA.log hA.dev hn hvj hf hvM (fun q => (hM _ q).1 rfl) s hs
 rw [hdn] at hU0
 have HU := aA hU0
 have HF := aA hf
 have HA := aA hA
 have hvl := aH h
 clear h hA hf hU0
 go_in
 go_wp2_with fail
 refine HU.out.mono ?_
 rintro r w1 ⟨rfl, hb1, hl1, hu1⟩
 have hfil : dL w1 mf fs A R FM := HF.out.upd hu1 (fun i hi q => by
  simp only [aJ, cA, cG] at q
  rcases q with rfl | rfl
  ·exact hvM hi
  exact (hM _ hi).1 rfl)
 have hA1 : jE w1 j p n k c m false D F l V FC := by
  refine ⟨by simpa using hl1, HA.out.dev.upd hu1 fun i hi q => ?_, HA.out.ca.upd hu1 fun i hi q => ?_, HA.out.jF, HA.out.jC, HA.out.ap, HA.out.nD, fun i hi => dN (HA.out.lt i hi) hu1.size⟩
  ·simp only [aJ, cA, cG] at q
   rcases q with rfl | rfl
   ·exact hvF hi
   exact HA.out.jF hi
  simp only [aJ, cA, cG] at q
  rcases q with rfl | rfl
  ·exact hvC hi
  exact HA.out.jC hi
 have hU1 : aB (v :: j :: (F ++ FC)) w w1 := hu1.mono (fun k hk _ => by simp only [aJ, cA, cG] at hk ⊢; rcases hk with rfl | rfl <;> simp)
 have H1 := aA (aC hb1 (aC hA1 (aC hU1 hfil)))
 clear hb1 hl1 hu1 hfil hA1 hU1
 simp only [Bool.false_or, Bool.false_eq_true, if_false] at H1 ⊢
 cases hg : bF fs s.data.toList with
 | none =>
  have hc : fW fs s.data.toList at_ cnt = 80 := by unfold fW; rw [hg]
  have HC := aA hc
  clear hc
  go_wp2_with fail
  go_ret2
  exact ⟨0, D, l, FC, _, by rw [aF rfl, HC.out]; rfl, bV.refl hdn, H1.out.1, H1.out.2.1, H1.out.2.2.1, fun i hi => .inl hi, fun _ h => (by rw [HC.out] at h; cases h), fun _ => rfl⟩
 | some f =>
  have hfo := hok.ok _ (eU hg)
  have hfH := hH _ (eU hg)
  have hnd := H1.out.2.2.2.node _ (eU hg)
  have hsize := hfo.most
  simp only at hfo hfH hnd hsize
  have HZ := aA (Cj w1 hnd)
  have HND := aA hnd
  have HDR : Hid (oF fs s.data.toList at_ cnt = (f.data.drop at_.toNat).take cnt.toNat) := aA (by unfold oF; rw [hg])
  by_cases hbad : at_ < 0 ∨ (f.data.length : Int) < at_ ∨ cnt < 0
  ·have hc : fW fs s.data.toList at_ cnt = 1 := by unfold fW; rw [hg]; exact aF hbad
   have HC := aA hc
   clear hc hnd hfo hfH
   have hEnd : Ip w v j p n k c m q mf ml va D F V FC fs s.data.toList at_ cnt (.returned (.tuple #[.slice none 0 0, .int .i64 1])) w1 :=
    ⟨0, D, l, FC, _, by rw [aF rfl, HC.out]; rfl, bV.refl hdn, H1.out.1, H1.out.2.1, H1.out.2.2.1, fun i hi => .inl hi, fun _ h => (by rw [HC.out] at h; cases h), fun _ => rfl⟩
   have HE := aA hEnd
   clear hEnd
   by_cases ha : at_ < 0
   ·go_wp2_with fail
    go_ret2
    exact HE.out
   by_cases hb : (f.data.length : Int) < at_
   ·go_wp2_with fail
    refine HZ.out.mono ?_
    rintro r w2 ⟨rfl, rfl⟩
    go_wp2_with fail
    go_ret2
    exact HE.out
   have hcn : cnt < 0 := by omega
   go_wp2_with fail
   refine HZ.out.mono ?_
   rintro r w2 ⟨rfl, rfl⟩
   go_wp2_with fail
   go_ret2
   exact HE.out
  obtain ⟨a0, rfl⟩ : ∃ a : Nat, at_ = a := ⟨at_.toNat, by omega⟩
  obtain ⟨cn, rfl⟩ : ∃ a : Nat, cnt = a := ⟨cnt.toNat, by omega⟩
  have ha : a0 ≤ f.data.length := by omega
  have hc : fW fs s.data.toList a0 cn = 0 := by unfold fW; rw [hg]; exact aE hbad
  have HC := aA hc
  have hd1 : decide ((a0 : Int) < 0) = false := decide_eq_false (by omega)
  have hd2 : decide ((cn : Int) < 0) = false := decide_eq_false (by omega)
  have hd3 : ¬ (f.data.length : Int) < (a0 : Int) := by omega
  obtain ⟨M, hM0⟩ : ∃ M : Nat, M = f.data.length - a0 := ⟨_, rfl⟩
  have hw1 : IntKind.i64.wrap ((f.data.length : Int) - (a0 : Int)) = (M : Int) := by rw [fF _ (by omega)]; omega
  have HM0 := aA hM0
  obtain ⟨N, hN⟩ : ∃ N : Nat, N = min cn M := ⟨_, rfl⟩
  have hmin : min (cn : Int) (M : Int) = (N : Int) := by omega
  have HN0 := aA hN
  clear hM0 hc hbad hnd hN
  go_wp2_with fail
  refine HZ.out.mono ?_
  rintro r w2 ⟨rfl, rfl⟩
  go_wp2_with fail
  refine HZ.out.mono ?_
  rintro r w2 ⟨rfl, rfl⟩
  go_wp2_with fail
  have hHB := hfH
  have hbl := hfo.blks_len
  have hblt := hfo.blks_lt
  have HX := aA (aC hHB (aC hbl hblt))
  have hsm : pF f.runs 100000 := by
   have h64 : aY f.runs ≤ 64 := by rw [hfo.len]; unfold bP; omega
   have := sU (oT hfo.canon)
   refine ⟨fun x hx => ?_, by omega, by omega⟩
   have := hfo.le x hx
   omega
  have HSM := aA hsm
  have HND0 := aA HND.out
  have HV := aA hV
  have HSZ := aA hsz
  have HM := aA hM
  have hNs : a0 + N ≤ f.data.length := by have := HM0.out; omega
  generalize hSZ : f.data.length = size at *
  clear hHB hbl hblt hsm hV hsz hM hd1 hd2 hd3 hw1 hmin hfH hfo HND HZ HU
  go_loopg [2, 3, 12] N (fun gh v2 v3 v12 wr => ∃ (d r : Nat) (Di : aI) (li : List (Bc.Nd Int fE)) (FCi : List Nat), v2 = .int .i64 (a0 + d : Nat) ∧ v3 = .int .i64 r ∧ gh = r ∧ d + r = N ∧
   Hid (bV [] D 0 Di ∧ wr.heap[v]? = some (eW j c q mf ml va false) ∧ jE wr j p n k c m false Di F li V FCi ∧ aB (v :: j :: (F ++ FC)) w wr ∧ (∀ i ∈ FCi, i ∈ FC ∨ w.heap.size ≤ i)) ∧ Hid (Ow wr w.heap.size v12 ((f.data.drop a0).take d) ∧ ∀ g, v12.ownBlock = some g → g ∉ FCi) ∧ Hid (iG wr 0 (A s.data.toList) size (R s.data.toList) f.runs))
  case atStart => exact ⟨0, N, D, l, FC, by simp, rfl, rfl, by omega, aA ⟨bV.refl hdn, H1.out.1, H1.out.2.1, H1.out.2.2.1, fun i hi => .inl hi⟩, aA ⟨by simp; exact aK.nil _ _, fun g hg => by cases hg⟩, HND0⟩
  case round =>
   obtain ⟨d, rr, Di, li, FCi, rfl, rfl, rfl, hdr, HS, HO, HN⟩ := hrel
   by_cases hr : 0 < gk
   ·have hlt : (0 : Int) < (gk : Int) := by omega
    have hat : a0 + d < size := by omega
    obtain ⟨b, hb⟩ : ∃ b, (bY f.runs)[(a0 + d) / 512]? = some b := ⟨_, bL (by have := HX.out.2.1; rw [bO.blks] at this; rw [this]; unfold bP; omega)⟩
    have hbr := HX.out.2.2 b (fC hb)
    have HBb := aA hb
    have hAT := GZ wr HN.out hsize HSM.out (a0 + d) hat hb
    obtain ⟨fr, hfr⟩ : ∃ fr, fr = (a0 + d) % 512 := ⟨_, rfl⟩
    rw [← hfr] at hAT
    have HFr := aA hfr
    have HAT := aA hAT
    have hfr5 : fr < 512 := by omega
    obtain ⟨x, hx⟩ : ∃ x : Nat, x = 16 + b := ⟨_, rfl⟩
    have hw2 : IntKind.i64.wrap (16 + (b : Int)) = (x : Int) := by rw [fF _ (by omega)]; omega
    have k0 := aD HS.out.2.1 0
    have k1 := aD HS.out.2.1 1
    simp only [bA, bB, bS] at k0 k1
    have hDi := HS.out.1.up
    have hDw := HS.out.1.wr
    have hVx : V x = (Di.blk (20 + x)).view := by
     rw [hx, HV.out b hbr, hDi.2.2.2]; show (D.blk (36 + b)).view = (D.blk (20 + (16 + b))).view; rw [show 20 + (16 + b) = 36 + b by omega]
    have hV5 : (V x).length = 512 := by rw [hx, HV.out b hbr]; exact HSZ.out.view _
    have HVx := aA (aC hVx hV5)
    have HG := aA fun (X : World) (u : aB [] wr X) => GR X (HS.out.2.2.1.upd u (by simp) (by simp) (by simp)) hDi.2.1 (by simp at hDw; omega) x (by omega) hVx hV5
    clear hb hAT hfr hVx hV5 hDi hDw
    go_wp2_with fail
    refine HAT.out.mono ?_
    rintro r w3 ⟨rfl, hu3⟩
    have q0 := cN hu3 k0
    have q1 := cN hu3 k1
    have HU3 := aA hu3
    clear hu3
    go_wp2_with fail
    rw [show (16 : Int) + (b : Int) = (x : Int) by omega]
    refine (HG.out w3 HU3.out).mono ?_
    rintro r w4 ⟨e, D4, l4, FC4, v4, rfl, hE4, hL4, hu4, hF4, hok4, hbad4⟩
    have hEr := hE4.err
    have hb4 : w4.heap[v]? = some (eW j c q mf ml va false) := (hu4.block v (by have := HU3.out.size; have := aH HS.out.2.1; omega) (by
     simp only [aJ, bK, not_or]
     exact ⟨hvj, hvF, fun q => by rcases HS.out.2.2.2.2 _ q with q | q; exact hvC q; omega⟩)).trans (gF HU3.out HS.out.2.1)
    have hU4 : aB (v :: j :: (F ++ FC)) w w4 := ((HS.out.2.2.2.1.trans (HU3.out.mono (by simp))).next hu4 fun k hk hlt => by
     simp only [aJ, bK] at hk ⊢
     rcases hk with hk | hk | hk
     ·exact .inr (.inl hk)
     ·exact .inr (.inr (.inl hk))
     rcases HS.out.2.2.2.2 _ hk with q | q
     ·exact .inr (.inr (.inr q))
     omega)
    have hF4' : ∀ i ∈ FC4, i ∈ FC ∨ w.heap.size ≤ i := fun i hi => by
     rcases hF4 i hi with q | q
     ·exact HS.out.2.2.2.2 i q
     have := HU3.out.size; have := HS.out.2.2.2.1.size; exact .inr (by omega)
    have hE4' : bV [] D e D4 := HS.out.1.next hE4
    have H4 := aA (aC hE4' (aC hL4 (aC hU4 (aC hF4' hb4))))
    clear hE4 hL4 hU4 hF4' hb4 hE4'
    rcases hEr with rfl | rfl
    ·obtain ⟨hrow, hrowF⟩ := hok4 rfl
     obtain ⟨te, hte⟩ : ∃ te : Nat, te = min 512 (fr + gk) := ⟨_, rfl⟩
     have hmin2 : min (512 : Int) ((fr : Int) + (gk : Int)) = (te : Int) := by omega
     have hte1 : fr ≤ te := by omega
     have hte2 : te ≤ 512 := by omega
     have hte3 : te ≤ fr + gk := by omega
     have hte4 : fr < te := by omega
     have hpart : ((V x).drop fr).take (te - fr) = (f.data.drop (a0 + d)).take (te - fr) := by
      have h1 := HX.out.1.part (at_ := a0 + d) (m := te - fr) HBb.out (by omega) (by have := HFr.out; omega)
      rw [← HFr.out] at h1
      rw [← h1, hx, HV.out b hbr]; rfl
     have hv5 := HVx.out.2
     have how4 : Ow w4 w.heap.size u12 ((f.data.drop a0).take d) := (HO.out.1.upd HU3.out (by simp)).upd hu4 fun g hg q => by
      simp only [aJ, bK] at hg
      have hb1 := HO.out.1.block g q
      rcases hg with hg | hg | hg
      ·have := aH HA.out.log; omega
      ·have := HA.out.dev.lt g hg; omega
      exact HO.out.2 g q hg
     have HOW := aA how4
     have HRD := aA hrow.rd
     have HP := aA (aC hpart (aC hrowF hF4))
     have HHt := aA hte
     have HU34 := aA (((HU3.out.mono (by simp)).trans hu4).mono (G := v :: j :: (F ++ FCi)) (fun k hk _ => by simp only [aJ] at hk ⊢; exact .inr hk))
     obtain ⟨-, g4, cv4, ty4, cur4, rfl, hcc, hcm, hgb4, -, -, -⟩ := hrow
     have hcc1 : te ≤ cv4 := by omega
     have hcc2 : ¬ cv4 = fr := by omega
     have hcc3 : fr ≤ cv4 := by omega
     obtain ⟨oa, oc, om, hom, rfl⟩ := how4.sliceM
     have hr7 : Rd w4 (.slice (some ⟨g4, fr, none⟩) (te - fr) (cv4 - fr)) (((V x).drop fr).take (te - fr)) := by
      have := HRD.out.part fr (te - fr) (by omega) (cv4 - fr) (by omega) (by omega)
      simpa using this
     have hm7 : (((V x).drop fr).take (te - fr)).length = te - fr := by rw [bX, eD, hv5]; omega
     have HR7 := aA hr7
     have HM7 := aA hm7
     have HOm := aA hom
     have hhs4 := hu4.size
     have hhs3 := HU3.out.size
     have hhs0 := HS.out.2.2.2.1.size
     clear hpart hrowF hF4 how4 hu4 hok4 hbad4 hte HG HAT hom hr7 hm7
     go_wp2_with (first
      | (at_builtin; refine fS T8 rfl _ _ rfl (l := (f.data.drop a0).take d) rfl HOW.out (by rw [HM7.out]; rfl) HR7.out.src (lQ _) ?c1 ?c2 ?c3 ?_)
      | fail)
     case c1 => rw [HM7.out, bX]; omega
     case c2 => rw [HM7.out, bX]; omega
     case c3 => omega
     intro v8 w8 ho8 hg8 hn8
     have hg8u := tI hg8
     have hob : ∀ k ∈ (Value.slice oa om oc).ownBlock.toList, w.heap.size ≤ k := fun k hk => (HOW.out.block k (by simpa using hk)).1
     rw [← hx, HP.out.1, ← Pn] at ho8
     obtain ⟨oa8, oc8, om8, hom8, rfl⟩ := ho8.sliceM
     have H8 := aA (aC ho8 (aC hg8u (aC hn8 hob)))
     clear ho8 hg8 hn8 hg8u hob hom8
     go_wp2_with fail
     go_roundg (gk - (te - fr))
     case measure => omega
     case rel =>
      obtain ⟨hE4, hL4, hU4, hF4, hb4⟩ := H4.out
      obtain ⟨ho8, hg8, hn8, hob⟩ := H8.out
      have hvlt := aH hb4
      refine ⟨d + (te - fr), gk - (te - fr), D4, l4, FC4, by go_num, by go_num, rfl, by omega, aA ⟨hE4, ?_, ?_, ?_, hF4⟩, aA ⟨ho8, fun g hg q => ?_⟩, aA ?_⟩
      ·exact (hg8.block v hvlt fun q => by have := hob v q; omega).trans hb4
      ·refine jE.upd hL4 hg8 (fun q => by have := hob j q; have := aH HA.out.log; omega) (fun i hi q => by have := hob i q; have := HA.out.dev.lt i hi; omega) (fun i hi q => ?_)
       have e : (Value.slice oa om oc).ownBlock = some i := by simpa using q
       have h1 := HO.out.2 i e
       have h2 := (HO.out.1.block i e).2
       rcases HP.out.2.2 i hi with q2 | q2
       ·exact h1 q2
       omega
      ·exact hU4.next hg8 fun k hk hlt => by have := hob k hk; omega
      ·rcases hn8 with e | e
       ·rw [e] at hg
        have h1 := HO.out.2 g hg
        have h2 := (HO.out.1.block g hg).2
        rcases HP.out.2.2 g q with q2 | q2
        ·exact h1 q2
        omega
       have := e g hg
       have := hL4.lt g q
       omega
      have hnm := HF.out.memA _ (eU hg)
      have hnr := HF.out.memR _ (eU hg)
      have hAlt := HF.out.lt _ hnm
      simp only at hnm hnr hAlt
      have hoff : ∀ i ∈ FM, i ∉ v :: j :: (F ++ FCi) := fun i hi q => by
       have hi0 := HM.out i hi
       simp only [aJ, bK] at q
       rcases q with q | q | q | q
       ·subst q; exact hvM hi
       ·exact hi0.1 q
       ·exact hi0.2.1 q
       rcases HS.out.2.2.2.2 i q with q2 | q2
       ·exact hi0.2.2 q2
       have := HF.out.lt i hi; omega
      have hu4' : aB (v :: j :: (F ++ FCi)) wr w4 := HU34.out
      refine ((HN.out.upd hu4' (hoff _ hnm) (fun g hg => hoff _ (hnr g hg))).upd hg8 (fun q => ?_) (fun g hg q => ?_))
      ·have := hob _ q; omega
      have := hob _ q; have := HF.out.lt _ (hnr g hg); omega
    obtain rfl := hbad4 (by omega)
    have HEN := aA (Aw w4 H4.out.2.2.2.2 2)
    clear hok4 hbad4 hu4 hF4
    go_wp2_with fail
    refine HEN.out.mono ?_
    rintro r w5 ⟨rfl, hb5, hu5⟩
    go_wp2_with fail
    go_ret2
    obtain ⟨hE4, hL4, hU4, hF4, hb4⟩ := H4.out
    refine ⟨2, D4, l4, FC4, _, rfl, hE4, hb5, ?_, hU4.trans (hu5.mono (by simp)), hF4, fun h => absurd h (by omega), fun _ => rfl⟩
    refine hL4.upd hu5 (by simp; exact fun e => hvj e.symm) (fun i hi q => ?_) (fun i hi q => ?_)
    ·rw [aM.1 q] at hi; exact hvF hi
    rw [aM.1 q] at hi
    rcases hF4 _ hi with q | q
    ·exact hvC q
    omega
   obtain rfl : gk = 0 := by omega
   have hlt : ¬ (0 : Int) < ((0 : Nat) : Int) := by omega
   go_wp2_with fail
   go_ret2
   refine ⟨0, Di, li, FCi, u12, by rw [aF rfl, HC.out]; rfl, HS.out.1, HS.out.2.1, HS.out.2.2.1, HS.out.2.2.2.1, HS.out.2.2.2.2, fun _ _ => ⟨?_, HO.out.2⟩, fun h => ?_⟩
   ·rw [HDR.out, oP, oP]
    have := HO.out.1
    have hd : d = N := by omega
    have e : (f.data.drop a0).take cn = (f.data.drop a0).take d := by
     have := HN0.out
     have := HM0.out
     by_cases q : cn ≤ M
     ·rw [show d = cn by omega]
     rw [dY (by rw [eD]; omega), dY (by rw [eD]; omega)]
    rw [e]; exact this
   rcases h with h | h
   ·exact absurd rfl h
   exact absurd HC.out h
end Go.Proofs.YtgpefiacbipfpaaGreatDoor
