/- The device in plain words: blocks that are safe, and what was written behind that; operations one behind the other; what a crash may leave. No program in sight. -/
import Derived.WalkKit
import Derived.Test.YtgpefiacbipfpaaGreatDoorC00
namespace Go.Proofs.YtgpefiacbipfpaaGreatDoor
structure aL where
 safe : Bs
 pend : List Bs
def aL.view (c : aL) : Bs := c.pend.getLast?.getD c.safe
def aL.poss (c : aL) : List Bs := c.safe :: c.pend
def aL.push (c : aL) (b : Bs) : aL := ⟨c.safe, c.pend ++ [b]⟩
def aL.flush (c : aL) : aL := ⟨c.view, []⟩
theorem aL.view_push (c : aL) (b : Bs) : (c.push b).view = b := by simp [aL.view, aL.push]
theorem aL.view_mem (c : aL) : c.view ∈ c.poss := by
 unfold aL.view aL.poss
 cases h : c.pend.getLast? with
 | none => simp
 | some b => simp [List.mem_of_getLast? h]
inductive cE where
 | write (n : Nat) (b : Bs)
 | flush
def exec1 (l : Nat → aL) : cE → Nat → aL
 | .write n b => fun m => if m = n then (l m).push b else l m
 | .flush => fun m => (l m).flush
def exec (t : List cE) (l : Nat → aL) : Nat → aL := t.foldl exec1 l
theorem sS (l : Nat → aL) : exec [] l = l := rfl
theorem vF (o : cE) (t : List cE) (l : Nat → aL) : exec (o :: t) l = exec t (exec1 l o) := rfl
theorem lN (a b : List cE) (l : Nat → aL) : exec (a ++ b) l = exec b (exec a l) := AT ..
structure aI where
 n : Nat
 blk : Nat → aL
 fuse : Int
 down : Bool
 wr : Nat
structure bV (t : List cE) (D : aI) (e : Nat) (D' : aI) : Prop where
 n : D'.n = D.n
 wr : D'.wr ≤ D.wr + t.length
 out : (e = 0 ∧ D.down = false ∧ D'.down = false ∧ (D.fuse < 0 → D'.fuse < 0) ∧ D'.blk = exec t D.blk) ∨
  (e = 2 ∧ (D.down = false → 0 ≤ D.fuse) ∧ D'.down = true ∧ ∃ p q, t = p ++ q ∧ D'.blk = exec p D.blk)
theorem bV.refl {D : aI} (h : D.down = false) : bV [] D 0 D := ⟨rfl, aQ _, .inl ⟨rfl, h, h, id, rfl⟩⟩
theorem bV.next {a b : List cE} {D D1 D2 : aI} {e : Nat} (h : bV a D 0 D1) (g : bV b D1 e D2) : bV (a ++ b) D e D2 := by
 obtain ⟨n1, w1, h⟩ := h
 obtain ⟨n2, w2, g⟩ := g
 refine ⟨n2.trans n1, by rw [bD]; omega, ?_⟩
 rcases h with ⟨-, h1, h2, h3, h4⟩ | ⟨h, -⟩
 ·rcases g with ⟨g0, g1, g2, g3, g4⟩ | ⟨g0, g1, g2, p, q, g3, g4⟩
  ·exact .inl ⟨g0, h1, g2, fun q => g3 (h3 q), by rw [g4, h4, lN]⟩
  refine .inr ⟨g0, fun q => ?_, g2, a ++ p, q, by rw [g3, eJ], by rw [g4, h4, lN]⟩
  rcases Int.lt_or_le D.fuse 0 with hf | hf
  ·have := h3 hf; have := g1 h2; omega
  exact hf
 cases h
theorem bV.stop {a : List cE} (b : List cE) {D D1 : aI} {e : Nat} (h : bV a D e D1) (he : e ≠ 0) : bV (a ++ b) D e D1 := by
 obtain ⟨n1, w1, h⟩ := h
 refine ⟨n1, by rw [bD]; omega, ?_⟩
 rcases h with ⟨h, -⟩ | ⟨h0, h1, h2, p, q, h3, h4⟩
 ·exact absurd h he
 exact .inr ⟨h0, h1, h2, p, q ++ b, by rw [h3, eJ], h4⟩
theorem bV.err {t : List cE} {D D' : aI} {e : Nat} (h : bV t D e D') : e = 0 ∨ e = 2 := by
 rcases h.out with ⟨h, -⟩ | ⟨h, -⟩
 ·exact .inl h
 exact .inr h
theorem bV.up {t : List cE} {D D' : aI} (h : bV t D 0 D') : D.down = false ∧ D'.down = false ∧ (D.fuse < 0 → D'.fuse < 0) ∧ D'.blk = exec t D.blk := by
 rcases h.out with ⟨-, h⟩ | ⟨h, -⟩
 ·exact h
 cases h
theorem bV.dn {t : List cE} {D D' : aI} {e : Nat} (h : bV t D e D') (he : e ≠ 0) : e = 2 ∧ (D.down = false → 0 ≤ D.fuse) ∧ D'.down = true ∧ ∃ p q, t = p ++ q ∧ D'.blk = exec p D.blk := by
 rcases h.out with ⟨h, -⟩ | h
 ·exact absurd h he
 exact h
structure vG (D D' : aI) : Prop where
 n : D'.n = D.n
 fuse : D'.fuse = -1
 down : D'.down = false
 pend : ∀ i, (D'.blk i).pend = []
 safe : ∀ i, (D'.blk i).safe ∈ (D.blk i).poss
def iE (l : Nat → aL) : Prop := ∀ i, ∀ b ∈ (l i).poss, b.length = 512
def tY : cE → Prop
 | .write _ b => b.length = 512
 | .flush => True
theorem iE.view {l : Nat → aL} (h : iE l) (i : Nat) : (l i).view.length = 512 := h i _ (l i).view_mem
theorem iE.exec1 {l : Nat → aL} (h : iE l) {o : cE} (ho : tY o) : iE (exec1 l o) := by
 intro i b hb
 cases o with
 | write n x =>
  simp only [Proofs.YtgpefiacbipfpaaGreatDoor.exec1] at hb
  split at hb
  ·simp only [aL.push, aL.poss, aJ, bK, cA, cG] at hb
   rcases hb with rfl | hb | rfl
   ·exact h i _ (by simp [aL.poss])
   ·exact h i _ (by simp [aL.poss, hb])
   exact ho
  exact h i b hb
 | flush =>
  simp only [Proofs.YtgpefiacbipfpaaGreatDoor.exec1, aL.flush, aL.poss, aJ, cA, cG] at hb
  subst hb
  exact h.view i
theorem iE.exec {t : List cE} : ∀ {l : Nat → aL}, iE l → (∀ o ∈ t, tY o) → iE (exec t l) := by
 induction t with
 | nil => intro l h _; exact h
 | cons o t ih => intro l h ho; rw [vF]; exact ih (h.exec1 (ho o (by simp))) (fun x hx => ho x (by simp [hx]))
theorem vG.sized {D D' : aI} (h : vG D D') (hs : iE D.blk) : iE D'.blk := by
 intro i b hb
 rw [aL.poss, h.pend i, aM] at hb
 subst hb
 exact hs i _ (h.safe i)
def cH : Bs := List.replicate 512 0
def wT (b : Bs) : Bs := b ++ List.replicate (512 - b.length) 0
theorem rR : cH.length = 512 := pN ..
theorem En {b : Bs} (h : b.length ≤ 512) : (wT b).length = 512 := by simp [wT]; omega
def jW : Bs := [99, 97, 114, 116, 117, 108, 97, 114, 121]
def dS (k : Nat) : Bs := jW ++ aN k
def eN (c : Nat) (d : Bs) : Bs := wT (cC 115 (aN c ++ d))
def gH (b : Bs) : Option (Nat × Bs) :=
 let f := bU b
 if f.2.2.2 ≠ 0 ∨ f.1 ≠ 115 then none
 else
  let u := cX f.2.1
  if u.2.2 ≠ 0 then none else some (u.1, f.2.1.drop u.2.1)
theorem Eo {c : Nat} {d : Bs} (hc : c < 2 ^ 64) (hd : d.length ≤ 400) : gH (eN c d) = some (c, d) := by
 have h1 := gX hc
 unfold gH eN wT
 rw [Ei _ _ _ (by rw [bD]; omega)]
 simp only [pR hc]
 rw [aE (by simp), aE (by simp)]
 simp
theorem KE : gH cH = none := by
 unfold gH cH
 simp only [Ej]
 rw [aF (.inl (by decide))]
theorem zA {c : Nat} {d : Bs} (hc : c < 2 ^ 64) (hd : d.length ≤ 400) : (eN c d).length = 512 := by
 have h1 := gX hc
 have h2 : (aN (aN c ++ d).length).length ≤ 10 := gX (by simp; omega)
 refine En ?_
 simp only [cC, jA, fD, bD, eG, lJ] at *
 omega
theorem qJ {k : Nat} (hk : k < 2 ^ 64) : (dS k).length ≤ 19 := by
 have := gX hk
 simp [dS, jW]; omega
abbrev Wr := Nat × Bs
def rS (n : Nat) (w : List Wr) : Bs := dS n ++ aN w.length ++ w.flatMap fun x => aN x.1
def mG (n : Nat) (w : List Wr) : Bs := rS n w ++ fD (jU (fD 0 ++ (w.flatMap fun x => x.2) ++ rS n w))
def gY (n : Nat) (w : List Wr) : Bs := wT (cC 106 (mG n w))
structure gA (w : List Wr) : Prop where
 many : w.length ≤ 16
 at_ : ∀ x ∈ w, x.1 < 512
 len : ∀ x ∈ w, x.2.length = 512
theorem Ep {w : List Wr} (h : ∀ x ∈ w, x.1 < 512) : (w.flatMap fun x => aN x.1).length ≤ 2 * w.length := by
 induction w with
 | nil => simp
 | cons x w ih =>
  have h1 := mE 1 x.1 (yJ (h x (by simp)) (by decide))
  have h2 := ih fun y hy => h y (by simp [hy])
  simp only [jT, bD, eG] at *
  omega
theorem KG {n : Nat} {w : List Wr} (hn : n < 2 ^ 64) (hw : gA w) : (rS n w).length ≤ 52 := by
 have h1 := qJ hn
 have h2 := Ep hw.at_
 have h3 := hw.many
 have h4 : (aN w.length).length ≤ 1 := mE 0 _ (by omega)
 simp only [rS, bD]
 omega
theorem Br {n : Nat} {w : List Wr} (hn : n < 2 ^ 64) (hw : gA w) : (mG n w).length ≤ 56 := by
 have := KG hn hw
 simp [mG, fD]; omega
theorem Er {n : Nat} {w : List Wr} (hn : n < 2 ^ 64) (hw : gA w) : (cC 106 (mG n w)).length ≤ 62 := by
 have h1 := Br hn hw
 have h2 : (aN (mG n w).length).length ≤ 1 := mE 0 _ (by omega)
 simp only [cC, jA, fD, bD, eG, lJ]
 omega
theorem Bt {n : Nat} {w : List Wr} (hn : n < 2 ^ 64) (hw : gA w) : (gY n w).length = 512 := En (by have := Er hn hw; omega)
theorem Es {n : Nat} {w : List Wr} (hn : n < 2 ^ 64) (hw : gA w) : ∃ k, bU (gY n w) = (106, mG n w, k, 0) :=
 ⟨_, Ei _ _ _ (by have := Br hn hw; omega)⟩
def gI (w : List Wr) : Nat → List cE
 | i => (List.range w.length).map fun j => .write (i + j) (w.getD j (0, [])).2
def eL (w : List Wr) : List cE := w.map fun x => .write (20 + x.1) x.2
def fR (k s : Nat) : List cE := [.flush, .write s (eN k (dS k)), .flush]
def jK (k s : Nat) (w : List Wr) : List cE := gI w 3 ++ ([.flush, .write 2 (gY k w), .flush] ++ (eL w ++ fR k s))
def Et (b : Bs) (k : Nat) : Prop := ∀ c d, gH b = some (c, d) → c < k
structure eO (l : Nat → aL) (k s : Nat) : Prop where
 two : s < 2
 new : l (1 - s) = ⟨eN k (dS k), []⟩
 pend : (l s).pend = []
 old : Et (l s).safe k
def wU (b : Bs) (k : Nat) : Prop := b = cH ∨ ∃ m w, m ≤ k ∧ gA w ∧ b = gY m w
theorem wU.mono {b : Bs} {k m : Nat} (h : wU b k) (hk : k ≤ m) : wU b m := by
 rcases h with h | ⟨a, w, h1, h2⟩
 ·exact .inl h
 exact .inr ⟨a, w, by omega, h2⟩
def vH (l : Nat → aL) (f : Nat → Bs) : Prop := ∀ n, n < 16 → l (20 + n) = ⟨f n, []⟩
structure eP (l : Nat → aL) (k s : Nat) (f : Nat → Bs) : Prop where
 slots : eO l k s
 list : (l 2).pend = [] ∧ wU (l 2).safe k
 home : vH l f
structure jX (l : Nat → aL) (k s : Nat) (w : List Wr) (g : Nat → Bs) : Prop where
 slots : eO l k s
 list : l 2 = ⟨gY (k + 1) w, []⟩
 parts : ∀ j (h : j < w.length), l (3 + j) = ⟨w[j].2, []⟩
 wok : gA w
 low : ∀ x ∈ w, x.1 < 16
 is : ∀ x ∈ w, x.2 = g x.1
 home : ∀ n, n < 16 → n ∉ w.map (·.1) → l (20 + n) = ⟨g n, []⟩
def qK (l : Nat → aL) (k : Nat) (g : Nat → Bs) : Prop := ∃ s, eP l k s g ∨ ∃ w, jX l k s w g
def iM (l l' : Nat → aL) : Prop := ∀ i, (l' i).pend = [] ∧ (l' i).safe ∈ (l i).poss
theorem iM.sure {l l' : Nat → aL} (h : iM l l') {i : Nat} {b : Bs} (e : l i = ⟨b, []⟩) : l' i = ⟨b, []⟩ := by
 obtain ⟨h1, h2⟩ := h i
 rw [e] at h2
 simp [aL.poss] at h2
 cases hc : l' i with
 | mk a p => rw [hc] at h1 h2; simp at h1 h2; rw [h1, h2]
theorem iM.still {l l' : Nat → aL} (h : iM l l') {i : Nat} (e : (l i).pend = []) : l' i = l i := by
 have : l i = ⟨(l i).safe, []⟩ := by cases hc : l i with | mk a p => rw [hc] at e; simp at e; rw [e]
 rw [this]
 exact h.sure this
theorem eO.crash {l l' : Nat → aL} {k s : Nat} (h : eO l k s) (c : iM l l') : eO l' k s :=
 ⟨h.two, c.sure h.new, by rw [c.still h.pend]; exact h.pend, by rw [c.still h.pend]; exact h.old⟩
theorem vH.crash {l l' : Nat → aL} {f : Nat → Bs} (h : vH l f) (c : iM l l') : vH l' f := fun n hn => c.sure (h n hn)
theorem eP.crash {l l' : Nat → aL} {k s : Nat} {f : Nat → Bs} (h : eP l k s f) (c : iM l l') : eP l' k s f :=
 ⟨h.slots.crash c, by rw [c.still h.list.1]; exact h.list, h.home.crash c⟩
theorem jX.crash {l l' : Nat → aL} {k s : Nat} {w : List Wr} {g : Nat → Bs} (h : jX l k s w g) (c : iM l l') : jX l' k s w g :=
 ⟨h.slots.crash c, c.sure h.list, fun j hj => c.sure (h.parts j hj), h.wok, h.low, h.is, fun n hn hw => c.sure (h.home n hn hw)⟩
def iR (P : (Nat → aL) → Prop) (t : List cE) (l : Nat → aL) : Prop := ∀ p q, t = p ++ q → P (exec p l)
theorem Eu {P : (Nat → aL) → Prop} {l : Nat → aL} (h : P l) : iR P [] l := by
 intro p q e
 obtain ⟨rfl, rfl⟩ := AU.1 e.symm
 exact h
theorem rT {P : (Nat → aL) → Prop} {o : cE} {t : List cE} {l : Nat → aL} (h : P l) (g : iR P t (exec1 l o)) : iR P (o :: t) l := by
 intro p q e
 cases p with
 | nil => exact h
 | cons x p =>
  simp only [List.cons_append, List.cons.injEq] at e
  obtain ⟨rfl, e⟩ := e
  exact g p q e
theorem Ev {P : (Nat → aL) → Prop} {a : List cE} : ∀ {b : List cE} {l : Nat → aL}, iR P a l → iR P b (exec a l) → iR P (a ++ b) l := by
 induction a with
 | nil => intro b l _ h; exact h
 | cons o a ih =>
  intro b l h g
  exact rT (h [] _ rfl) (ih (fun p q e => h (o :: p) q (by rw [e]; rfl)) g)
theorem Ew {I : (Nat → aL) → Prop} {t : List cE} : ∀ {l : Nat → aL}, I l → (∀ o ∈ t, ∀ l, I l → I (exec1 l o)) → iR I t l ∧ I (exec t l) := by
 induction t with
 | nil => intro l h _; exact ⟨Eu h, h⟩
 | cons o t ih =>
  intro l h g
  have := ih (g o (by simp) l h) fun x hx => g x (by simp [hx])
  exact ⟨rT h this.1, this.2⟩
theorem iR.mono {P Q : (Nat → aL) → Prop} {t : List cE} {l : Nat → aL} (h : iR P t l) (g : ∀ l, P l → Q l) : iR Q t l := fun p q e => g _ (h p q e)
theorem fH {l : Nat → aL} {n i : Nat} (b : Bs) (h : i ≠ n) : exec1 l (.write n b) i = l i := aE h
theorem mT {l : Nat → aL} {n : Nat} (b : Bs) : exec1 l (.write n b) n = (l n).push b := aF rfl
theorem oS {l : Nat → aL} {i : Nat} {b : Bs} (h : l i = ⟨b, []⟩) : exec1 l .flush i = ⟨b, []⟩ := by show (l i).flush = _; rw [h]; rfl
theorem zB {l : Nat → aL} {i : Nat} (h : (l i).pend = []) : exec1 l .flush i = l i := by
 have : l i = ⟨(l i).safe, []⟩ := by cases hc : l i with | mk a p => rw [hc] at h; simp at h; rw [h]
 rw [this]
 exact oS this
theorem eO.congr {l l' : Nat → aL} {k s : Nat} (h : eO l k s) (e : ∀ i, i < 2 → l' i = l i) : eO l' k s := by
 have hs := h.two
 exact ⟨hs, (e _ (by omega)).trans h.new, by rw [e _ hs]; exact h.pend, by rw [e _ hs]; exact h.old⟩
theorem eO.flush {l : Nat → aL} {k s : Nat} (h : eO l k s) : eO (exec1 l .flush) k s :=
 ⟨h.two, oS h.new, by rw [zB h.pend]; exact h.pend, by rw [zB h.pend]; exact h.old⟩
theorem eO.write {l : Nat → aL} {k s : Nat} (h : eO l k s) {n : Nat} (b : Bs) (hn : 2 ≤ n) : eO (exec1 l (.write n b)) k s :=
 h.congr fun i hi => fH _ (by omega)
theorem eP.write {l : Nat → aL} {k s : Nat} {f : Nat → Bs} (h : eP l k s f) {n : Nat} (b : Bs) (h1 : 3 ≤ n) (h2 : n < 20 ∨ 36 ≤ n) : eP (exec1 l (.write n b)) k s f :=
 ⟨h.slots.write b (by omega), by rw [fH _ (by omega)]; exact h.list, fun i hi => by rw [fH _ (by omega)]; exact h.home i hi⟩
theorem eP.flush {l : Nat → aL} {k s : Nat} {f : Nat → Bs} (h : eP l k s f) : eP (exec1 l .flush) k s f :=
 ⟨h.slots.flush, by rw [zB h.list.1]; exact h.list, fun i hi => oS (h.home i hi)⟩
theorem jX.flush {l : Nat → aL} {k s : Nat} {w : List Wr} {g : Nat → Bs} (h : jX l k s w g) : jX (exec1 l .flush) k s w g :=
 ⟨h.slots.flush, oS h.list, fun j hj => oS (h.parts j hj), h.wok, h.low, h.is, fun n hn hw => oS (h.home n hn hw)⟩
theorem jX.write {l : Nat → aL} {k s : Nat} {w : List Wr} {g : Nat → Bs} (h : jX l k s w g) {x : Wr} (hx : x ∈ w) : jX (exec1 l (.write (20 + x.1) x.2)) k s w g := by
 have hm := h.wok.many
 refine ⟨h.slots.write _ (by omega), by rw [fH _ (by omega)]; exact h.list, fun j hj => by rw [fH _ (by omega)]; exact h.parts j hj, h.wok, h.low, h.is, fun n hn hw => ?_⟩
 have : n ≠ x.1 := fun e => hw (e ▸ cV.2 ⟨x, hx, rfl⟩)
 rw [fH _ (by omega)]
 exact h.home n hn hw
def rU (k : Nat) (g : Nat → Bs) (l : Nat → aL) : Prop := ∀ l', iM l l' → qK l' k g ∨ qK l' (k + 1) g
theorem eP.opens {l : Nat → aL} {k s : Nat} {g : Nat → Bs} (h : eP l k s g) : rU k g l := fun _ c => .inl ⟨s, .inl (h.crash c)⟩
theorem eP.opensLess {l : Nat → aL} {k s : Nat} {g : Nat → Bs} (h : eP l (k + 1) s g) : rU k g l := fun _ c => .inr ⟨s, .inl (h.crash c)⟩
theorem jX.opens {l : Nat → aL} {k s : Nat} {w : List Wr} {g : Nat → Bs} (h : jX l k s w g) : rU k g l := fun _ c => .inl ⟨s, .inr ⟨w, h.crash c⟩⟩
theorem Ex {k m : Nat} (hk : k < 2 ^ 62) (h : k < m) : Et (eN k (dS k)) m := by
 intro c d e
 rw [Eo (by omega) (by have := qJ (k := k) (by omega); omega)] at e
 cases e
 exact h
theorem eO.turn {l : Nat → aL} {k s : Nat} (h : eO l k s) (hk : k < 2 ^ 62) : eO (exec1 (exec1 l (.write s (eN (k + 1) (dS (k + 1))))) .flush) (k + 1) (1 - s) := by
 have hs := h.two
 have e1 : 1 - (1 - s) = s := by omega
 have h1 : exec1 (exec1 l (.write s (eN (k + 1) (dS (k + 1))))) .flush (1 - s) = ⟨eN k (dS k), []⟩ :=
  oS (by rw [fH _ (by omega)]; exact h.new)
 refine ⟨by omega, ?_, by rw [h1], by rw [h1]; exact Ex hk (DG _)⟩
 rw [e1]
 show ((exec1 l _ s)).flush = _
 rw [mT]
 simp [aL.flush, aL.view_push]
theorem Ey {l : Nat → aL} {k s : Nat} {g : Nat → Bs} (hk : k < 2 ^ 62) (hs : eO l k s) (hl : (l 2).pend = [] ∧ wU (l 2).safe (k + 1)) (hh : vH l g)
  (hO : ∀ l', eO l' k s → (∀ i, 2 ≤ i → (l i).pend = [] → l' i = l i) → qK l' k g) :
  iR (rU k g) [.write s (eN (k + 1) (dS (k + 1))), .flush] l ∧ eP (exec [.write s (eN (k + 1) (dS (k + 1))), .flush] l) (k + 1) (1 - s) g := by
 have h2 := hs.two
 have hq : eP (exec1 (exec1 l (.write s (eN (k + 1) (dS (k + 1))))) .flush) (k + 1) (1 - s) g := by
  refine ⟨hs.turn hk, ?_, fun n hn => oS (by rw [fH _ (by omega)]; exact hh n hn)⟩
  rw [zB (by rw [fH _ (by omega)]; exact hl.1), fH _ (by omega)]
  exact hl
 refine ⟨rT ?_ (rT ?_ (Eu hq.opensLess)), hq⟩
 ·intro l' c
  exact .inl (hO l' (hs.crash c) fun i hi hp => c.still hp)
 intro l' c
 have hi : ∀ i, i ≠ s → (l i).pend = [] → l' i = l i := fun i hi hp => by
  have := c.still (i := i) (by rw [fH _ hi]; exact hp)
  rw [this, fH _ hi]
 obtain ⟨c1, c2⟩ := c s
 rw [mT] at c2
 simp only [aL.poss, aL.push, hs.pend, List.nil_append, aJ, cA, cG] at c2
 have hn : l' (1 - s) = ⟨eN k (dS k), []⟩ := by rw [hi _ (by omega) (by rw [hs.new])]; exact hs.new
 rcases c2 with c2 | c2
 ·exact .inl (hO l' ⟨h2, hn, c1, by rw [c2]; exact hs.old⟩ fun i hi2 hp => hi i (by omega) hp)
 refine .inr ⟨1 - s, .inl ⟨⟨by omega, ?_, by rw [hn], by rw [hn]; exact Ex hk (DG _)⟩, ?_, fun n hn => by rw [hi _ (by omega) (by rw [hh n hn])]; exact hh n hn⟩⟩
 ·rw [show 1 - (1 - s) = s by omega]
  cases hc : l' s with
  | mk a p => rw [hc] at c1 c2; simp at c1 c2; rw [c1, c2]
 rw [hi 2 (by omega) hl.1]; exact hl
theorem eP.tail {l : Nat → aL} {k s : Nat} {g : Nat → Bs} (h : eP l k s g) (hk : k < 2 ^ 62) :
  iR (rU k g) (fR (k + 1) s) l ∧ eP (exec (fR (k + 1) s) l) (k + 1) (1 - s) g := by
 have hf := h.flush
 obtain ⟨h1, h2⟩ := Ey hk hf.slots ⟨hf.list.1, hf.list.2.mono (tQ _)⟩ hf.home fun l' hs hi => ⟨s, .inl ⟨hs, by rw [hi 2 (by omega) hf.list.1]; exact hf.list, fun n hn => by rw [hi _ (by omega) (by rw [hf.home n hn])]; exact hf.home n hn⟩⟩
 exact ⟨rT h.opens h1, h2⟩
theorem KH {g : Nat → Bs} (w : List Wr) : ∀ (l : Nat → aL) (n : Nat), (∀ x ∈ w, x.2 = g x.1) → (n ∈ w.map (·.1) ∨ (l (20 + n)).view = g n) → (exec (eL w) l (20 + n)).view = g n := by
 induction w with
 | nil => intro l n _ h; rcases h with h | h; · simp at h
          exact h
 | cons x w ih =>
  intro l n hg h
  show (exec (eL w) (exec1 l _) (20 + n)).view = _
  refine ih _ n (fun y hy => hg y (by simp [hy])) ?_
  by_cases hx : n = x.1
  ·subst hx
   right
   rw [mT, aL.view_push]
   exact hg x (by simp)
  rw [fH _ (by omega)]
  rcases h with h | h
  ·left
   simpa [hx] using h
  exact .inr h
theorem jX.tail {l : Nat → aL} {k s : Nat} {w : List Wr} {g : Nat → Bs} (h : jX l k s w g) (hk : k < 2 ^ 62) :
  iR (rU k g) (eL w ++ fR (k + 1) s) l ∧ eP (exec (eL w ++ fR (k + 1) s) l) (k + 1) (1 - s) g := by
 obtain ⟨h1, h2⟩ := Ew (I := fun l => jX l k s w g) (t := eL w) h fun o ho l hl => by
  obtain ⟨x, hx, rfl⟩ := cV.1 ho
  exact hl.write hx
 have hf := h2.flush
 have hh : vH (exec1 (exec (eL w) l) .flush) g := by
  intro n hn
  show (exec (eL w) l (20 + n)).flush = _
  rw [aL.flush, KH w l n h.is]
  by_cases hw : n ∈ w.map (·.1)
  ·exact .inl hw
  exact .inr (by rw [h.home n hn hw]; rfl)
 obtain ⟨h3, h4⟩ := Ey hk hf.slots ⟨by rw [hf.list], by rw [hf.list]; exact .inr ⟨k + 1, w, aQ _, hf.wok, rfl⟩⟩ hh fun l' hs hi => by
  have hm := hf.wok.many
  exact ⟨s, .inr ⟨w, hs, by rw [hi 2 (by omega) (by rw [hf.list])]; exact hf.list, fun j hj => by rw [hi _ (by omega) (by rw [hf.parts j hj])]; exact hf.parts j hj, hf.wok, hf.low, hf.is, fun n hn hw => by rw [hi _ (by omega) (by rw [hf.home n hn hw])]; exact hf.home n hn hw⟩⟩
 refine ⟨Ev (h1.mono fun _ q => q.opens) (rT h2.opens h3), ?_⟩
 rw [lN]
 exact h4
structure Ez (w : List Wr) (f g : Nat → Bs) : Prop where
 wok : gA w
 low : ∀ x ∈ w, x.1 < 16
 is : ∀ x ∈ w, x.2 = g x.1
 rest : ∀ n, n < 16 → n ∉ w.map (·.1) → f n = g n
theorem Bu {w : List Wr} {o : cE} (h : o ∈ gI w 3) (hw : gA w) : ∃ n b, o = .write n b ∧ 3 ≤ n ∧ n < 20 ∧ b.length = 512 := by
 obtain ⟨j, hj, rfl⟩ := cV.1 h
 have hj := yL.1 hj
 have := hw.many
 refine ⟨_, _, rfl, by omega, by omega, hw.len _ ?_⟩
 rw [dI, bL hj]
 exact fX _
theorem KI (f : Nat → cE) (b : Nat → Bs) (a : Nat) (hf : ∀ j, f j = .write (a + j) (b j)) : ∀ (m : Nat) (l : Nat → aL) (j : Nat), j < m → (exec ((List.range m).map f) l (a + j)).view = b j := by
 intro m
 induction m with
 | zero => intro l j h; omega
 | succ m ih =>
  intro l j h
  rw [DI, eZ, lN]
  show (exec1 _ (f m) (a + j)).view = _
  rw [hf]
  by_cases e : j = m
  ·subst e; rw [mT, aL.view_push]
  rw [fH _ (by omega)]; exact ih l j (by omega)
def rV (i : Nat) : cE → Prop
 | .write n _ => n ≠ i
 | .flush => True
theorem Bv {i : Nat} {b : Bs} (t : List cE) : ∀ {l : Nat → aL}, l i = ⟨b, []⟩ → (∀ o ∈ t, rV i o) → exec t l i = ⟨b, []⟩ := by
 induction t with
 | nil => intro l h _; exact h
 | cons o t ih =>
  intro l h ho
  refine ih (l := exec1 l o) ?_ fun x hx => ho x (by simp [hx])
  cases o with
  | write n x => rw [fH x (Ne.symm (ho (.write n x) (by simp)))]; exact h
  | flush => exact oS h
theorem EA {i : Nat} (t : List cE) : ∀ {l : Nat → aL}, (∀ o ∈ t, rV i o) → (exec t l i).view = (l i).view ∧ ∀ b ∈ (exec t l i).poss, b ∈ (l i).poss := by
 induction t with
 | nil => intro l _; exact ⟨rfl, fun _ h => h⟩
 | cons o t ih =>
  intro l ho
  obtain ⟨h1, h2⟩ := ih (l := exec1 l o) fun x hx => ho x (by simp [hx])
  cases o with
  | write n x =>
   have e := fH (l := l) x (Ne.symm (ho (.write n x) (by simp)))
   rw [e] at h1 h2
   exact ⟨h1, h2⟩
  | flush =>
   refine ⟨h1, fun b hb => ?_⟩
   have := h2 b hb
   have e : exec1 l .flush i = (l i).flush := rfl
   rw [e] at this
   simp only [aL.flush, aL.poss, aJ, cA, cG] at this
   subst this
   exact (l i).view_mem
theorem KJ {i : Nat} {b : Bs} {t : List cE} {l : Nat → aL} (h : l i = ⟨b, []⟩) (ho : ∀ o ∈ t, rV i o) : iR (fun l => l i = ⟨b, []⟩) t l := fun p q e => Bv p h fun o hp => ho o (by rw [e]; simp [hp])
theorem EB {w : List Wr} {i : Nat} (hw : gA w) (hi : 36 ≤ i) : ∀ o ∈ gI w 3, rV i o := by
 intro o ho
 obtain ⟨n, b, rfl, h1, h2, -⟩ := Bu ho hw
 exact fun e => by omega
theorem Bw {w : List Wr} {i : Nat} (hw : ∀ x ∈ w, x.1 < 16) (hi : 36 ≤ i) : ∀ o ∈ eL w, rV i o := by
 intro o ho
 obtain ⟨x, hx, rfl⟩ := cV.1 ho
 exact fun e => by have := hw x hx; omega
theorem By {k s i : Nat} (hs : s < 2) (hi : 36 ≤ i) : ∀ o ∈ fR k s, rV i o := by
 intro o ho
 simp only [fR, aJ, cA, cG] at ho
 rcases ho with rfl | rfl | rfl
 ·trivial
 ·exact fun e => by omega
 trivial
theorem KK {k s : Nat} {w : List Wr} {i : Nat} (hw : gA w) (hl : ∀ x ∈ w, x.1 < 16) (hs : s < 2) (hi : 36 ≤ i) : ∀ o ∈ jK k s w, rV i o := by
 intro o ho
 simp only [jK, bK, aJ, cA, cG] at ho
 rcases ho with ho | (rfl | rfl | rfl) | ho | ho
 ·exact EB hw hi o ho
 ·trivial
 ·exact fun e => by omega
 ·trivial
 ·exact Bw hl hi o ho
 exact By hs hi o ho
def Bz (k : Nat) (f g : Nat → Bs) (l0 l : Nat → aL) : Prop := ∀ l', iM l l' → qK l' k f ∨ ((qK l' k g ∨ qK l' (k + 1) g) ∧ ∀ i, 36 ≤ i → l' i = ⟨(l0 i).view, []⟩)
theorem eP.commit {l : Nat → aL} {k s : Nat} {w : List Wr} {f g : Nat → Bs} (h : eP l k s f) (ho : Ez w f g) (hk : k < 2 ^ 62) :
  iR (Bz k f g l) (jK (k + 1) s w) l ∧ eP (exec (jK (k + 1) s w) l) (k + 1) (1 - s) g ∧ ∀ i, 36 ≤ i → exec (jK (k + 1) s w) l i = ⟨(l i).view, []⟩ := by
 have hm := ho.wok.many
 have hs2 := h.slots.two
 obtain ⟨h1, h2⟩ := Ew (I := fun l => eP l k s f) (t := gI w 3) h fun o hop l hl => by
  obtain ⟨n, b, rfl, h1, h2, -⟩ := Bu hop ho.wok
  exact hl.write b h1 (.inl h2)
 have hf := h2.flush
 have hst : ∀ i, 36 ≤ i → exec1 (exec (gI w 3) l) .flush i = ⟨(l i).view, []⟩ := by
  intro i hi
  show (exec (gI w 3) l i).flush = _
  rw [aL.flush, (EA _ (EB ho.wok hi)).1]
 have hO : ∀ {l1}, eP l1 k s f → Bz k f g l l1 := fun q l' c => .inl ⟨s, .inl (q.crash c)⟩
 have hparts : ∀ j (hj : j < w.length), exec1 (exec (gI w 3) l) .flush (3 + j) = ⟨w[j].2, []⟩ := by
  intro j hj
  show (exec (gI w 3) l (3 + j)).flush = _
  rw [aL.flush]
  unfold gI
  rw [KI (fun j => .write (3 + j) (w.getD j (0, [])).2) (fun j => (w.getD j (0, [])).2) 3 (fun _ => rfl) w.length l j hj, dI, bL hj]
  rfl
 have hlist : exec1 (exec1 (exec1 (exec (gI w 3) l) .flush) (.write 2 (gY (k + 1) w))) .flush 2 = ⟨gY (k + 1) w, []⟩ := by
  show (exec1 _ _ 2).flush = _
  rw [mT]
  simp [aL.flush, aL.view_push]
 have hR : jX (exec1 (exec1 (exec1 (exec (gI w 3) l) .flush) (.write 2 (gY (k + 1) w))) .flush) k s w g :=
  ⟨(hf.slots.write _ (by omega)).flush, hlist, fun j hj => oS (by rw [fH _ (by omega)]; exact hparts j hj), ho.wok, ho.low, ho.is,
   fun n hn hw => oS (by rw [fH _ (by omega), hf.home n hn, ho.rest n hn hw])⟩
 have hst2 : ∀ i, 36 ≤ i → exec1 (exec1 (exec1 (exec (gI w 3) l) .flush) (.write 2 (gY (k + 1) w))) .flush i = ⟨(l i).view, []⟩ :=
  fun i hi => oS (by rw [fH _ (by omega)]; exact hst i hi)
 have hnt : ∀ i, 36 ≤ i → ∀ o ∈ eL w ++ fR (k + 1) s, rV i o := fun i hi o ho' => by
  rcases bK.1 ho' with h | h
  ·exact Bw ho.low hi o h
  exact By hs2 hi o h
 obtain ⟨h3, h4⟩ := hR.tail hk
 have h5 : iR (Bz k f g l) (eL w ++ fR (k + 1) s) (exec1 (exec1 (exec1 (exec (gI w 3) l) .flush) (.write 2 (gY (k + 1) w))) .flush) := fun p q e l' c =>
  .inr ⟨h3 p q e l' c, fun i hi => c.sure (KJ (hst2 i hi) (hnt i hi) p q e)⟩
 refine ⟨Ev (h1.mono fun _ => hO) (rT (hO h2) (rT (hO hf) (rT ?_ h5))), ?_, ?_⟩
 ·intro l' c
  have hi : ∀ i, i ≠ 2 → (exec1 (exec (gI w 3) l) .flush i).pend = [] → l' i = exec1 (exec (gI w 3) l) .flush i := fun i hi hp => by
   have := c.still (i := i) (by rw [fH _ hi]; exact hp)
   rw [this, fH _ hi]
  have hsl : eO l' k s := by
   have hp := hf.slots.pend
   exact ⟨hs2, by rw [hi _ (by omega) (by rw [hf.slots.new])]; exact hf.slots.new, by rw [hi _ (by omega) hp]; exact hp, by rw [hi _ (by omega) hp]; exact hf.slots.old⟩
  obtain ⟨c1, c2⟩ := c 2
  rw [mT] at c2
  simp only [aL.poss, aL.push, hf.list.1, List.nil_append, aJ, cA, cG] at c2
  rcases c2 with c2 | c2
  ·exact .inl ⟨s, .inl ⟨hsl, ⟨c1, by rw [c2]; exact hf.list.2⟩, fun n hn => by rw [hi _ (by omega) (by rw [hf.home n hn])]; exact hf.home n hn⟩⟩
  refine .inr ⟨.inl ⟨s, .inr ⟨w, hsl, ?_, fun j hj => by rw [hi _ (by omega) (by rw [hparts j hj])]; exact hparts j hj, ho.wok, ho.low, ho.is, fun n hn hw => by rw [hi _ (by omega) (by rw [hf.home n hn]), hf.home n hn, ho.rest n hn hw]⟩⟩, fun i hi36 => by rw [hi i (by omega) (by rw [hst i hi36])]; exact hst i hi36⟩
  cases hc : l' 2 with
  | mk a p => rw [hc] at c1 c2; simp at c1 c2; rw [c1, c2]
 ·unfold jK
  rw [lN, lN]
  exact h4
 intro i hi
 unfold jK
 rw [lN, lN]
 exact Bv _ (hst2 i hi) (hnt i hi)
def gZ (k s : Nat) (w : List Wr) : List cE := eL w ++ fR (k + 1) s
theorem BA {l : Nat → aL} {k s : Nat} {g : Nat → Bs} (h : eP l k s g) (hk : k < 2 ^ 62) : iR (rU k g) (gZ k s []) l ∧ eP (exec (gZ k s []) l) (k + 1) (1 - s) g := h.tail hk
theorem KL {l : Nat → aL} {k s : Nat} {w : List Wr} {g : Nat → Bs} (h : jX l k s w g) (hk : k < 2 ^ 62) : iR (rU k g) (gZ k s w) l ∧ eP (exec (gZ k s w) l) (k + 1) (1 - s) g := h.tail hk
theorem KM {k s : Nat} {w : List Wr} {i : Nat} (hl : ∀ x ∈ w, x.1 < 16) (hs : s < 2) (hi : 36 ≤ i) : ∀ o ∈ gZ k s w, rV i o := by
 intro o ho
 rcases bK.1 ho with h | h
 ·exact Bw hl hi o h
 exact By hs hi o h
theorem EC {k s : Nat} {w : List Wr} (hk : k < 2 ^ 62) (hw : gA w) : ∀ o ∈ jK k s w, tY o := by
 intro o ho
 have h1 := zA (c := k) (d := dS k) (by omega) (by have := qJ (k := k) (by omega); omega)
 simp only [jK, fR, bK, aJ, cA, cG] at ho
 rcases ho with ho | (rfl | rfl | rfl) | ho | (rfl | rfl | rfl)
 ·obtain ⟨n, b, rfl, -, -, h⟩ := Bu ho hw
  exact h
 ·trivial
 ·exact Bt (by omega) hw
 ·trivial
 ·obtain ⟨x, hx, rfl⟩ := cV.1 ho
  exact hw.len x hx
 ·trivial
 ·exact h1
 trivial
theorem ED {k s : Nat} {w : List Wr} (hk : k < 2 ^ 62) (hw : gA w) : ∀ o ∈ gZ k s w, tY o := by
 intro o ho
 have h1 := zA (c := k + 1) (d := dS (k + 1)) (by omega) (by have := qJ (k := k + 1) (by omega); omega)
 simp only [gZ, fR, bK, aJ, cA, cG] at ho
 rcases ho with ho | (rfl | rfl | rfl)
 ·obtain ⟨x, hx, rfl⟩ := cV.1 ho
  exact hw.len x hx
 ·trivial
 ·exact h1
 trivial
abbrev aR := Nat × Nat
def bY (l : List aR) : List Nat := l.flatMap fun r => List.range' r.1 r.2
theorem mU (a b : List aR) : bY (a ++ b) = bY a ++ bY b := by simp [bY]
theorem mV (r : aR) : bY [r] = List.range' r.1 r.2 := by simp [bY]
theorem rW (r : aR) (l : List aR) : bY (r :: l) = List.range' r.1 r.2 ++ bY l := rfl
def aY (l : List aR) : Nat := (l.map (·.2)).sum
theorem mH (l : List aR) : (bY l).length = aY l := by
 induction l with
 | nil => rfl
 | cons r l ih => rw [rW, bD, ih, yM]; simp [aY]
def gR (l : List aR) (r : aR) : List aR :=
 match l.getLast? with
 | some x => if x.1 + x.2 = r.1 then l.dropLast ++ [(x.1, x.2 + r.2)] else l ++ [r]
 | none => [r]
theorem zC (r : aR) : gR [] r = [r] := rfl
theorem tZ (l : List aR) (x r : aR) : gR (l ++ [x]) r = if x.1 + x.2 = r.1 then l ++ [(x.1, x.2 + r.2)] else l ++ [x] ++ [r] := by
 simp [gR]
theorem KO (l : List aR) (r : aR) : bY (gR l r) = bY l ++ List.range' r.1 r.2 := by
 rcases pO l with rfl | ⟨l, x, rfl⟩
 ·simp [zC, bY]
 rw [oM, tZ]
 split
 ·rename_i h
  rw [mU, mU, mV, mV, eJ]
  congr 1
  simp only
  rw [← List.range'_append_1 (s := x.1) (m := x.2) (n := r.2), h]
 rw [mU, mV]
theorem KP (rs : List aR) : ∀ l : List aR, bY (rs.foldl gR l) = bY l ++ bY rs := by
 induction rs with
 | nil => intro l; simp [bY]
 | cons r rs ih => intro l; rw [uY, ih, KO, eJ, rW]
def jL : List aR → Prop
 | [] => True
 | [r] => 1 ≤ r.2
 | r :: q :: l => 1 ≤ r.2 ∧ r.1 + r.2 ≠ q.1 ∧ jL (q :: l)
theorem vI : ∀ (l : List aR) (x : aR), jL (l ++ [x]) ↔ jL l ∧ 1 ≤ x.2 ∧ ∀ y, l.getLast? = some y → y.1 + y.2 ≠ x.1
 | [], x => by simp [jL]
 | [r], x => by
  simp only [List.cons_append, List.nil_append, jL, List.getLast?_singleton, fY, forall_eq']
  exact and_congr_right fun _ => and_comm
 | r :: q :: l, x => by
  have ih := vI (q :: l) x
  have e : (r :: q :: l).getLast? = (q :: l).getLast? := List.getLast?_cons_cons
  simp only [List.cons_append] at ih ⊢
  rw [e]
  simp only [jL]
  rw [ih]
  constructor
  ·rintro ⟨a, b, c, d⟩; exact ⟨⟨a, b, c⟩, d⟩
  rintro ⟨⟨a, b, c⟩, d⟩; exact ⟨a, b, c, d⟩
theorem KQ {l : List aR} {r : aR} (h : jL l) (hr : 1 ≤ r.2) : jL (gR l r) := by
 rcases pO l with rfl | ⟨l, x, rfl⟩
 ·exact hr
 rw [oM] at *
 rw [tZ]
 split
 ·rw [vI] at h ⊢
  exact ⟨h.1, by have := h.2.1; show 1 ≤ x.2 + r.2; omega, h.2.2⟩
 rename_i hne
 rw [vI]
 exact ⟨h, hr, fun y hy => by simp at hy; subst hy; exact hne⟩
theorem zD (rs : List aR) : ∀ l : List aR, jL l → (∀ r ∈ rs, 1 ≤ r.2) → jL (rs.foldl gR l) := by
 induction rs with
 | nil => intro l h _; exact h
 | cons r rs ih => intro l h hr; exact ih _ (KQ h (hr r (by simp))) fun x hx => hr x (by simp [hx])
theorem oT : ∀ {l : List aR}, jL l → ∀ r ∈ l, 1 ≤ r.2
 | [], _, r, hr => by simp at hr
 | [x], h, r, hr => by simp at hr; subst hr; exact h
 | x :: y :: l, h, r, hr => by
  rcases aJ.1 hr with rfl | hr
  ·exact h.1
  exact oT h.2.2 r hr
theorem EE : ∀ (rs m : List aR), jL (m ++ rs) → jL m := by
 intro rs
 generalize hn : rs.length = n
 induction n generalizing rs with
 | zero => intro m h; obtain rfl := nT hn; simpa using h
 | succ n ih =>
  intro m h
  rcases pO rs with rfl | ⟨rs, x, rfl⟩
  ·simp at hn
  rw [oM, ← eJ, vI] at h
  exact ih rs (by simp at hn; exact hn) m h.1
theorem KT : ∀ (rs l : List aR), jL (l ++ rs) → rs.foldl gR l = l ++ rs := by
 intro rs
 induction rs with
 | nil => intro l _; simp
 | cons r rs ih =>
  intro l h
  have e : l ++ r :: rs = (l ++ [r]) ++ rs := by simp
  have hc : jL (l ++ [r]) := by
   rw [e] at h
   exact EE rs _ h
  have hp : gR l r = l ++ [r] := by
   rcases pO l with rfl | ⟨l, x, rfl⟩
   ·rfl
   rw [oM] at *
   rw [vI] at hc
   rw [tZ, aE (hc.2.2 x (by simp))]
  rw [uY, hp, ih (l ++ [r]) (by rw [← e]; exact h), ← e]
def fI (f : Nat → Bool) (n : Nat) (i : Nat) : Nat := if i < n then if f i then fI f n (i + 1) + 1 else 0 else 0
 termination_by n - i
def dZ (f : Nat → Bool) (n : Nat) (i : Nat) : List aR :=
 if i < n then if fI f n i = 0 then dZ f n (i + 1) else (i, fI f n i) :: dZ f n (i + fI f n i + 1) else []
 termination_by n - i
 decreasing_by all_goals omega
theorem zE (f : Nat → Bool) (n i : Nat) : i + fI f n i ≤ n ∨ n ≤ i := by
 induction h : n - i generalizing i with
 | zero => right; omega
 | succ m ih =>
  left
  rw [fI]
  split
  ·split
   ·rcases ih (i + 1) (by omega) with q | q
    ·omega
    have : fI f n (i + 1) = 0 := by rw [fI, aE (by omega)]
    omega
   omega
  omega
def lO (f : Nat → Bool) (n i : Nat) : List Nat := (List.range' i (n - i)).filter f
theorem BB (f : Nat → Bool) (n i : Nat) (h : i < n) : lO f n i = if f i then i :: lO f n (i + 1) else lO f n (i + 1) := by
 unfold lO
 rw [show n - i = (n - (i + 1)) + 1 by omega, List.range'_succ, AV]
theorem KU (f : Nat → Bool) (n i : Nat) (h : i < n) : lO f n i = List.range' i (fI f n i) ++ lO f n (i + fI f n i) := by
 induction hm : n - i generalizing i with
 | zero => omega
 | succ m ih =>
  rw [fI, aF h]
  split
  ·rename_i hf
   rw [BB f n i h, aF hf]
   by_cases h1 : i + 1 < n
   ·rw [ih (i + 1) h1 (by omega), Nat.add_comm (fI f n (i + 1)) 1, Nat.add_comm 1 (fI f n (i + 1)), List.range'_succ, List.cons_append]
    congr 3
    omega
   have e : fI f n (i + 1) = 0 := by rw [fI, aE (by omega)]
   rw [e]
   simp [List.range'_succ]
  simp
theorem BC (f : Nat → Bool) (n i : Nat) (h : i + fI f n i < n) : f (i + fI f n i) = false := by
 induction hm : n - i generalizing i with
 | zero => rcases zE f n i with q | q <;> omega
 | succ m ih =>
  rw [fI, aF (by omega)] at h ⊢
  split
  ·rename_i hf
   rw [aF hf] at h
   have := ih (i + 1) (by omega) (by omega)
   rw [show i + (fI f n (i + 1) + 1) = i + 1 + fI f n (i + 1) by omega]
   exact this
  rename_i hf
  simpa using hf
theorem vJ (f : Nat → Bool) (n i : Nat) : bY (dZ f n i) = lO f n i := by
 induction hm : n - i using Nat.strongRecOn generalizing i with
 | _ m ih =>
  subst hm
  rw [dZ]
  split
  ·rename_i h
   have hl := zE f n i
   split
   ·rename_i h0
    rw [ih _ (by omega) (i + 1) rfl]
    have := BB f n i h
    have hf : f i = false := by have := BC f n i (by omega); rwa [h0] at this
    rw [this, hf]; rfl
   rw [rW, ih _ (by omega) _ rfl, KU f n i h]
   congr 1
   by_cases h1 : i + fI f n i < n
   ·rw [BB f n _ h1, BC f n i h1]; rfl
   unfold lO
   rw [show n - (i + fI f n i) = 0 by omega, show n - (i + fI f n i + 1) = 0 by omega]; rfl
  unfold lO
  rw [show n - i = 0 by omega]; rfl
theorem wV (f : Nat → Bool) (n i : Nat) : ∀ r ∈ dZ f n i, 1 ≤ r.2 ∧ r.1 + r.2 ≤ n := by
 induction hm : n - i using Nat.strongRecOn generalizing i with
 | _ m ih =>
  subst hm
  intro r hr
  rw [dZ] at hr
  split at hr
  ·rename_i h
   have hl := zE f n i
   split at hr
   ·exact ih _ (by omega) (i + 1) rfl r hr
   rcases aJ.1 hr with rfl | hr
   ·exact ⟨by show 1 ≤ fI f n i; omega, by show i + fI f n i ≤ n; omega⟩
   exact ih _ (by omega) _ rfl r hr
  simp at hr
def cL : List aR → Nat → List aR
 | [], _ => []
 | r :: l, n => if n = 0 then [] else (r.1, min r.2 n) :: cL l (n - min r.2 n)
theorem vK : ∀ (l : List aR) (n : Nat), bY (cL l n) = (bY l).take n
 | [], n => by simp [cL, bY]
 | r :: l, n => by
  rw [cL]
  split
  ·rename_i h; subst h; simp [bY]
  rw [rW, rW, vK l, List.take_append, yM]
  congr 1
  ·apply wK
   intro i
   simp only [wL]
   grind
  congr 1
  omega
theorem BD : ∀ (l : List aR) (n : Nat), (∀ r ∈ l, 1 ≤ r.2) → ∀ r ∈ cL l n, 1 ≤ r.2
 | [], n, _, r, hr => by simp [cL] at hr
 | x :: l, n, h, r, hr => by
  rw [cL] at hr
  split at hr
  ·simp at hr
  rcases aJ.1 hr with rfl | hr
  ·have := h x (by simp); show 1 ≤ min x.2 n; omega
  exact BD l _ (fun y hy => h y (by simp [hy])) r hr
theorem EF : ∀ (l : List aR) (n m : Nat), (∀ r ∈ l, r.1 + r.2 ≤ m) → ∀ r ∈ cL l n, r.1 + r.2 ≤ m
 | [], n, _, _, r, hr => by simp [cL] at hr
 | x :: l, n, m, h, r, hr => by
  rw [cL] at hr
  split at hr
  ·simp at hr
  rcases aJ.1 hr with rfl | hr
  ·have := h x (by simp); show x.1 + min x.2 n ≤ m; omega
  exact EF l _ m (fun y hy => h y (by simp [hy])) r hr
theorem KV (l : List aR) (n : Nat) (h : n ≤ aY l) : aY (cL l n) = n := by
 rw [← mH, vK, bX, mH]; omega
theorem zF {l : List aR} {b : Nat} : b ∈ bY l ↔ ∃ r ∈ l, r.1 ≤ b ∧ b < r.1 + r.2 := by
 simp only [bY, lK, AW]
theorem EG {f : Nat → Bool} {n b : Nat} : b ∈ lO f n 0 ↔ b < n ∧ f b = true := by
 simp only [lO, wM, AW]
 constructor
 ·rintro ⟨⟨-, h⟩, g⟩; exact ⟨by omega, g⟩
 rintro ⟨h, g⟩; exact ⟨⟨by omega, by omega⟩, g⟩
theorem KW (f : Nat → Bool) (n : Nat) : (lO f n 0).Nodup := (List.nodup_range' ..).filter _
structure kY {κ : Type} (lt : κ → κ → Bool) : Prop where
 irrefl : ∀ a, lt a a = false
 trans : ∀ a b c, lt a b = true → lt b c = true → lt a c = true
 total : ∀ a b, a = b ∨ lt a b = true ∨ lt b a = true
section
variable {κ α β : Type} [DecidableEq κ] {lt : κ → κ → Bool}
def cQ (lt : κ → κ → Bool) : List (κ × α) → κ → α → List (κ × α)
 | [], k, x => [(k, x)]
 | p :: l, k, x => if lt p.1 k then p :: cQ lt l k x else if p.1 = k then (k, x) :: l else (k, x) :: p :: l
def dJ (l : List (κ × α)) (k : κ) : List (κ × α) := l.filter fun p => !decide (p.1 = k)
def bF (l : List (κ × α)) (k : κ) : Option α := (l.find? fun p => decide (p.1 = k)).map (·.2)
def cP (lt : κ → κ → Bool) (l : List (κ × α)) : Prop := l.Pairwise fun p q => lt p.1 q.1 = true
theorem zG (k : κ) : bF ([] : List (κ × α)) k = none := rfl
theorem gD (p : κ × α) (l : List (κ × α)) (k : κ) : bF (p :: l) k = if p.1 = k then some p.2 else bF l k := by
 unfold bF
 by_cases h : p.1 = k <;> simp [h]
end
section
variable {κ α β : Type} {lt : κ → κ → Bool}
theorem cP.tail {p : κ × α} {l : List (κ × α)} (h : cP lt (p :: l)) : cP lt l := (AX.1 h).2
end
section
variable {κ α β : Type} [DecidableEq κ] {lt : κ → κ → Bool}
end
section
variable {κ α β : Type} {lt : κ → κ → Bool}
theorem cP.head {p : κ × α} {l : List (κ × α)} (h : cP lt (p :: l)) : ∀ q ∈ l, lt p.1 q.1 = true := (AX.1 h).1
end
section
variable {κ α β : Type} [DecidableEq κ] {lt : κ → κ → Bool}
theorem eU {l : List (κ × α)} {k : κ} {x : α} (h : bF l k = some x) : (k, x) ∈ l := by
 induction l with
 | nil => cases h
 | cons p l ih =>
  rw [gD] at h
  split at h
  ·rename_i e
   obtain ⟨a, b⟩ := p
   cases h; subst e; simp
  exact iZ _ (ih h)
theorem uA {l : List (κ × α)} {k : κ} : bF l k = none ↔ ∀ p ∈ l, p.1 ≠ k := by
 induction l with
 | nil => simp [bF]
 | cons p l ih => rw [gD]; split <;> simp_all
variable (O : kY lt)
include O
end
section
variable {κ α β : Type} {lt : κ → κ → Bool}
variable (O : kY lt)
include O
theorem kY.ne {a b : κ} (h : lt a b = true) : a ≠ b := by
 rintro rfl
 rw [O.irrefl] at h; cases h
end
section
variable {κ α β : Type} [DecidableEq κ] {lt : κ → κ → Bool}
variable (O : kY lt)
include O
end
section
variable {κ α β : Type} {lt : κ → κ → Bool}
variable (O : kY lt)
include O
theorem kY.asymm {a b : κ} (h : lt a b = true) : lt b a = false := by
 cases g : lt b a with
 | false => rfl
 | true => have := O.trans _ _ _ h g; rw [O.irrefl] at this; cases this
end
section
variable {κ α β : Type} [DecidableEq κ] {lt : κ → κ → Bool}
variable (O : kY lt)
include O
theorem mW {l : List (κ × α)} (h : cP lt l) {p : κ × α} (hp : p ∈ l) : bF l p.1 = some p.2 := by
 induction l with
 | nil => simp at hp
 | cons q l ih =>
  rw [gD]
  rcases aJ.1 hp with rfl | hp
  ·rw [aF rfl]
  rw [aE (O.ne (h.head p hp)), ih h.tail hp]
end
section
variable {κ α β : Type} [DecidableEq κ] {lt : κ → κ → Bool}
theorem BE {l : List (κ × α)} {k : κ} {x : α} {p : κ × α} (h : p ∈ cQ lt l k x) : p = (k, x) ∨ (p ∈ l) := by
 induction l with
 | nil => simpa [cQ] using h
 | cons q l ih =>
  simp only [cQ] at h
  split at h
  ·rcases aJ.1 h with rfl | h
   ·exact .inr (by simp)
   rcases ih h with h | h
   ·exact .inl h
   exact .inr (by simp [h])
  split at h
  ·rcases aJ.1 h with h | h
   ·exact .inl h
   exact .inr (by simp [h])
  rcases aJ.1 h with h | h
  ·exact .inl h
  exact .inr h
end
section
variable {κ α β : Type} [DecidableEq κ] {lt : κ → κ → Bool}
variable (O : kY lt)
include O
theorem sT {l : List (κ × α)} (h : cP lt l) (k : κ) (x : α) : cP lt (cQ lt l k x) := by
 induction l with
 | nil => exact List.pairwise_singleton ..
 | cons q l ih =>
  simp only [cQ]
  split
  ·rename_i hq
   refine AX.2 ⟨fun p hp => ?_, ih h.tail⟩
   rcases BE hp with rfl | hp
   ·exact hq
   exact h.head p hp
  rename_i hq
  split
  ·rename_i e
   subst e
   exact AX.2 ⟨fun p hp => h.head p hp, h.tail⟩
  rename_i e
  have hk : lt k q.1 = true := by rcases O.total q.1 k with g | g | g
                                  ·exact absurd g e
                                  ·exact absurd g hq
                                  exact g
  refine AX.2 ⟨fun p hp => ?_, h⟩
  rcases aJ.1 hp with rfl | hp
  ·exact hk
  exact O.trans _ _ _ hk (h.head p hp)
theorem pS {l : List (κ × α)} (h : cP lt l) (k : κ) (x : α) (j : κ) : bF (cQ lt l k x) j = if k = j then some x else bF l j := by
 induction l with
 | nil => simp only [cQ, gD, zG]
 | cons q l ih =>
  simp only [cQ]
  split
  ·rename_i hq
   rw [gD, ih h.tail, gD]
   by_cases hj : k = j
   ·subst hj; rw [aE (O.ne hq), aF rfl, aF rfl]
   rw [aE hj, aE hj]
  split
  ·rename_i e
   rw [gD, gD]
   by_cases hj : k = j
   ·rw [aF hj, aF hj]
   rw [aE hj, aE hj, aE (by rw [e]; exact hj)]
  rw [gD]
end
section
variable {κ α β : Type} [DecidableEq κ] {lt : κ → κ → Bool}
theorem EH {l : List (κ × α)} (h : cP lt l) (k : κ) : cP lt (dJ l k) := List.Pairwise.filter _ h
end
section
variable {κ α β : Type} [DecidableEq κ] {lt : κ → κ → Bool}
variable (O : kY lt)
include O
end
section
variable {κ α β : Type} [DecidableEq κ] {lt : κ → κ → Bool}
theorem mX {l : List (κ × α)} {k : κ} {p : κ × α} : p ∈ dJ l k ↔ p ∈ l ∧ p.1 ≠ k := by simp [dJ]
end
section
variable {κ α β : Type} [DecidableEq κ] {lt : κ → κ → Bool}
variable (O : kY lt)
include O
end
section
variable {κ α β : Type} [DecidableEq κ] {lt : κ → κ → Bool}
theorem EI (l : List (κ × α)) (k j : κ) : bF (dJ l k) j = if k = j then none else bF l j := by
 induction l with
 | nil => simp [dJ, bF]
 | cons p l ih =>
  unfold dJ at ih ⊢
  rw [AV]
  by_cases hp : p.1 = k
  ·simp only [hp, decide_true, Bool.not_true, Bool.false_eq_true, if_false]
   rw [ih, gD]
   by_cases hj : k = j
   ·rw [aF hj, aF hj]
   rw [aE hj, aE hj, aE (by rw [hp]; exact hj)]
  simp only [hp, decide_false, Bool.not_false, if_true]
  rw [gD, ih, gD]
  by_cases hj : k = j
  ·rw [aF hj, aF hj, aE (by rw [← hj]; exact hp)]
  rw [aE hj, aE hj]
end
section
variable {κ α β : Type} [DecidableEq κ] {lt : κ → κ → Bool}
variable (O : kY lt)
include O
theorem EJ {l : List (κ × α)} (h : cP lt l) (k : κ) (x : α) : (cQ lt l k x).length = if (bF l k).isSome then l.length else l.length + 1 := by
 induction l with
 | nil => rfl
 | cons q l ih =>
  simp only [cQ]
  rw [gD]
  split
  ·rename_i hq
   rw [eG, ih h.tail, aE (O.ne hq)]
   split <;> simp
  rename_i hq
  split
  ·rfl
  rename_i e
  have hk : lt k q.1 = true := by rcases O.total q.1 k with g | g | g
                                  ·exact absurd g e
                                  ·exact absurd g hq
                                  exact g
  have : bF l k = none := uA.2 fun p hp => fun e2 => by
   have := O.trans _ _ _ hk (h.head p hp)
   rw [e2, O.irrefl] at this; cases this
  rw [this]; rfl
theorem wW {l r : List (κ × α)} (h : cP lt l) (g : cP lt r) (e : ∀ k, bF l k = bF r k) : l = r := by
 induction l generalizing r with
 | nil =>
  cases r with
  | nil => rfl
  | cons q r => have := e q.1; rw [zG, gD, aF rfl] at this; cases this
 | cons p l ih =>
  cases r with
  | nil => have := e p.1; rw [zG, gD, aF rfl] at this; cases this
  | cons q r =>
   have hpq : p = q := by
    have h1 := eU (by have := e p.1; rw [gD, aF rfl] at this; exact this.symm)
    have h2 := eU (by have := e q.1; rw [gD (l := r), aF rfl] at this; exact this)
    rcases aJ.1 h1 with h1 | h1
    ·exact h1
    rcases aJ.1 h2 with h2 | h2
    ·exact h2.symm
    have a := g.head _ h1
    have b := h.head _ h2
    have := O.trans _ _ _ a b
    rw [O.irrefl] at this; cases this
   subst hpq
   congr 1
   refine ih h.tail g.tail fun k => ?_
   have := e k
   rw [gD, gD] at this
   by_cases hk : p.1 = k
   ·subst hk
    have a : ∀ {m : List (κ × α)}, (∀ q ∈ m, lt p.1 q.1 = true) → bF m p.1 = none := fun hm => uA.2 fun q hq => Ne.symm (O.ne (hm q hq))
    rw [a h.head, a g.head]
   rwa [aE hk, aE hk] at this
end
section
variable {κ α β : Type} [DecidableEq κ] {lt : κ → κ → Bool}
end
section
variable {κ α β : Type} [DecidableEq κ] {lt : κ → κ → Bool}
variable (O : kY lt)
include O
end
section
variable {κ α β : Type} [DecidableEq κ] {lt : κ → κ → Bool}
end
section
variable {κ α β : Type} [DecidableEq κ] {lt : κ → κ → Bool}
variable (O : kY lt)
include O
end
section
variable {κ α β : Type} [DecidableEq κ] {lt : κ → κ → Bool}
end
section
variable {κ α β : Type} [DecidableEq κ] {lt : κ → κ → Bool}
variable (O : kY lt)
include O
theorem wX {l : List (κ × α)} (h : cP lt l) (k : κ) (x : α) : (cQ lt l k x).Perm ((k, x) :: dJ l k) := by
 induction l with
 | nil => exact .refl _
 | cons q l ih =>
  have hd : ∀ {m : List (κ × α)}, (∀ p ∈ m, p.1 ≠ k) → dJ m k = m := fun hm => wN.2 fun p hp => by simp [hm p hp]
  simp only [cQ]
  split
  ·rename_i hq
   have hne := O.ne hq
   have : dJ (q :: l) k = q :: dJ l k := by simp [dJ, hne]
   rw [this]
   exact (List.Perm.cons q (ih h.tail)).trans (List.Perm.swap ..)
  rename_i hq
  split
  ·rename_i e
   have : dJ (q :: l) k = dJ l k := by simp [dJ, e]
   rw [this, hd fun p hp => by have := O.ne (h.head p hp); rw [e] at this; exact Ne.symm this]
  rename_i e
  have hk : lt k q.1 = true := by rcases O.total q.1 k with g | g | g
                                  ·exact absurd g e
                                  ·exact absurd g hq
                                  exact g
  rw [hd fun p hp => ?_]
  rcases aJ.1 hp with rfl | hp
  ·exact e
  exact Ne.symm (O.ne (O.trans _ _ _ hk (h.head p hp)))
end
end Go.Proofs.YtgpefiacbipfpaaGreatDoor
