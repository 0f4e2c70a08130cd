/- Files in plain words: what lies where, what is free, what a directory says as bytes. No program in sight. -/
import Derived.WalkKit
import Derived.ProofKit
import Derived.OpenShut
import Derived.Handy
import Derived.Lib.Hide
import Derived.Deep.LoopGhost
import Derived.Below
import Derived.Deep.RegionHeld3
import Derived.Deep.AppendLies
import Derived.Deep.RegionLaw
import Derived.Maps.AppendAt
import Derived.Laws.AppendOwn
import Derived.Test.YtgpefiacbipfpaaGreatDoorC01
import Derived.Test.YtgpefiacbipfpaaGreatDoorChecked
namespace Go.Proofs.YtgpefiacbipfpaaGreatDoor
structure bO where
 runs : List aR
 data : Bs
def bO.blks (f : bO) : List Nat := bY f.runs
def bP (n : Nat) : Nat := (n + 511) / 512
structure mY (room : Nat) (f : bO) : Prop where
 canon : jL f.runs
 le : ∀ r ∈ f.runs, r.1 + r.2 ≤ room
 len : aY f.runs = bP f.data.length
 most : f.data.length ≤ 32768
abbrev aG := List (Bs × bO)
def bQ (a b : Bs) : Bool := Op.bytesLess a b
def bH (fs : aG) : List Nat := fs.flatMap fun p => p.2.blks
structure dC (room : Nat) (fs : aG) : Prop where
 srt : cP bQ fs
 few : fs.length ≤ 64
 name : ∀ p ∈ fs, 1 ≤ p.1.length ∧ p.1.length ≤ 40
 ok : ∀ p ∈ fs, mY room p.2
 nodup : (bH fs).Nodup
theorem mY.blks_len {room : Nat} {f : bO} (h : mY room f) : f.blks.length = bP f.data.length := by rw [bO.blks, mH, h.len]
theorem mY.blks_lt {room : Nat} {f : bO} (h : mY room f) : ∀ b ∈ f.blks, b < room := by
 intro b hb
 obtain ⟨r, hr, h1, h2⟩ := zF.1 hb
 have := h.le r hr
 omega
theorem dC.lt {room : Nat} {fs : aG} (h : dC room fs) : ∀ b ∈ bH fs, b < room := by
 intro b hb
 obtain ⟨p, hp, hb⟩ := lK.1 hb
 exact (h.ok p hp).blks_lt b hb
theorem BF : ∀ {n : Nat} {l : List Nat}, l.Nodup → (∀ b ∈ l, b < n) → l.length ≤ n := by
 intro n
 induction n with
 | zero =>
  intro l _ hn
  cases l with
  | nil => simp
  | cons b l => exact absurd (hn b (by simp)) (by omega)
 | succ n ih =>
  intro l h hn
  have h1 := ih (l := l.erase n) (h.erase n) fun b hb => by
   have hm := List.mem_of_mem_erase hb
   have := hn b hm
   have hne : b ≠ n := fun e => by subst e; exact (List.Nodup.not_mem_erase h) hb
   omega
  have h2 := List.length_erase (a := n) (l := l)
  split at h2 <;> omega
theorem dC.many {room : Nat} {fs : aG} (h : dC room fs) : (bH fs).length ≤ room := BF h.nodup h.lt
theorem dC.nil (room : Nat) : dC room [] := ⟨DJ, by simp, by simp, by simp, by simp [bH]⟩
def kZ : Bs := [102, 105, 108, 101, 115]
def gS (r : aR) : Bs := aN r.1 ++ aN r.2
def jY (f : bO) : Bs := aN f.data.length ++ aN f.runs.length ++ f.runs.flatMap gS
def oU (p : Bs × bO) : Bs := (aN p.1.length ++ p.1) ++ jY p.2
def qL (fs : aG) : Bs := kZ ++ aN fs.length ++ fs.flatMap oU
def dT (fs : aG) : Bs := qL fs ++ List.replicate (8192 - (qL fs).length) 0
theorem KX {room : Nat} {l : List aR} (hl : ∀ r ∈ l, r.1 + r.2 ≤ room) (hr : room ≤ 512) : (l.flatMap gS).length ≤ 4 * l.length := by
 induction l with
 | nil => simp
 | cons r l ih =>
  have h := hl r (by simp)
  have h1 : (aN r.1).length ≤ 2 := mE 1 _ (by omega)
  have h2 : (aN r.2).length ≤ 2 := mE 1 _ (by omega)
  have h3 := ih fun x hx => hl x (by simp [hx])
  simp only [jT, bD, eG, gS] at *
  omega
theorem sU {l : List aR} (h : ∀ r ∈ l, 1 ≤ r.2) : l.length ≤ aY l := by
 induction l with
 | nil => simp
 | cons r l ih =>
  have := ih fun x hx => h x (by simp [hx])
  have := h r (by simp)
  simp only [aY, dR, sM, eG] at *
  omega
theorem KY {room : Nat} {p : Bs × bO} (h : mY room p.2) (hn : p.1.length ≤ 40) (hr : room ≤ 512) : (oU p).length ≤ 46 + 4 * p.2.blks.length := by
 have h1 := KX h.le hr
 have h2 := sU (oT h.canon)
 have h3 : (aN p.1.length).length ≤ 1 := mE 0 _ (by omega)
 have h4 : (aN p.2.data.length).length ≤ 3 := mE 2 _ (by have := h.most; omega)
 have h5 : aY p.2.runs ≤ 64 := by rw [h.len]; have := h.most; unfold bP; omega
 have h6 : (aN p.2.runs.length).length ≤ 1 := mE 0 _ (by omega)
 rw [bO.blks, mH]
 simp only [oU, jY, bD]
 omega
theorem EK {room : Nat} (hr : room ≤ 512) : ∀ {fs : aG}, (∀ p ∈ fs, mY room p.2) → (∀ p ∈ fs, p.1.length ≤ 40) → (fs.flatMap oU).length ≤ 46 * fs.length + 4 * (bH fs).length
 | [], _, _ => by simp
 | p :: fs, h, g => by
  have h1 := EK hr (fs := fs) (fun x hx => h x (by simp [hx])) (fun x hx => g x (by simp [hx]))
  have h2 := KY (h p (by simp)) (g p (by simp)) hr
  simp only [bH, jT, bD, eG] at *
  omega
theorem dC.raw_len {room : Nat} {fs : aG} (h : dC room fs) (hr : room ≤ 512) : (qL fs).length ≤ 8000 := by
 have h1 := EK hr h.ok fun p hp => (h.name p hp).2
 have h2 := h.many
 have h3 := h.few
 have h4 : (aN fs.length).length ≤ 1 := mE 0 _ (by omega)
 simp only [qL, kZ, bD, eG, lJ]
 omega
theorem dC.dir_len {room : Nat} {fs : aG} (h : dC room fs) (hr : room ≤ 512) : (dT fs).length = 8192 := by
 have := h.raw_len hr
 simp only [dT, bD, pN]
 omega
def dK (b : Bs) (n : Nat) : Bs := (b.drop (n * 512)).take 512
theorem BG {b : Bs} (h : b.length = 8192) {n : Nat} (hn : n < 16) : (dK b n).length = 512 := by
 rw [dK, bX, eD, h]; omega
def oV (a b : Bs) : List Wr := (List.range 16).filterMap fun n => if dK a n = dK b n then none else some (n, dK b n)
theorem vL {a b : Bs} {x : Wr} : x ∈ oV a b ↔ x.1 < 16 ∧ dK a x.1 ≠ dK b x.1 ∧ x.2 = dK b x.1 := by
 simp only [oV, List.mem_filterMap, yL]
 constructor
 ·rintro ⟨n, hn, h⟩
  split at h
  ·cases h
  cases h; exact ⟨hn, by assumption, rfl⟩
 rintro ⟨h1, h2, h3⟩
 refine ⟨x.1, h1, ?_⟩
 rw [aE h2]
 cases x; simp_all
theorem uB {a b : Bs} (hb : b.length = 8192) : Ez (oV a b) (dK a) (dK b) where
 wok := ⟨by
     have := List.length_filterMap_le (fun n => if dK a n = dK b n then none else some (n, dK b n)) (List.range 16)
     rwa [List.length_range] at this,
  fun x hx => by have := (vL.1 hx).1; omega, fun x hx => by obtain ⟨h1, -, h3⟩ := vL.1 hx; rw [h3]; exact BG hb h1⟩
 low := fun x hx => (vL.1 hx).1
 is := fun x hx => (vL.1 hx).2.2
 rest := fun n hn h => by
  by_cases e : dK a n = dK b n
  ·exact e
  exact absurd (cV.2 ⟨(n, dK b n), vL.2 ⟨hn, e, rfl⟩, rfl⟩) h
def wY (c : Nat → Bs) (bl : List Nat) (X : Bs) : Prop := ∀ j b i, bl[j]? = some b → i < 512 → 512 * j + i < X.length → (c b)[i]? = X[512 * j + i]?
def oW (c : Nat → Bs) (f : bO) : Prop := wY c f.blks f.data
def oX (l : Nat → aL) (b : Nat) : Bs := (l (36 + b)).view
def qM (l : Nat → aL) (f : bO) : Prop := ∀ c : Nat → Bs, (∀ b, c b ∈ (l (36 + b)).poss) → oW c f
theorem qM.holds {l : Nat → aL} {f : bO} (h : qM l f) : oW (oX l) f := h _ fun b => (l (36 + b)).view_mem
theorem oW.congr {c c' : Nat → Bs} {f : bO} (h : oW c f) (e : ∀ b ∈ f.blks, c' b = c b) : oW c' f := by
 intro j b i hj hi hx
 rw [e b (fC hj)]
 exact h j b i hj hi hx
theorem EL {l : Nat → aL} {f : bO} (h : oW (oX l) f) (g : ∀ b ∈ f.blks, (l (36 + b)).pend = []) : qM l f := by
 intro c hc
 refine h.congr fun b hb => ?_
 have := hc b
 rw [aL.poss, g b hb, aM] at this
 rw [this, oX, aL.view, g b hb]
 rfl
def uC (f g : bO) : Prop := (∀ b ∈ f.blks, b ∉ g.blks) ∨ (g.blks <+: f.blks ∧ g.data <+: f.data)
structure eY (l : Nat → aL) (room k s : Nat) (fs last : aG) : Prop where
 few : room ≤ 476
 quiet : eP l k s (dK (dT last))
 sized : iE l
 now : dC room fs
 was : dC room last
 holds : ∀ p ∈ fs, oW (oX l) p.2
 sure : ∀ p ∈ last, qM l p.2
 kin : ∀ p ∈ fs, ∀ q ∈ last, uC p.2 q.2
structure jB (l : Nat → aL) (room k : Nat) (fs : aG) : Prop where
 few : room ≤ 476
 recov : qK l k (dK (dT fs))
 sized : iE l
 ok : dC room fs
 pend : ∀ i, (l i).pend = []
 holds : ∀ p ∈ fs, oW (oX l) p.2
theorem EM : ∀ x y z : List UInt8, Op.bytesLess x y = true → Op.bytesLess y z = true → Op.bytesLess x z = true
 | _, [], _, h, _ => by cases ‹List UInt8› <;> simp [Op.bytesLess] at h
 | x, b :: y, [], _, h => by simp [Op.bytesLess] at h
 | [], b :: y, c :: z, _, _ => rfl
 | a :: x, b :: y, c :: z, h, g => by
  simp only [Op.bytesLess, Bool.or_eq_true, Bool.and_eq_true, decide_eq_true_eq, beq_iff_eq, UInt8.lt_iff_toNat_lt] at h g ⊢
  rcases h with h | ⟨rfl, h⟩
  ·rcases g with g | ⟨rfl, g⟩
   ·exact Or.inl (by omega)
   exact Or.inl h
  rcases g with g | ⟨rfl, g⟩
  ·exact Or.inl g
  exact Or.inr ⟨rfl, EM x y z h g⟩
theorem EN : ∀ x : List UInt8, Op.bytesLess x x = false
 | [] => rfl
 | a :: x => by simp [Op.bytesLess, EN x]
theorem EO : ∀ x y : List UInt8, x = y ∨ Op.bytesLess x y = true ∨ Op.bytesLess y x = true
 | [], [] => Or.inl rfl
 | [], _ :: _ => Or.inr (Or.inl rfl)
 | _ :: _, [] => Or.inr (Or.inr rfl)
 | a :: x, b :: y => by
  simp only [Op.bytesLess, Bool.or_eq_true, Bool.and_eq_true, decide_eq_true_eq, beq_iff_eq, UInt8.lt_iff_toNat_lt, List.cons.injEq]
  rcases Nat.lt_trichotomy a.toNat b.toNat with h | h | h
  ·exact Or.inr (Or.inl (Or.inl h))
  ·have h := UInt8.toNat_inj.1 h
   subst h
   rcases EO x y with rfl | h | h
   ·exact Or.inl ⟨rfl, rfl⟩
   ·exact Or.inr (Or.inl (Or.inr ⟨rfl, h⟩))
   exact Or.inr (Or.inr (Or.inr ⟨rfl, h⟩))
  exact Or.inr (Or.inr (Or.inl h))
theorem dD : kY bQ := ⟨EN, EM, EO⟩
theorem eY.crash {l l' : Nat → aL} {room k s : Nat} {fs last : aG} (h : eY l room k s fs last) (c : iM l l') : jB l' room k last where
 few := h.few
 recov := ⟨s, .inl (h.quiet.crash c)⟩
 sized := fun i b hb => by
  obtain ⟨h1, h2⟩ := c i
  rw [aL.poss, h1, aM] at hb
  subst hb
  exact h.sized i _ h2
 ok := h.was
 pend := fun i => (c i).1
 holds := fun p hp => h.sure p hp _ fun b => by
  obtain ⟨h1, h2⟩ := c (36 + b)
  show (l' (36 + b)).view ∈ _
  rw [aL.view, h1]
  exact h2
theorem nW {fs : aG} {p : Bs × bO} (hp : p ∈ fs) {b : Nat} (hb : b ∈ p.2.blks) : b ∈ bH fs := lK.2 ⟨p, hp, hb⟩
theorem zH {fs : aG} (h : (bH fs).Nodup) : ∀ {p q : Bs × bO}, p ∈ fs → q ∈ fs → p.1 ≠ q.1 → ∀ b ∈ p.2.blks, b ∉ q.2.blks := by
 induction fs with
 | nil => intro p q hp; simp at hp
 | cons x fs ih =>
  intro p q hp hq hne b hb hb'
  simp only [bH, jT, kO] at h
  obtain ⟨-, h2, h3⟩ := h
  rcases aJ.1 hp with hp1 | hp1
  ·rcases aJ.1 hq with hq1 | hq1
   ·exact hne (by rw [hp1, hq1])
   exact h3 b (by rw [← hp1]; exact hb) b (nW (fs := fs) hq1 hb') rfl
  rcases aJ.1 hq with hq1 | hq1
  ·exact h3 b (by rw [← hq1]; exact hb') b (nW (fs := fs) hp1 hb) rfl
  exact ih h2 hp1 hq1 hne b hb hb'
theorem EP {room : Nat} {fs : aG} (h : dC room fs) (nm : Bs) : dC room (dJ fs nm) where
 srt := EH h.srt nm
 few := bG (AY ..) h.few
 name := fun p hp => h.name p (mX.1 hp).1
 ok := fun p hp => h.ok p (mX.1 hp).1
 nodup := by
  have : (bH (dJ fs nm)).Sublist (bH fs) := by
   have h0 : (dJ fs nm).Sublist fs := List.filter_sublist
   clear h
   generalize dJ fs nm = r at h0
   unfold bH
   induction h0 with
   | slnil => exact .slnil
   | cons a _ ih => rw [jT]; exact ih.trans (List.sublist_append_right ..)
   | cons_cons a _ ih => rw [jT, jT]; exact (List.Sublist.refl _).append ih
  exact h.nodup.sublist this
theorem eY.remove {l : Nat → aL} {room k s : Nat} {fs last : aG} (h : eY l room k s fs last) (nm : Bs) : eY l room k s (dJ fs nm) last :=
 ⟨h.few, h.quiet, h.sized, EP h.now nm, h.was, fun p hp => h.holds p (mX.1 hp).1, h.sure, fun p hp => h.kin p (mX.1 hp).1⟩
theorem EQ {a b : aG} (h : a.Perm b) : (bH a).Perm (bH b) := h.flatMap_right _
theorem ER {room : Nat} {fs : aG} (h : dC room fs) {nm : Bs} {f : bO} (hn : 1 ≤ nm.length ∧ nm.length ≤ 40) (hf : mY room f) (h64 : (cQ bQ fs nm f).length ≤ 64)
  (hnd : f.blks.Nodup) (hd : ∀ b ∈ f.blks, b ∉ bH (dJ fs nm)) : dC room (cQ bQ fs nm f) where
 srt := sT dD h.srt nm f
 few := h64
 name := fun p hp => by rcases BE hp with rfl | hp; exact hn; exact h.name p hp
 ok := fun p hp => by rcases BE hp with rfl | hp; exact hf; exact h.ok p hp
 nodup := by
  rw [(EQ (wX dD h.srt nm f)).nodup_iff]
  simp only [bH, jT, kO]
  exact ⟨hnd, (EP h nm).nodup, fun a ha b hb e => hd a ha (e ▸ hb)⟩
theorem uD {fs : aG} (h : cP bQ fs) {nm : Bs} {f : bO} {p : Bs × bO} (hp : p ∈ cQ bQ fs nm f) : p = (nm, f) ∨ (p ∈ fs ∧ p.1 ≠ nm) := by
 have := (wX dD h nm f).mem_iff.1 hp
 rcases aJ.1 this with h | h
 ·exact .inl h
 exact .inr (mX.1 h)
def pT : bO := ⟨[], []⟩
theorem KZ (room : Nat) : mY room pT := ⟨trivial, by simp [pT], rfl, by simp [pT]⟩
theorem wZ : pT.blks = [] := rfl
theorem eY.create {l : Nat → aL} {room k s : Nat} {fs last : aG} (h : eY l room k s fs last) {nm : Bs} (hn : 1 ≤ nm.length ∧ nm.length ≤ 40) (hg : bF fs nm = none) (h64 : fs.length < 64) : eY l room k s (cQ bQ fs nm pT) last :=
 ⟨h.few, h.quiet, h.sized, ER h.now hn (KZ room) (by rw [EJ dD h.now.srt, hg]; exact h64) (by simp [wZ]) (by simp [wZ]), h.was,
  fun p hp => by
   rcases uD h.now.srt hp with rfl | ⟨hp, -⟩
   ·intro j b i hj; simp [wZ] at hj
   exact h.holds p hp,
  h.sure, fun p hp => by
   rcases uD h.now.srt hp with rfl | ⟨hp, -⟩
   ·intro q _; exact .inl (by simp [wZ])
   exact h.kin p hp⟩
theorem La (f : bO) : uC f f := .inr ⟨List.prefix_refl _, List.prefix_refl _⟩
theorem dC.kin {room : Nat} {fs : aG} (h : dC room fs) : ∀ p ∈ fs, ∀ q ∈ fs, uC p.2 q.2 := by
 intro p hp q hq
 by_cases e : p.1 = q.1
 ·have h1 := mW dD h.srt hp
  have h2 := mW dD h.srt hq
  rw [e, h2] at h1
  rw [mQ h1]
  exact La _
 exact .inl (zH h.nodup hp hq e)
theorem eY.reset {l : Nat → aL} {room k s : Nat} {fs last : aG} (h : eY l room k s fs last) : eY l room k s last last :=
 ⟨h.few, h.quiet, h.sized, h.was, h.was, fun p hp => (h.sure p hp).holds, h.sure, h.was.kin⟩
def rX (k s : Nat) (fs last : aG) : List cE := jK (k + 1) s (oV (dT last) (dT fs))
theorem eY.sync {l : Nat → aL} {room k s : Nat} {fs last : aG} (h : eY l room k s fs last) (hk : k < 2 ^ 61) :
  iR (fun l1 => ∀ l', iM l1 l' → ∃ k', k' ≤ k + 1 ∧ (jB l' room k' last ∨ jB l' room k' fs)) (rX k s fs last) l ∧ eY (exec (rX k s fs last) l) room (k + 1) (1 - s) fs fs := by
 have hfew := h.few
 have hd := h.now.dir_len (by omega)
 have ho := uB (a := dT last) hd
 obtain ⟨h1, h2, h3⟩ := h.quiet.commit ho (by omega : k < 2 ^ 62)
 have hsz : ∀ o ∈ rX k s fs last, tY o := EC (by omega) ho.wok
 have hs := h.quiet.slots.two
 refine ⟨fun p q e l' c => ?_, ?_⟩
 ·have hszp : iE (exec p l) := h.sized.exec fun o hp => hsz o (by rw [e]; simp [hp])
  have hsz' : iE l' := fun i b hb => by
   obtain ⟨c1, c2⟩ := c i
   rw [aL.poss, c1, aM] at hb
   subst hb
   exact hszp i _ c2
  have hR : ∀ {k'}, qK l' k' (dK (dT last)) → jB l' room k' last := fun hr => ⟨hfew, hr, hsz', h.was, fun i => (c i).1, fun x hx => h.sure x hx _ fun b => by
   obtain ⟨c1, c2⟩ := c (36 + b)
   show (l' (36 + b)).view ∈ _
   rw [aL.view, c1]
   refine (EA p fun o hp => ?_).2 _ c2
   exact KK ho.wok ho.low hs (by omega) o (by rw [show jK (k + 1) s (oV (dT last) (dT fs)) = p ++ q from e]; simp [hp])⟩
  rcases h1 p q e l' c with hr | ⟨hr, hi⟩
  ·exact ⟨k, by omega, .inl (hR hr)⟩
  have hF : ∀ {k'}, qK l' k' (dK (dT fs)) → jB l' room k' fs := fun hr => ⟨hfew, hr, hsz', h.now, fun i => (c i).1, fun x hx => (h.holds x hx).congr fun b _ => by
   show (l' (36 + b)).view = (l (36 + b)).view
   rw [hi _ (by omega)]; rfl⟩
  rcases hr with hr | hr
  ·exact ⟨k, by omega, .inr (hF hr)⟩
  exact ⟨k + 1, by omega, .inr (hF hr)⟩
 have hH : ∀ x ∈ fs, oW (oX (exec (rX k s fs last) l)) x.2 := fun x hx => (h.holds x hx).congr fun b _ => by
  show (exec (rX k s fs last) l (36 + b)).view = _
  unfold rX
  rw [h3 _ (by omega)]; rfl
 exact ⟨hfew, h2, h.sized.exec hsz, h.now, h.now, hH, fun x hx => EL (hH x hx) fun b _ => by unfold rX; rw [h3 _ (by omega)], h.now.kin⟩
theorem jB.mount {l : Nat → aL} {room k : Nat} {fs : aG} (h : jB l room k fs) (hk : k < 2 ^ 61) : ∃ s w, s < 2 ∧ gA w ∧ (∀ x ∈ w, x.1 < 16) ∧ ((w = [] ∧ eP l k s (dK (dT fs))) ∨ jX l k s w (dK (dT fs))) ∧
  iR (fun l1 => ∀ l', iM l1 l' → ∃ k', k' ≤ k + 1 ∧ jB l' room k' fs) (gZ k s w) l ∧ eY (exec (gZ k s w) l) room (k + 1) (1 - s) fs fs := by
 have hfew := h.few
 have hmain : ∀ {s w}, s < 2 → gA w → (∀ x ∈ w, x.1 < 16) → iR (rU k (dK (dT fs))) (gZ k s w) l → eP (exec (gZ k s w) l) (k + 1) (1 - s) (dK (dT fs)) →
   iR (fun l1 => ∀ l', iM l1 l' → ∃ k', k' ≤ k + 1 ∧ jB l' room k' fs) (gZ k s w) l ∧ eY (exec (gZ k s w) l) room (k + 1) (1 - s) fs fs := by
  intro s w hs hw hl h1 h2
  have hsz : ∀ o ∈ gZ k s w, tY o := ED (by omega) hw
  have hst : ∀ i, 36 ≤ i → ∀ t q, gZ k s w = t ++ q → exec t l i = l i := by
   intro i hi t q e
   have hp := h.pend i
   have e0 : l i = ⟨(l i).safe, []⟩ := by cases hc : l i with | mk a p => rw [hc] at hp; simp at hp; rw [hp]
   have := Bv t e0 fun o ho => KM hl hs hi o (by rw [e]; simp [ho])
   rw [this, ← e0]
  refine ⟨fun p q e l' c => ?_, ?_⟩
  ·have hszp : iE (exec p l) := h.sized.exec fun o hp => hsz o (by rw [e]; simp [hp])
   have hF : ∀ {k'}, qK l' k' (dK (dT fs)) → jB l' room k' fs := fun hr => ⟨hfew, hr, fun i b hb => by
     obtain ⟨c1, c2⟩ := c i
     rw [aL.poss, c1, aM] at hb
     subst hb
     exact hszp i _ c2, h.ok, fun i => (c i).1, fun x hx => (h.holds x hx).congr fun b _ => by
    show (l' (36 + b)).view = (l (36 + b)).view
    have e1 := hst (36 + b) (by omega) p q e
    rw [c.still (by rw [e1]; exact h.pend _), e1]⟩
   rcases h1 p q e l' c with hr | hr
   ·exact ⟨k, by omega, hF hr⟩
   exact ⟨k + 1, by omega, hF hr⟩
  have e1 : ∀ i, 36 ≤ i → exec (gZ k s w) l i = l i := fun i hi => hst i hi _ [] (by simp)
  have hH : ∀ x ∈ fs, oW (oX (exec (gZ k s w) l)) x.2 := fun x hx => (h.holds x hx).congr fun b _ => by
   show (exec (gZ k s w) l (36 + b)).view = _
   rw [e1 _ (by omega)]; rfl
  exact ⟨hfew, h2, h.sized.exec hsz, h.ok, h.ok, hH, fun x hx => EL (hH x hx) fun b _ => by rw [e1 _ (by omega)]; exact h.pend _, h.ok.kin⟩
 obtain ⟨s, hq | ⟨w, hr⟩⟩ := h.recov
 ·obtain ⟨h1, h2⟩ := BA hq (by omega : k < 2 ^ 62)
  have hw : gA [] := ⟨by simp, by simp, by simp⟩
  exact ⟨s, [], hq.slots.two, hw, by simp, .inl ⟨rfl, hq⟩, hmain hq.slots.two hw (by simp) h1 h2⟩
 obtain ⟨h1, h2⟩ := KL hr (by omega : k < 2 ^ 62)
 exact ⟨s, w, hr.slots.two, hr.wok, hr.low, .inr hr, hmain hr.slots.two hr.wok hr.low h1 h2⟩
open Go.RowKit
def Obj.put (o : Nat) (v : Value) : Obj → Obj
 | .cells c e f => .cells (c.setIfInBounds o v) e f
 | x => x
theorem bJ (w : World) (b o : Nat) (v : Value) (k : Nat) :
  (w.setCell ⟨b, o, none⟩ v).heap[k]? = if k = b then (w.heap[k]?).map (Obj.put o v) else w.heap[k]? := by
 simp only [World.setCell, Array.getElem?_modify]
 by_cases h : b = k
 ·subst h
  simp only [if_true]
  cases w.heap[b]? with
  | none => rfl
  | some x => cases x <;> rfl
 rw [aE h, aE (fun e => h e.symm)]
theorem heap_alloc (w : World) (o : Obj) (k : Nat) : (w.alloc o).heap[k]? = if k = w.heap.size then some o else w.heap[k]? := by
 show (w.heap.push o)[k]? = _
 rw [Array.getElem?_push]
theorem oY (w : World) : w.drew.heap = w.heap := rfl
theorem aD {w : World} {b : Nat} {c : Array Value} {e : TypeId} {f : Nat × Nat} (h : w.heap[b]? = some (.cells c e f)) (o : Nat) : w.cell? ⟨b, o, none⟩ = c[o]? := by
 simp [World.cell?, h]
theorem aZ {w : World} {b : Nat} {c : Array Value} {e : TypeId} (h : w.heap[b]? = some (.cells c e (0, 0))) (o : Nat) : w.frozen? ⟨b, o, none⟩ = false := by
 simp [World.frozen?, h]
theorem aH {w : World} {b : Nat} {o : Obj} (h : w.heap[b]? = some o) : b < w.heap.size := by
 rcases kP b w.heap.size with h' | h'
 ·exact h'
 simp [Array.getElem?_eq_none h'] at h
structure aB (F : List Nat) (w w' : World) : Prop where
 os : w'.os = w.os
 output : w'.output = w.output
 size : w.heap.size ≤ w'.heap.size
 block : ∀ k, k < w.heap.size → k ∉ F → w'.heap[k]? = w.heap[k]?
theorem aB.refl (F : List Nat) (w : World) : aB F w w := ⟨rfl, rfl, aQ _, fun _ _ _ => rfl⟩
theorem aB.trans {F : List Nat} {a b c : World} (h : aB F a b) (g : aB F b c) : aB F a c :=
 ⟨g.os.trans h.os, g.output.trans h.output, bG h.size g.size, fun k hk hn => (g.block k (dN hk h.size) hn).trans (h.block k hk hn)⟩
theorem aB.next {F G : List Nat} {a b c : World} (h : aB F a b) (g : aB G b c) (hs : ∀ k, k ∈ G → k < a.heap.size → k ∈ F) : aB F a c :=
 ⟨g.os.trans h.os, g.output.trans h.output, bG h.size g.size, fun k hk hn => (g.block k (dN hk h.size) (fun q => hn (hs k q hk))).trans (h.block k hk hn)⟩
theorem aB.mono {F G : List Nat} {w w' : World} (h : aB F w w') (hs : ∀ k, k ∈ F → k < w.heap.size → k ∈ G) : aB G w w' :=
 ⟨h.os, h.output, h.size, fun k hk hn => h.block k hk (fun hf => hn (hs k hf hk))⟩
theorem aB.alike {F : List Nat} {w w' w'' : World} (h : aB F w w') (g : w''.Alike w') : aB F w w'' :=
 ⟨g.2.1.trans h.os, g.2.2.trans h.output, by rw [g.1]; exact h.size, fun k hk hn => by rw [g.1]; exact h.block k hk hn⟩
theorem aB.setCell {F : List Nat} {w w' : World} (h : aB F w w') {b : Nat} (hb : b ∈ F) (o : Nat) (v : Value) : aB F w (w'.setCell ⟨b, o, none⟩ v) :=
 h.trans ⟨rfl, rfl, by simp, fun k _ hn => by rw [bJ, aE (by rintro rfl; exact hn hb)]⟩
theorem aB.setCellNew {F : List Nat} {w w' : World} (h : aB F w w') {b : Nat} (hb : w.heap.size ≤ b) (o : Nat) (v : Value) : aB F w (w'.setCell ⟨b, o, none⟩ v) :=
 ⟨h.os, h.output, by simpa using h.size, fun k hk hn => by rw [bJ, aE (by omega)]; exact h.block k hk hn⟩
theorem aB.alloc {F : List Nat} {w w' : World} (h : aB F w w') (o : Obj) : aB F w (w'.alloc o) :=
 h.trans ⟨rfl, rfl, by simp, fun k hk _ => by rw [heap_alloc, aE (by omega)]⟩
theorem aB.drew {F : List Nat} {w w' : World} (h : aB F w w') : aB F w w'.drew := ⟨h.os, h.output, h.size, h.block⟩
theorem sV (w : World) : w.drew.Alike w := ⟨rfl, rfl, rfl⟩
theorem uE (w : World) : w.Alike w := ⟨rfl, rfl, rfl⟩
theorem ES (a b : ByteArray) : (a == b) = decide (a = b) := by
 cases a with | mk a => cases b with | mk b =>
 rw [Bool.eq_iff_iff]
 show ByteArray.beq ⟨a⟩ ⟨b⟩ = true ↔ _
 simp only [ByteArray.beq, decide_eq_true_eq, ByteArray.mk.injEq]
 exact beq_iff_eq
theorem aB.grown {F : List Nat} {w a b : World} {row : Option Nat} (h : aB F w a) (hg : a.grownBy b row) (hr : ∀ k, row = some k → w.heap.size ≤ k) : aB F w b :=
 ⟨hg.os.trans h.os, hg.output.trans h.output, bG h.size hg.size, fun k hk hn => (hg.block k (dN hk h.size) (fun e => by have := hr k e.symm; omega)).trans (h.block k hk hn)⟩
theorem Lb {F : List Nat} {w w' : World} {base : Nat} {e : TypeId} {size : Nat} {v : Value} {n : Nat} {xs : List Value} (h : w.ownsRow base e size v n xs) (u : aB F w w') (hF : ∀ k ∈ F, v.ownBlock ≠ some k) : w'.ownsRow base e size v n xs := by
 have hlt := h.lt
 obtain ⟨h1, h2⟩ := h
 refine ⟨h1, ?_⟩
 rcases h2 with h2 | ⟨g, cap, cur, hv, hg, hh, r⟩
 ·exact Or.inl h2
 subst hv
 have := (hlt g rfl).2
 exact Or.inr ⟨g, cap, cur, rfl, hg, by rw [u.block g this (fun q => hF g q rfl)]; exact hh, r⟩
theorem aB.below {F : List Nat} {w a b : World} (h : aB F w a) {B : Nat} (g : Below B a b) (hB : w.heap.size ≤ B) : aB F w b :=
 ⟨g.os.trans h.os, g.output.trans h.output, bG h.size g.size, fun k hk hn => (g.block k (dN hk hB)).trans (h.block k hk hn)⟩
theorem eQ {w w' : World} (u : aB [] w w') {b o : Nat} {v : Value} (h : w.cell? ⟨b, o, none⟩ = some v) : w'.cell? ⟨b, o, none⟩ = some v :=
 (iD (u.block b (kX _ _ h) (by simp))).trans h
def iF {α : Type} (k : Nat) (At : World → Nat → Nat → α → Prop) (w : World) (v : Value) (l : List α) : Prop :=
 ∃ a cap, v = .slice a l.length cap ∧ l.length ≤ cap ∧ cap ≤ maxLen ∧ ∀ i (h : i < l.length), ∃ b off, a = some ⟨b, off, none⟩ ∧ At w b (off + i * k) l[i]
section
variable {α : Type}
def aP (f : α → List Value) (l : List α) : List Value := l.flatMap f
structure fA (f : α → List Value) (k bytes : Nat) (st e : TypeId) : Prop where
 len : ∀ x, (f x).length = k
 pos : 0 < k
 und : Tryz.prog.underlying st = some (.slice e)
 info : ∃ i z, Tryz.prog.info? e = some i ∧ i.zero = some z ∧ i.size = k ∧ i.bytes = bytes ∧ z.cells.size = k
variable {f : α → List Value} {k bytes : Nat} {st e : TypeId}
theorem gJ (T : fA f k bytes st e) (l : List α) : (aP f l).length = l.length * k := by
 induction l with
 | nil => simp [aP]
 | cons x l ih =>
  simp only [aP, jT, bD, eG] at ih ⊢
  rw [ih, T.len, yK]
  omega
theorem pU (l r : List α) : aP f (l ++ r) = aP f l ++ aP f r := by simp [aP]
theorem ET {l : List α} (h : ∀ x ∈ l, ∀ u ∈ f x, u.oneCell' = true) : ∀ u ∈ aP f l, u.oneCell' = true := by
 intro u hu
 obtain ⟨x, hx, hu⟩ := lK.1 hu
 exact h x hx u hu
theorem zI (T : fA f k bytes st e) : ∀ (l : List α) (i : Nat) (hi : i < l.length) (j : Nat), j < k → (aP f l)[i * k + j]? = (f l[i])[j]? := by
 intro l
 induction l with
 | nil => intro i hi; simp at hi
 | cons x l ih =>
  intro i hi j hj
  have e0 : aP f (x :: l) = f x ++ aP f l := rfl
  rw [e0]
  cases i with
  | zero =>
   rw [kQ (by rw [T.len]; omega)]
   simp
  | succ i =>
   have h := ih i (by simpa using hi) j hj
   rw [oN (by rw [T.len, Nat.succ_mul]; omega), T.len]
   simp only [JW]
   rw [← h]
   congr 1
   rw [Nat.succ_mul]
   omega
def lP (f : α → List Value) (w : World) (b o : Nat) (x : α) : Prop := ∀ j u, (f x)[j]? = some u → w.cell? ⟨b, o + j, none⟩ = some u
theorem lP.same {w w' : World} {b o : Nat} {x : α} (h : lP f w b o x) (e : w'.heap[b]? = w.heap[b]?) : lP f w' b o x := fun j u hu => (iD e).trans (h j u hu)
def hZ (f : α → List Value) (w : World) (A : Option Addr) (r : List α) : Prop := (A = none → r = []) ∧ ∀ ad, A = some ad → ∀ j u, (aP f r)[j]? = some u → w.cell? (ad.add j) = some u
theorem qN (b o j : Nat) : (⟨b, o, none⟩ : Addr).add j = ⟨b, o + j, none⟩ := by
 unfold Addr.add
 split
 ·subst_vars; rfl
 rfl
def aK (f : α → List Value) (e : TypeId) (k : Nat) (w : World) (base : Nat) (v : Value) (l : List α) : Prop := w.ownsRow base e k v l.length (aP f l)
theorem aK.nil (w : World) (base : Nat) : aK f e k w base (.slice none 0 0) [] := World.ownsRow_nil _ _ _ _
theorem aK.empty (_T : fA f k bytes st e) {w : World} {B base : Nat} (hB : w.heap[B]? = some (.cells #[] e (0, 0))) (hb : base ≤ B) : aK f e k w base (.slice (some ⟨B, 0, none⟩) 0 0) [] :=
 ⟨by simp [aP], .inr ⟨B, 0, #[], rfl, hb, hB, aQ _, by unfold maxLen; omega, by simp, by simp [aP]⟩⟩
theorem zJ (T : fA f k bytes st e) {w : World} {base : Nat} {v : Value} {l : List α} (hown : aK f e k w base v l) {A : Option Addr} (c : Nat) {r : List α} (hr : hZ f w A r) (hs : ∀ x ∈ r, ∀ u ∈ f x, u.oneCell' = true) (hb : (l.length + r.length) * bytes ≤ 140737488355328) (h63 : l.length + r.length ≤ 140737488355328) (hbase : base ≤ w.heap.size) (ty : TypeId) :
  ∃ v' w', (Builtin.append_ #[st, st] ty #[v, .slice A r.length c]).run Tryz.prog w = .ok v' w' ∧ aK f e k w' base v' (l ++ r) ∧ w.grownBy w' v.ownBlock ∧ (v'.ownBlock = v.ownBlock ∨ ∀ g, v'.ownBlock = some g → w.heap.size ≤ g) := by
 obtain ⟨i0, z, hi0, hz0, hz1, hz2, hz3⟩ := T.info
 rcases A with _ | ad
 ·obtain rfl := hr.1 rfl
  refine ⟨v, w, ?_, by simpa [aK] using hown, World.grownBy.refl w _, Or.inl rfl⟩
  rcases hown.2 with ⟨rfl, hn⟩ | ⟨g, cap, cur, rfl, _, _, hnc, _⟩
  ·simp [Builtin.append_, nV T.und, sizeOf, typeInfo, hi0, Builtin.lenOf, Builtin.firstCells]
  simp [Builtin.append_, nV T.und, sizeOf, typeInfo, hi0, Builtin.lenOf, Builtin.firstCells, hnc, storeCells]
 obtain ⟨v', w', hrun, h2, h3, _, h5⟩ := run_append_own_at (P := Tryz.prog) w base st ty e i0 z k bytes T.und hi0 hz0 hz1 hz2 hz3 T.pos v l.length (aP f l) hown ad r.length c (aP f r) (gJ T r) (hr.2 ad rfl) (ET hs) (by unfold maxLen; omega) hb hbase
 refine ⟨v', w', hrun, by unfold aK; rw [pU, bD]; exact h2, h3, ?_⟩
 rcases h5 with h5 | h5
 ·exact Or.inl h5
 exact Or.inr fun g hg => by rw [h5] at hg; cases hg; exact aQ _
theorem fS (T : fA f k bytes st e) {w : World} {ops : Array Oper} {rest : List Oper} {o : Oper} {a : Act} {Q : Exit → Act → World → Prop} (hgd : o.guard = none) (s x : Operand)
  (ho : o.op = .call { callee := .builtin .append, args := #[s, x], argTypes := #[st, st] }) {base : Nat} {v : Value} {l : List α} (hs : a.eval s = v) (hown : aK f e k w base v l)
  {A : Option Addr} {c : Nat} {r : List α} (hx : a.eval x = .slice A r.length c) (hr : hZ f w A r) (hsl : ∀ x ∈ r, ∀ u ∈ f x, u.oneCell' = true) (hb : (l.length + r.length) * bytes ≤ 140737488355328) (h63 : l.length + r.length ≤ 140737488355328) (hbase : base ≤ w.heap.size)
  (h : ∀ v' w', aK f e k w' base v' (l ++ r) → w.grownBy w' v.ownBlock → (v'.ownBlock = v.ownBlock ∨ ∀ g, v'.ownBlock = some g → w.heap.size ≤ g) → wpList Tryz.prog ops Q rest (a.put o.dst v') w') : wpList Tryz.prog ops Q (o :: rest) a w :=
 sP hgd fun K hK => by
  obtain ⟨v', w', hrun, h2, h3, h4⟩ := zJ T hown c hr hsl hb h63 hbase o.type
  unfold Oper.wp execOp
  simp only [ho, resolve, invoke, builtin, qF, vB, qG, DK, dR, kT, hs, hx, hrun]
  exact hK _ _ (h v' w' h2 h3 h4)
theorem aK.slice {w : World} {base : Nat} {v : Value} {l : List α} (h : aK f e k w base v l) : ∃ a c, v = .slice a l.length c := by
 rcases h.2 with ⟨rfl, hn⟩ | ⟨g, cap, cur, rfl, -⟩
 ·exact ⟨none, 0, by rw [hn]⟩
 exact ⟨_, _, rfl⟩
theorem aK.src (T : fA f k bytes st e) {w : World} {base : Nat} {a : Option Addr} {n c : Nat} {l : List α} (h : aK f e k w base (.slice a n c) l) : hZ f w a l := by
 obtain ⟨h0, h2⟩ := h
 rcases h2 with ⟨hv, hn⟩ | ⟨g, cap, cur, hv, hg, hh, r1, r2, r3, r4⟩
 ·have : l = [] := nT hn
  subst this
  exact ⟨fun _ => rfl, fun ad _ j u hu => by simp [aP] at hu⟩
 simp only [fG] at hv
 obtain ⟨rfl, -, -⟩ := hv
 refine ⟨fun q => absurd q (by simp), fun ad q j u hu => ?_⟩
 cases q
 have hj : j < l.length * k := by
  rcases kP j (l.length * k) with h | h
  ·exact h
  rw [gG (by rw [gJ T]; exact h)] at hu; cases hu
 rw [qN, aD hh, iJ, ← AZ]
 have : (cur.toList.take (l.length * k))[j]? = (aP f l)[j]? := by rw [r4]
 rw [qE hj] at this
 rw [this]
 exact hu
theorem aK.at (T : fA f k bytes st e) {w : World} {base : Nat} {a : Option Addr} {n c : Nat} {l : List α} (h : aK f e k w base (.slice a n c) l) : n = l.length ∧ n ≤ c ∧ c ≤ maxLen ∧ ∀ i (_ : i < l.length), ∃ g, a = some ⟨g, 0, none⟩ ∧ base ≤ g ∧ (∀ o, w.frozen? ⟨g, o, none⟩ = false) ∧ lP f w g (i * k) l[i] := by
 have hs := h.src T
 obtain ⟨h0, h2⟩ := h
 rcases h2 with ⟨hv, hn⟩ | ⟨g, cap, cur, hv, hg, hh, r1, r2, r3, r4⟩
 ·have : l = [] := nT hn
  subst this
  simp only [fG] at hv
  obtain ⟨-, rfl, rfl⟩ := hv
  exact ⟨rfl, by omega, by unfold maxLen; omega, fun i hi => absurd hi (by simp)⟩
 simp only [fG] at hv
 obtain ⟨rfl, rfl, rfl⟩ := hv
 refine ⟨rfl, r1, r2, fun i hi => ⟨g, rfl, hg, aZ hh, fun j u hu => ?_⟩⟩
 have hj : j < k := by
  rcases kP j k with h | h
  ·exact h
  rw [gG (by rw [T.len]; exact h)] at hu; cases hu
 have := hs.2 ⟨g, 0, none⟩ rfl (i * k + j) u (by rw [zI T l i hi j hj]; exact hu)
 rwa [qN, iJ] at this
theorem aK.base {w : World} {a b : Nat} {v : Value} {l : List α} (h : aK f e k w a v l) (hb : b ≤ a) : aK f e k w b v l := by
 obtain ⟨h1, h2⟩ := h
 refine ⟨h1, ?_⟩
 rcases h2 with h2 | ⟨g, cap, cur, e, hge, r⟩
 ·exact .inl h2
 exact .inr ⟨g, cap, cur, e, bG hb hge, r⟩
theorem aK.upd {F : List Nat} {w w' : World} {base : Nat} {v : Value} {l : List α} (h : aK f e k w base v l) (u : aB F w w') (hF : ∀ j ∈ F, v.ownBlock ≠ some j) : aK f e k w' base v l := Lb h u hF
theorem aK.sl (T : fA f k bytes st e) {w : World} {base : Nat} {v : Value} {l : List α} (h : aK f e k w base v l) : iF k (lP f) w v l := by
 obtain ⟨a, c, rfl⟩ := h.slice
 obtain ⟨-, h1, h2, h3⟩ := h.at T
 exact ⟨a, c, rfl, h1, h2, fun i hi => by obtain ⟨g, e, -, -, hc⟩ := h3 i hi; exact ⟨g, 0, e, by rw [iJ]; exact hc⟩⟩
theorem aK.block {w : World} {base : Nat} {v : Value} {l : List α} (h : aK f e k w base v l) : ∀ g, v.ownBlock = some g → base ≤ g ∧ g < w.heap.size := fun g hg => World.ownsRow.lt h g hg
theorem iF.srcG (T : fA f k bytes st e) {At : World → Nat → Nat → α → Prop} {w : World} {a : Option Addr} {n cap : Nat} {l : List α} (hA : ∀ b o x, At w b o x → lP f w b o x) (h : iF k At w (.slice a n cap) l) : hZ f w a l := by
 obtain ⟨a', cap', hv, h1, h2, h3⟩ := h
 simp only [fG] at hv
 obtain ⟨rfl, rfl, rfl⟩ := hv
 refine ⟨fun q => ?_, fun ad q j u hu => ?_⟩
 ·cases l with
  | nil => rfl
  | cons x l => obtain ⟨b, off, e, _⟩ := h3 0 (by simp); rw [q] at e; cases e
 have hj : j < l.length * k := by
  rcases kP j (l.length * k) with h | h
  ·exact h
  rw [gG (by rw [gJ T]; exact h)] at hu; cases hu
 have hk := T.pos
 have hi : j / k < l.length := Nat.div_lt_of_lt_mul (by rw [mD]; exact hj)
 obtain ⟨b, off, e, hx⟩ := h3 (j / k) hi
 rw [q] at e
 cases e
 have hm : j % k < k := mP _ hk
 have e2 : j / k * k + j % k = j := by rw [mD]; exact Nat.div_add_mod j k
 rw [qN]
 have := hA _ _ _ hx (j % k) u (by rw [← zI T l (j / k) hi (j % k) hm, e2]; exact hu)
 rw [yN, e2] at this
 exact this
end
section
variable {α : Type} {f : α → List Value} {k bytes : Nat} {st e : TypeId}
def vM (f : α → List Value) (e : TypeId) (k : Nat) (w : World) (base : Nat) (v : Value) (l : List α) : Prop :=
 ((∃ a, v = .slice a l.length l.length) ∧ iF k (lP f) w v l) ∨ aK f e k w base v l
theorem Lc (T : fA f k bytes st e) {w : World} {a : Option Addr} {l : List α} (h : iF k (lP f) w (.slice a l.length l.length) l) {ad : Addr} (c : Nat) {r : List α} (hr : hZ f w (some ad) r) (h0 : r ≠ [])
  (hb : (l.length + r.length) * bytes ≤ 140737488355328) (h63 : l.length + r.length ≤ 140737488355328) (ty : TypeId) :
  ∃ v' w', (Builtin.append_ #[st, st] ty #[.slice a l.length l.length, .slice (some ad) r.length c]).run Tryz.prog w = .ok v' w' ∧ aK f e k w' w.heap.size v' (l ++ r) ∧ w.grownBy w' none := by
 obtain ⟨i0, z, hi0, hz0, hz1, hz2, hz3⟩ := T.info
 have hk := T.pos
 have hr0 : 0 < r.length := oO.2 h0
 have hgr : ∀ (old : Nat), (w.drew.alloc (.cells ((aP f l).toArray ++ (aP f r).toArray ++ Builtin.zeroCells z.cells (grownCap w (l.length + r.length) old e - (l.length + r.length))) e)).ownsRow w.heap.size e k
    (.slice (some ⟨w.heap.size, 0, none⟩) (l.length + r.length) (grownCap w (l.length + r.length) old e)) (l.length + r.length) (aP f l ++ aP f r) ∧
   w.grownBy (w.drew.alloc (.cells ((aP f l).toArray ++ (aP f r).toArray ++ Builtin.zeroCells z.cells (grownCap w (l.length + r.length) old e - (l.length + r.length))) e)) none := by
  intro old
  have hge := grownCap_ge w (l.length + r.length) old e
  have hcm : grownCap w (l.length + r.length) old e ≤ maxLen := Km w (l.length + r.length) old e (by unfold maxLen; omega)
  have hlen : (aP f l ++ aP f r).length = (l.length + r.length) * k := by rw [bD, gJ T, gJ T, yK]
  refine ⟨⟨hlen, .inr ⟨w.heap.size, _, _, rfl, aQ _, heap_alloc_new w.drew _, hge, hcm, ?_, ?_⟩⟩, ⟨rfl, rfl, rfl, by simp, fun j hj _ => by rw [heap_alloc, aE (show ¬ j = w.drew.heap.size from Nat.ne_of_lt hj)]; rfl⟩⟩
  ·rw [Array.size_append, Array.size_append, lI, lI, size_zeroCells, hz3, gJ T, gJ T, ← yK, ← yK]
   exact bM (· * k) (Nat.add_sub_cancel' hge)
  simp only [Array.toList_append, eJ]
  rw [← eJ, ← hlen]
  exact DL
 rcases a with _ | b
 ·have hl : l = [] := by
   obtain ⟨a', cap', hv, h1, h2, h3⟩ := h
   simp only [fG] at hv
   obtain ⟨rfl, -, -⟩ := hv
   cases l with
   | nil => rfl
   | cons x l => obtain ⟨b, off, e, _⟩ := h3 0 (by simp); cases e
  subst hl
  have hrun := run_append_nil (P := Tryz.prog) w st ty e i0 z T.und hi0 hz0 ad r.length c (aP f r) (by rw [gJ T, hz1]) (hr.2 ad rfl) hr0 (by omega) (by
   rw [hz2]; simp only [lJ, iJ] at hb; omega)
  have := hgr 0
  simp only [lJ, iJ, aP, List.flatMap_nil, List.nil_append, Array.empty_append] at this hrun ⊢
  exact ⟨_, _, hrun, by unfold aK; exact this.1, this.2⟩
 have hs := iF.srcG T (fun _ _ _ h => h) h
 have hrun := run_append_grow (P := Tryz.prog) w st ty e i0 z T.und hi0 hz0 b l.length l.length (aP f l) (by rw [gJ T, hz1]) (hs.2 b rfl) ad r.length c (aP f r) (by rw [gJ T, hz1]) (hr.2 ad rfl) (by omega) (by omega) (growslice_fits (by omega) (by rw [hz2]; exact hb))
 have := hgr l.length
 exact ⟨_, _, hrun, by unfold aK; rw [pU, bD]; exact this.1, this.2⟩
theorem Ld (T : fA f k bytes st e) {w : World} {base : Nat} {v : Value} {l : List α} (h : vM f e k w base v l) {ad : Addr} (c : Nat) {r : List α} (hr : hZ f w (some ad) r) (h0 : r ≠ []) (hs : ∀ x ∈ r, ∀ u ∈ f x, u.oneCell' = true)
  (hb : (l.length + r.length) * bytes ≤ 140737488355328) (h63 : l.length + r.length ≤ 140737488355328) (hbase : base ≤ w.heap.size) (ty : TypeId) :
  ∃ v' w', (Builtin.append_ #[st, st] ty #[v, .slice (some ad) r.length c]).run Tryz.prog w = .ok v' w' ∧ aK f e k w' base v' (l ++ r) ∧ Below base w w' := by
 rcases h with ⟨⟨a, rfl⟩, h⟩ | h
 ·obtain ⟨v', w', h1, h2, h3⟩ := Lc T h c hr h0 hb h63 ty
  exact ⟨v', w', h1, h2.base hbase, ⟨h3.os, h3.tape, h3.output, h3.size, fun k hk => h3.block k (by omega) (by simp)⟩⟩
 obtain ⟨v', w', h1, h2, h3, -⟩ := zJ T h c hr hs hb h63 hbase ty
 exact ⟨v', w', h1, h2, ⟨h3.os, h3.tape, h3.output, h3.size, fun k hk => h3.block k (by omega) (fun q => by have := (h.block k q.symm).1; omega)⟩⟩
theorem BH (T : fA f k bytes st e) {w : World} {ops : Array Oper} {rest : List Oper} {o : Oper} {a : Act} {Q : Exit → Act → World → Prop} (hgd : o.guard = none) (s x : Operand)
  (ho : o.op = .call { callee := .builtin .append, args := #[s, x], argTypes := #[st, st] }) {base : Nat} {v : Value} {l : List α} (hs : a.eval s = v) (hown : vM f e k w base v l)
  {ad : Addr} {c : Nat} {r : List α} (hx : a.eval x = .slice (some ad) r.length c) (hr : hZ f w (some ad) r) (h0 : r ≠ []) (hsl : ∀ x ∈ r, ∀ u ∈ f x, u.oneCell' = true) (hb : (l.length + r.length) * bytes ≤ 140737488355328) (h63 : l.length + r.length ≤ 140737488355328) (hbase : base ≤ w.heap.size)
  (h : ∀ v' w', aK f e k w' base v' (l ++ r) → Below base w w' → wpList Tryz.prog ops Q rest (a.put o.dst v') w') : wpList Tryz.prog ops Q (o :: rest) a w :=
 sP hgd fun K hK => by
  obtain ⟨v', w', hrun, h2, h3⟩ := Ld T hown c hr h0 hsl hb h63 hbase o.type
  unfold Oper.wp execOp
  simp only [ho, resolve, invoke, builtin, qF, vB, qG, DK, dR, kT, hs, hx, hrun]
  exact hK _ _ (h v' w' h2 h3)
theorem iS (_T : fA f k bytes st e) {w : World} {B : Nat} {r : List α} {ty : TypeId} (hB : w.heap[B]? = some (.cells (aP f r).toArray ty (0, 0))) : hZ f w (some ⟨B, 0, none⟩) r := by
 refine ⟨fun q => (nomatch q), ?_⟩
 intro ad q j u hu
 cases q
 rw [qN, aD hB, iJ]
 simpa using hu
theorem iF.upd {w w' : World} {v : Value} {l : List α} (h : iF k (lP f) w v l) (T : fA f k bytes st e) {F : List Nat} (u : aB F w w') (hF : ∀ g, v.ownBlock = some g → g ∉ F) : iF k (lP f) w' v l := by
 obtain ⟨a, cap, rfl, h1, h2, h3⟩ := h
 refine ⟨a, cap, rfl, h1, h2, fun i hi => ?_⟩
 obtain ⟨b, off, rfl, hc⟩ := h3 i hi
 refine ⟨b, off, rfl, hc.same (u.block b ?_ (hF b rfl))⟩
 have hl := T.len l[i]
 have hk := T.pos
 have : (f l[i])[0]? = some (f l[i])[0] := bL (by omega)
 exact kX _ _ (hc 0 _ this)
end
abbrev c8 (b : UInt8) : List Value := [.int .u8 b.toNat]
theorem T8 : fA c8 1 1 23 5 where
 len := fun _ => rfl
 pos := by omega
 und := Tryz.underlying23
 info := by
  obtain ⟨i, h, h1, h2, h3⟩ := kD (show (Tryz.prog.info? 5).map (fun i => (i.zero, i.size, i.bytes)) = some (some (.int .u8 0), 1, 1) by kernel_rfl)
  exact ⟨i, _, h, h1, h2, h3, rfl⟩
theorem lQ (l : Bs) : ∀ x ∈ l, ∀ u ∈ c8 x, u.oneCell' = true := by
 intro x _ u hu
 simp only [c8, aJ, cA, cG] at hu
 subst hu; rfl
structure Rd (w : World) (v : Value) (l : Bs) : Prop where
 sl : iF 1 (lP c8) w v l
 nl : ∀ n c, v = .slice none n c → c = 0
abbrev Ow (w : World) (base : Nat) (v : Value) (l : Bs) : Prop := aK c8 5 1 w base v l
abbrev BI (w : World) (base : Nat) (v : Value) (l : Bs) : Prop := vM c8 5 1 w base v l
theorem Rd.rdy {w : World} {a : Option Addr} {n c : Nat} {l : Bs} (h : Rd w (.slice a n c) l) (base : Nat) : BI w base (.slice a n n) l := by
 obtain ⟨⟨a', c', hv, h1, h2, h3⟩, -⟩ := h
 simp only [fG] at hv
 obtain ⟨rfl, rfl, rfl⟩ := hv
 exact .inl ⟨⟨a, rfl⟩, a, _, rfl, aQ _, bG h1 h2, h3⟩
theorem Ow.rd {w : World} {base : Nat} {v : Value} {l : Bs} (h : Ow w base v l) : Rd w v l := ⟨aK.sl T8 h, fun n c e => by
 rcases h.2 with ⟨h, -⟩ | ⟨g, cap, cur, h, -⟩
 ·rw [h] at e; cases e; rfl
 rw [h] at e; cases e⟩
theorem Rd.upd {w w' : World} {v : Value} {l : Bs} (h : Rd w v l) {F : List Nat} (u : aB F w w') (hF : ∀ g, v.ownBlock = some g → g ∉ F) : Rd w' v l := ⟨iF.upd h.sl T8 u hF, h.nl⟩
theorem Rd.keep {w w' : World} {v : Value} {l : Bs} (h : Rd w v l) (u : aB [] w w') : Rd w' v l := h.upd u (by simp)
theorem Rd.src {w : World} {a : Option Addr} {n c : Nat} {l : Bs} (h : Rd w (.slice a n c) l) : hZ c8 w a l := iF.srcG T8 (fun _ _ _ h => h) h.sl
theorem Rd.slice {w : World} {v : Value} {l : Bs} (h : Rd w v l) : ∃ a c, v = .slice a l.length c ∧ l.length ≤ c ∧ c ≤ 9223372036854775807 ∧ (a = none → l.length = 0 ∧ c = 0) := by
 obtain ⟨⟨a, c, rfl, h1, h2, h3⟩, h4⟩ := h
 refine ⟨a, c, rfl, h1, by unfold maxLen at h2; omega, fun e => ?_⟩
 subst e
 have := h4 _ _ rfl
 omega
theorem uF (l : Bs) : aP c8 l = l.map fun b => .int .u8 b.toNat := by
 induction l with
 | nil => rfl
 | cons b l ih => simp only [aP, jT, dR, c8] at ih ⊢; rw [ih]; rfl
theorem Rd.nil (w : World) : Rd w (.slice none 0 0) [] := ⟨⟨none, 0, rfl, aQ _, by unfold maxLen; omega, fun i hi => absurd hi (by simp)⟩, fun n c e => by cases e; rfl⟩
theorem Rd.cell {w : World} {a : Option Addr} {n c : Nat} {l : Bs} (h : Rd w (.slice a n c) l) : n = l.length ∧ n ≤ c ∧ c ≤ maxLen ∧ (0 < n → ∃ b off, a = some ⟨b, off, none⟩ ∧ ∀ i (hi : i < l.length), w.cell? ⟨b, off + i, none⟩ = some (.int .u8 l[i].toNat)) := by
 obtain ⟨⟨a', c', hv, h1, h2, h3⟩, -⟩ := h
 simp only [fG] at hv
 obtain ⟨rfl, rfl, rfl⟩ := hv
 refine ⟨rfl, h1, h2, fun h0 => ?_⟩
 obtain ⟨b, off, rfl, -⟩ := h3 0 h0
 refine ⟨b, off, rfl, fun i hi => ?_⟩
 obtain ⟨b', off', e, hc⟩ := h3 i hi
 cases e
 have := hc 0 _ rfl
 simpa using this
theorem vM.keep {α : Type} {f : α → List Value} {k bytes : Nat} {st e : TypeId} (T : fA f k bytes st e) {w w' : World} {base : Nat} {v : Value} {l : List α} (h : vM f e k w base v l) (u : aB [] w w') : vM f e k w' base v l := by
 rcases h with ⟨h1, h2⟩ | h
 ·exact .inl ⟨h1, iF.upd h2 T u (by simp)⟩
 exact .inr (h.upd u (by simp))
theorem aX (w : World) (o : Obj) : (w.alloc o).heap[w.heap.size]? = some o := by rw [heap_alloc, aF rfl]
theorem EU (w : World) {x : Int} {b : UInt8} (h : x = b.toNat) (ty : TypeId) : hZ c8 (w.alloc (.cells #[.int .u8 x] ty)) (some ⟨w.heap.size, 0, none⟩) [b] :=
 iS T8 (by subst h; exact aX _ _)
theorem BJ {k : IntKind} (hw : ∀ x : Nat, x < 2 ^ k.bits → k.wrap (x : Int) = x) {a b : Nat} (ha : a < 2 ^ k.bits) (hb : b < 2 ^ k.bits) :
  bits .or k (a : Int) (b : Int) = ((a ||| b : Nat) : Int) ∧ bits .and k (a : Int) (b : Int) = ((a &&& b : Nat) : Int) ∧ bits .xor k (a : Int) (b : Int) = ((a ^^^ b : Nat) : Int) := by
 have h1 : (BitVec.ofInt k.bits (a : Int)).toNat = a := by rw [BitVec.ofInt_natCast, BitVec.toNat_ofNat]; exact tO ha
 have h2 : (BitVec.ofInt k.bits (b : Int)).toNat = b := by rw [BitVec.ofInt_natCast, BitVec.toNat_ofNat]; exact tO hb
 refine ⟨?_, ?_, ?_⟩
 ·show k.wrap ((BitVec.ofInt k.bits (a : Int) ||| BitVec.ofInt k.bits (b : Int)).toNat : Int) = _
  rw [BitVec.toNat_or, h1, h2, hw _ (yO ha hb)]
 ·show k.wrap ((BitVec.ofInt k.bits (a : Int) &&& BitVec.ofInt k.bits (b : Int)).toNat : Int) = _
  rw [BitVec.toNat_and, h1, h2, hw _ (Nat.and_lt_two_pow _ hb)]
 show k.wrap ((BitVec.ofInt k.bits (a : Int) ^^^ BitVec.ofInt k.bits (b : Int)).toNat : Int) = _
 rw [BitVec.toNat_xor, h1, h2, hw _ (wI ha hb)]
theorem EV {a b : Nat} (ha : a < 256) (hb : b < 256) : bits .or .u8 (a : Int) (b : Int) = ((a ||| b : Nat) : Int) ∧ bits .and .u8 (a : Int) (b : Int) = ((a &&& b : Nat) : Int) ∧ bits .xor .u8 (a : Int) (b : Int) = ((a ^^^ b : Nat) : Int) :=
 BJ (k := .u8) (fun x hx => by rw [IntKind.wrap_u8]; have : x < 256 := hx; omega) ha hb
theorem oZ {a b : Nat} (ha : a < 4294967296) (hb : b < 4294967296) : bits .or .u32 (a : Int) (b : Int) = ((a ||| b : Nat) : Int) ∧ bits .and .u32 (a : Int) (b : Int) = ((a &&& b : Nat) : Int) ∧ bits .xor .u32 (a : Int) (b : Int) = ((a ^^^ b : Nat) : Int) :=
 BJ (k := .u32) (fun x hx => by rw [Ed]; have : x < 4294967296 := hx; omega) ha hb
theorem Le {a b : Nat} (ha : a < 18446744073709551616) (hb : b < 18446744073709551616) : bits .or .u64 (a : Int) (b : Int) = ((a ||| b : Nat) : Int) ∧ bits .and .u64 (a : Int) (b : Int) = ((a &&& b : Nat) : Int) ∧ bits .xor .u64 (a : Int) (b : Int) = ((a ^^^ b : Nat) : Int) :=
 BJ (k := .u64) (fun x hx => by rw [nU]; have : x < 18446744073709551616 := hx; omega) ha hb
theorem lA {α : Type} {f : α → List Value} {k bytes : Nat} {st e : TypeId} (T : fA f k bytes st e) {ops : Array Oper} {o : Oper} {a : Act} {w : World} {K : Act → World → Prop} {Q : Exit → Act → World → Prop} {E : Prop}
  (hgd : o.guard = none) (s x : Operand) (ho : o.op = Op.call { callee := Callee.builtin Builtin.append, args := #[s, x], argTypes := #[st, st] }) {base : Nat} {v : Value} {l : List α} (hs : a.eval s = v) (hown : aK f e k w base v l)
  {A : Option Addr} {c : Nat} {r : List α} (hx : a.eval x = .slice A r.length c) (hr : hZ f w A r) (hsl : ∀ x ∈ r, ∀ u ∈ f x, u.oneCell' = true) (hb : (l.length + r.length) * bytes ≤ 140737488355328) (h63 : l.length + r.length ≤ 140737488355328) (hbase : base ≤ w.heap.size)
  (hK : ∀ v' w', aK f e k w' base v' (l ++ r) → w.grownBy w' v.ownBlock → (v'.ownBlock = v.ownBlock ∨ ∀ g, v'.ownBlock = some g → w.heap.size ≤ g) → K (a.put o.dst v') w') :
  if Region.wanted o (yielded ops a.tmps) = true then Oper.wp Tryz.prog o a w K Q else E := by
 have hw : Region.wanted o (yielded ops a.tmps) = true := by simp [Region.wanted, hgd]
 obtain ⟨v', w', hrun, h2, h3, h4⟩ := zJ T hown c hr hsl hb h63 hbase o.type
 rw [aF hw]
 unfold Oper.wp
 simp [execOp, ho, resolve, invoke, builtin, hs, hx, hrun, Result.andThen]
 exact hK _ _ h2 h3 h4
theorem cN {w w' : World} (u : aB [] w w') {b0 o0 : Nat} {v0 : Value} (h : w.cell? ⟨b0, o0, none⟩ = some v0) : w'.cell? ⟨b0, o0, none⟩ = some v0 := eQ u h
theorem iT {w w' : World} (u : aB [] w w') {b0 o0 b1 o1 : Nat} {v0 v1 : Value} (h : w.cell? ⟨b0, o0, none⟩ = some v0 ∧ w.cell? ⟨b1, o1, none⟩ = some v1) : w'.cell? ⟨b0, o0, none⟩ = some v0 ∧ w'.cell? ⟨b1, o1, none⟩ = some v1 := ⟨eQ u h.1, eQ u h.2⟩
end Go.Proofs.YtgpefiacbipfpaaGreatDoor
