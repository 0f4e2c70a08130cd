/- Mounted: behind a crash a file system is mounted, however often the device goes down in that. -/
import Derived.Test.YtgpefiacbipfpaaGreatDoorC32
set_option maxRecDepth 100000
set_option maxHeartbeats 4000000
namespace Go.Proofs.YtgpefiacbipfpaaGreatDoor
open Go.RowKit Go.Maps
theorem QY (w0 w : World) {p room : Nat} {P : aG → Prop} {c : Nat} {G : List Nat} (h : Dv w0 w p room P c G) (hc : c ≤ 900000) (n : Int) (hn : rF n) {qa : Option Addr} {ql qc : Nat} {picks : List Int} (hp : uJ w0 (.slice qa ql qc) picks) (hpk : ∀ x ∈ picks, -9223372036854775808 ≤ x ∧ x ≤ 9223372036854775807) (hpo : picks ≠ [] → ∀ b, (Value.slice qa ql qc).ownBlock = some b → b < w0.heap.size) :
  Calls Tryz.prog 65 #[.pointer (some ⟨p, 0, none⟩), .int .i64 n, .slice qa ql qc] w fun r w' => ∃ v : Nat, r = .returned (.pointer (some ⟨v, 0, none⟩)) ∧ ∃ fs : aG, P fs ∧ Lv w0 w' v p room fs fs (c + 6) G ∧ bT G w w' := by
 have HCR := aA fun (X : World) (c' : Nat) (h : Dv w0 X p room P c' G) (hc : c' ≤ 1000000) => h.crash hc (hp.keep TZ h.upd) hpk (fun q b hb => .inr (hpo q b hb))
 have HP := aA fun X : World => QV n 40 X hn.1 hn.2 (by omega) (by omega)
 have H := aA h
 clear hp hpk hpo h hn
 go_in
 go_wp2_with fail
 refine (HCR.out _ _ H.out (by omega)).mono ?_
 rintro r w1 ⟨rfl, hcr1, hst1⟩
 have H1 := aA (aC hcr1 hst1)
 clear hcr1 hst1
 go_wp2_with fail
 go_loopg [7, 8, 9] 4 (fun gh v7 v8 v9 wr => ∃ (i c' : Nat), v7 = .int .i64 i ∧ i ≤ 4 ∧ gh = 4 - i ∧ c' ≤ c + i ∧ Hid (sJ w0 wr p room P true c' G ∧ bT G w wr))
 case atStart => exact ⟨0, c, rfl, by omega, rfl, by omega, H1⟩
 case round =>
  obtain ⟨i, c', rfl, hi, rfl, hc', HS⟩ := hrel
  by_cases hi4 : i < 4
  ·have hi4' : (i : Int) < 4 := by omega
   have HFu := aA fun (m : Int) (hm : rF m) => HS.out.1.fuse m hm
   go_wp2_with fail
   refine (HP.out _).mono ?_
   rintro r w2 ⟨⟨rr, rfl, hr0, hr1⟩, rfl⟩
   have hm0 : 0 ≤ rr * ((i : Int) + 1) := Int.mul_nonneg hr0 (by omega)
   have hm1 : rr * ((i : Int) + 1) ≤ 40 * 4 := Int.mul_le_mul (by omega) (by omega) (by omega) (by omega)
   go_wp2_with fail
   refine (HFu.out _ ⟨by omega, by omega⟩).mono ?_
   rintro r w3 ⟨rfl, hcr3, hst3⟩
   have HMo := aA (hcr3.mount (by omega))
   have HS3 := aA (HS.out.2.trans hst3)
   clear hcr3 hst3 hm0 hm1 HFu
   go_wp2_with fail
   refine HMo.out.mono ?_
   rintro r w4 (⟨v4, fs4, rfl, hP4, hl4, hst4, -⟩ | ⟨-, rfl, hdv4, hst4⟩)
   ·have HFu := aA (hl4.fuse (-1) ⟨by omega, by omega⟩)
    have HS4 := aA (aC hP4 (HS3.out.trans hst4))
    clear hl4 hP4 hst4 HMo HS3
    go_wp2_with fail
    refine HFu.out.mono ?_
    rintro r w5 ⟨rfl, -, hst5, hlv5⟩
    have H5 := aA ((hlv5 (by omega)).more (c' := c + 6) (by omega))
    have HS5 := aA (HS4.out.2.trans hst5)
    clear hst5 hlv5 HFu
    go_wp2_with fail
    go_ret
    exact ⟨v4, rfl, fs4, HS4.out.1, H5.out, HS5.out⟩
   have HCr := aA (HCR.out _ _ hdv4 (by omega))
   have HS4 := aA (HS3.out.trans hst4)
   clear hdv4 hst4 HMo HS3
   go_wp2_with fail
   refine HCr.out.mono ?_
   rintro r w5 ⟨rfl, hcr5, hst5⟩
   have H5 := aA (aC hcr5 (HS4.out.trans hst5))
   clear hcr5 hst5 HCr HS4
   go_wp2_with fail
   go_roundg (4 - (i + 1))
   case measure => omega
   case rel => exact ⟨i + 1, c' + 1, by go_num, by omega, rfl, by omega, H5⟩
  have hi4' : ¬ (i : Int) < 4 := by omega
  have HMo := aA (HS.out.1.mount (by omega))
  go_wp2_with fail
  refine HMo.out.mono ?_
  rintro r w4 (⟨v4, fs4, rfl, hP4, -, hst4, hl4⟩ | ⟨q, -⟩)
  ·have H4 := aA (aC hP4 (aC ((hl4 trivial).more (c' := c + 6) (by omega)) (HS.out.2.trans hst4)))
   clear hl4 hP4 hst4 HMo
   go_wp2_with fail
   go_ret
   exact ⟨v4, rfl, fs4, H4.out⟩
  cases q
theorem Lv.apd {w0 w : World} {v p room : Nat} {fs last : aG} {c : Nat} {G : List Nat} (h : Lv w0 w v p room fs last c G) (hs : ∀ b ∈ bH last, b ∈ bH fs) {nm : Bs} {f : bO} (hg : bF fs nm = some f) {d : Bs} (hm : f.data.length + d.length ≤ 32768) {m : Nat} (hk : ∀ q ∈ fs, q.2.data.length ≤ 512 * m) (hb : m * fs.length + rD f d.length ≤ room) :
  lE room fs last nm d.length = 0 ∧ ∃ g : bO, g.data = f.data ++ d ∧ xX room fs last nm d = cQ bQ fs nm g := by
 obtain ⟨l, k, s, hi⟩ := h.inv
 have hle := IL hi.now hk
 have hc := h.app_code hs hg (n := d.length) hm (by omega)
 refine ⟨hc, tJ room fs last f d, QU _ _ _ _ _, ?_⟩
 unfold xX
 rw [aF hc]
 unfold uS
 rw [hg]
theorem IM (f : bO) (n : Nat) : rD f n ≤ n / 512 + 1 := by unfold rD bP; omega
theorem Lv.readAll {w0 w : World} {v p room : Nat} {fs last : aG} {c : Nat} {G : List Nat} {f : bO} (h : Lv w0 w v p room fs last c G) (hc : c ≤ 1000000) (nm : ByteArray) (hs : nm.size ≤ maxLen) (hg : bF fs nm.data.toList = some f) (n : Nat) (hn : f.data.length ≤ n) :
  Calls Tryz.prog 56 #[.pointer (some ⟨v, 0, none⟩), .string nm, .int .i64 0, .int .i64 (n : Int)] w fun r w' => ∃ rv, r = .returned (.tuple #[rv, .int .i64 0]) ∧ Ow w' w.heap.size rv f.data ∧ Lv w0 w' v p room fs last c (rv.ownBlock.toList ++ G) ∧ bT G w w' := by
 have hcR : fW fs nm.data.toList 0 n = 0 := by unfold fW; rw [hg]; dsimp only; rw [aE (by omega)]
 have hdR : oF fs nm.data.toList 0 n = f.data := by unfold oF; rw [hg]; dsimp only; rw [show (0 : Int).toNat = 0 from rfl, tW, dY (by simp only [oP]; exact hn)]
 refine (h.read hc nm hs 0 n).mono fun r w' ⟨rv, e, ho, _, hl, hst⟩ => ?_
 rw [hcR] at e ho
 rw [hdR] at ho
 exact ⟨rv, e, ho rfl, hl, hst⟩
structure gP (fs : aG) (m : Nat → Option Bs) : Prop where
 at_ : ∀ i, i < 100 → (bF fs (bW i)).map bO.data = m i
 only : ∀ nm, bF fs nm ≠ none → ∃ i, i < 100 ∧ nm = bW i
def fK (m : Nat → Option Bs) (i : Nat) (x : Option Bs) : Nat → Option Bs := fun j => if j = i then x else m j
theorem gP.get {fs : aG} {m : Nat → Option Bs} (h : gP fs m) {i : Nat} (hi : i < 100) {d : Bs} (hm : m i = some d) : ∃ f, bF fs (bW i) = some f ∧ f.data = d := by
 have := h.at_ i hi
 rw [hm] at this
 cases hg : bF fs (bW i) with
 | none => rw [hg] at this; cases this
 | some f => rw [hg] at this; exact ⟨f, rfl, mQ this⟩
theorem gP.none {fs : aG} {m : Nat → Option Bs} (h : gP fs m) {i : Nat} (hi : i < 100) (hm : m i = none) : bF fs (bW i) = none := by
 have := h.at_ i hi
 rw [hm] at this
 cases hg : bF fs (bW i) with
 | none => rfl
 | some f => rw [hg] at this; cases this
theorem gP.put {fs : aG} {m : Nat → Option Bs} (h : gP fs m) (hs : cP bQ fs) {i : Nat} (hi : i < 100) (g : bO) : gP (cQ bQ fs (bW i) g) (fK m i (some g.data)) where
 at_ := fun j hj => by
  rw [pS dD hs]
  unfold fK
  by_cases e : j = i
  ·rw [aF e, aF (by rw [e])]; rfl
  rw [aE e, aE fun q => e (Bq hj hi q.symm)]
  exact h.at_ j hj
 only := fun nm hn => by
  rw [pS dD hs] at hn
  by_cases e : bW i = nm
  ·exact ⟨i, hi, e.symm⟩
  rw [aE e] at hn; exact h.only nm hn
theorem gP.del {fs : aG} {m : Nat → Option Bs} (h : gP fs m) {i : Nat} (hi : i < 100) : gP (dJ fs (bW i)) (fK m i yS) where
 at_ := fun j hj => by
  rw [EI]
  unfold fK
  by_cases e : j = i
  ·rw [aF e, aF (by rw [e])]; rfl
  rw [aE e, aE fun q => e (Bq hj hi q.symm)]
  exact h.at_ j hj
 only := fun nm hn => by
  rw [EI] at hn
  by_cases e : bW i = nm
  ·exact ⟨i, hi, e.symm⟩
  rw [aE e] at hn; exact h.only nm hn
theorem gP.ext {fs : aG} {m k : Nat → Option Bs} (h : gP fs m) (e : ∀ i, i < 100 → m i = k i) : gP fs k := ⟨fun i hi => by rw [← e i hi]; exact h.at_ i hi, h.only⟩
theorem QZ : ∀ (n : Nat) (l : List Bs), l.Nodup → (∀ x ∈ l, ∃ i, i < n ∧ x = bW i) → l.length ≤ n := by
 intro n
 induction n with
 | zero =>
  intro l _ h
  cases l with
  | nil => simp
  | cons x l => obtain ⟨i, hi, -⟩ := h x (by simp); omega
 | succ n ih =>
  intro l hnd h
  by_cases hm : bW n ∈ l
  ·have := ih (l.erase (bW n)) (hnd.erase _) fun x hx => by
    obtain ⟨hx1, hx2⟩ := (List.Nodup.mem_erase_iff hnd).1 hx
    obtain ⟨i, hi, rfl⟩ := h x hx2
    exact ⟨i, by rcases kP i n with q | q; · exact q
                 ·obtain rfl : i = n := by omega
                  exact absurd rfl hx1, rfl⟩
   rw [Kh hm] at this
   omega
  have := ih l hnd fun x hx => by
   obtain ⟨i, hi, rfl⟩ := h x hx
   exact ⟨i, by rcases kP i n with q | q; · exact q
                ·obtain rfl : i = n := by omega
                 exact absurd hx hm, rfl⟩
  omega
theorem gP.len {fs : aG} {m : Nat → Option Bs} (h : gP fs m) (hs : cP bQ fs) (n : Nat) (hm : ∀ i, n ≤ i → i < 100 → m i = yS) : fs.length ≤ n := by
 have hnd : (fs.map (·.1)).Nodup := by
  rw [List.Nodup, wP]
  refine List.Pairwise.imp ?_ hs
  intro a b hab e
  rw [e] at hab
  have := dD.irrefl b.1
  rw [show bQ b.1 b.1 = true from hab] at this
  cases this
 have := QZ n (fs.map (·.1)) hnd fun x hx => by
  obtain ⟨p, hp, rfl⟩ := cV.1 hx
  have hg := mW dD hs hp
  obtain ⟨i, hi, e⟩ := h.only p.1 (by rw [hg]; simp)
  refine ⟨i, ?_, e⟩
  rcases kP i n with q | q
  ·exact q
  have := h.none hi (hm i q hi)
  rw [← e, hg] at this
  cases this
 rwa [dF] at this
theorem Ra : gP [] fun _ => yS := ⟨fun _ _ => rfl, fun nm h => absurd rfl h⟩
def cO (ds : List Bs) : Nat → Option Bs := fun i => ds[i]?
theorem IN (ds : List Bs) (d : Bs) : fK (cO ds) ds.length (some d) = cO (ds ++ [d]) := by
 funext i
 unfold fK cO
 by_cases e : i = ds.length
 ·rw [aF e, e, oN (aQ _)]; simp
 rw [aE e]
 rcases kP i ds.length with q | q
 ·rw [kQ q]
 rw [gG q, gG (by simp; omega)]
theorem Rb (ds : List Bs) (x d : Bs) : fK (cO (ds ++ [x])) ds.length (some d) = cO (ds ++ [d]) := by
 funext i
 unfold fK cO
 by_cases e : i = ds.length
 ·rw [aF e, e, oN (aQ _)]; simp
 rw [aE e]
 rcases kP i ds.length with q | q
 ·rw [kQ q, kQ q]
 rw [gG (by simp; omega), gG (by simp; omega)]
theorem Rc {fs : aG} {nm : Bs} (hs : cP bQ fs) : ∀ b, b ∈ bH fs → b ∈ bH (uT fs nm) := by
 intro b hb
 unfold uT
 by_cases hc : iI false fs nm = 0
 ·rw [aF hc]
  have hg := (ID hc).2.1
  obtain ⟨p, hp, hpb⟩ := lK.1 hb
  refine lK.2 ⟨p, eU (k := p.1) (x := p.2) ?_, hpb⟩
  rw [pS dD hs, aE, mW dD hs hp]
  intro e
  rw [e, mW dD hs hp] at hg
  cases hg
 rw [aE hc]; exact hb
theorem Re {l : Nat → aL} {room k s : Nat} {fs last : aG} (h : eY l room k s fs last) : room ≤ nP room fs last + (bH fs).length + (bH last).length := by
 have h1 := h.count
 have h2 := AY (fun b => !decide (b ∈ bH last)) (bH fs)
 omega
structure cU (w0 w : World) (v p room : Nat) (m ml : Nat → Option Bs) (c : Nat) (G : List Nat) : Prop where
 ex : ∃ fs last, Lv w0 w v p room fs last c G ∧ gP fs m ∧ gP last ml ∧ ∀ b ∈ bH last, b ∈ bH fs
section
variable {w0 w w' : World} {v p room c : Nat} {m ml : Nat → Option Bs} {G : List Nat}
theorem cU.upd (h : cU w0 w v p room m ml c G) : aB [] w0 w := by
 obtain ⟨fs, last, h1, -⟩ := h.ex
 exact h1.upd
theorem cU.keep (h : cU w0 w v p room m ml c G) (u : aB [] w w') : cU w0 w' v p room m ml c G := by
 obtain ⟨fs, last, h1, h2⟩ := h.ex
 exact ⟨fs, last, h1.keep u, h2⟩
theorem cU.more {c' : Nat} (h : cU w0 w v p room m ml c G) (hc : c ≤ c') : cU w0 w v p room m ml c' G := by
 obtain ⟨fs, last, h1, h2⟩ := h.ex
 exact ⟨fs, last, h1.more hc, h2⟩
theorem cU.lt (h : cU w0 w v p room m ml c G) : ∀ i ∈ G, i < w.heap.size := by
 obtain ⟨fs, last, h1, h2⟩ := h.ex
 exact h1.lt
theorem cU.guardF (h : cU w0 w v p room m ml c G) {F : List Nat} (u : aB F w w') (hF : ∀ i ∈ F, i ∈ G ∧ w0.heap.size ≤ i) {G' : List Nat} (hg : ∀ b ∈ G', w.heap.size ≤ b ∧ b < w'.heap.size) : cU w0 w' v p room m ml c (G' ++ G) := by
 obtain ⟨fs, last, h1, h2⟩ := h.ex
 exact ⟨fs, last, h1.guardF u hF hg, h2⟩
theorem cU.guard (h : cU w0 w v p room m ml c G) (u : aB [] w w') {G' : List Nat} (hg : ∀ b ∈ G', w.heap.size ≤ b ∧ b < w'.heap.size) : cU w0 w' v p room m ml c (G' ++ G) := h.guardF u (by simp) hg
theorem cU.create (h : cU w0 w v p room m ml c G) {i : Nat} (hm : ∀ j, i ≤ j → j < 100 → m j = none) (hi : i < 64) :
  Calls Tryz.prog 11 #[.pointer (some ⟨v, 0, none⟩), .string (eK i)] w fun r w' => r = .returned (.int .i64 0) ∧ cU w0 w' v p room (fK m i (some [])) ml c G ∧ bT G w w' := by
 obtain ⟨fs, last, h1, h2, h3, h4⟩ := h.ex
 obtain ⟨l, k, s, hi'⟩ := h1.inv
 have hg := h2.none (i := i) (by omega) (hm i (aQ _) (by omega))
 have hl := h2.len hi'.now.srt i hm
 have hc : iI false fs (eK i).data.toList = 0 := by
  have := wR i
  unfold iI
  rw [jV, aE Bool.false_ne_true, aE (by omega), aE (by rw [hg]; simp), aE (by omega)]
 refine (h1.create (eK i) (rQ i)).mono fun r w' ⟨e, hl', hst⟩ => ⟨by rw [e, hc]; rfl, ⟨_, last, hl', ?_, h3, fun b hb => Rc hi'.now.srt b (h4 b hb)⟩, hst⟩
 unfold uT
 rw [aF hc]
 exact h2.put hi'.now.srt (by omega) pT
theorem cU.append (h : cU w0 w v p room m ml c G) (hc : c ≤ 1000000) {i n : Nat} (hi : i < 100) {x : Bs} (hx : m i = some x) {dv : Value} {d : Bs} (hd : Rd w dv d) (hdo : d ≠ [] → ∀ g, dv.ownBlock = some g → g ∈ G ∨ g < w0.heap.size) (hm : ∀ j y, j < 100 → m j = some y → j < n ∧ y.length ≤ 8192) (hb : 16 * n + d.length / 512 + 1 ≤ room) (hxd : x.length + d.length ≤ 32768) :
  Calls Tryz.prog 13 #[.pointer (some ⟨v, 0, none⟩), .string (eK i), dv] w fun r w' => r = .returned (.int .i64 0) ∧ cU w0 w' v p room (fK m i (some (x ++ d))) ml (c + 1) G ∧ bT G w w' := by
 obtain ⟨fs, last, h1, h2, h3, h4⟩ := h.ex
 obtain ⟨l, k, s, hi'⟩ := h1.inv
 obtain ⟨f, hg, rfl⟩ := h2.get hi hx
 have hlen := h2.len hi'.now.srt n fun j hj hj2 => by
  cases hmj : m j with
  | none => rfl
  | some y => have := (hm j y hj2 hmj).1; omega
 have hk : ∀ q ∈ fs, q.2.data.length ≤ 512 * 16 := fun q hq => by
  have hgq := mW dD hi'.now.srt hq
  obtain ⟨j, hj, e⟩ := h2.only q.1 (by rw [hgq]; simp)
  have := h2.at_ j hj
  rw [← e, hgq] at this
  have := (hm j _ hj this.symm).2
  omega
 have hn := IM f d.length
 obtain ⟨hcode, g, hgd, hap⟩ := h1.apd h4 hg (d := d) hxd (m := 16) hk (by omega)
 refine (h1.append hc (eK i) (rQ i) hd hdo (by omega)).mono fun r w' ⟨e, hl', hst⟩ => ⟨by rw [e, jV, hcode]; rfl, ⟨_, last, hl', ?_, h3, ?_⟩, hst⟩
 ·rw [jV, hap, ← hgd]
  exact h2.put hi'.now.srt hi g
 intro b hb'
 unfold xX
 rw [jV, aF hcode]
 unfold uS
 rw [hg]
 exact QS hi'.now hg (QT _ _ _ _ _) b (h4 b hb')
theorem cU.sync (h : cU w0 w v p room m ml c G) (hc : c ≤ 1000000) :
  Calls Tryz.prog 14 #[.pointer (some ⟨v, 0, none⟩)] w fun r w' => r = .returned (.int .i64 0) ∧ cU w0 w' v p room m m (c + 1) G ∧ bT G w w' := by
 obtain ⟨fs, last, h1, h2, h3, h4⟩ := h.ex
 exact (h1.sync hc).mono fun r w' ⟨e, hl', hst⟩ => ⟨e, ⟨_, _, hl', h2, h2, fun b hb => hb⟩, hst⟩
theorem cU.size (h : cU w0 w v p room m ml c G) {i : Nat} (hi : i < 100) :
  Calls Tryz.prog 54 #[.pointer (some ⟨v, 0, none⟩), .string (eK i)] w fun r w' => r = .returned (match m i with | some d => .tuple #[.int .i64 d.length, .int .i64 0] | none => .tuple #[.int .i64 0, .int .i64 80]) ∧ cU w0 w' v p room m ml c G ∧ bT G w w' := by
 obtain ⟨fs, last, h1, h2, h3, h4⟩ := h.ex
 refine (h1.size (eK i) (rQ i)).mono fun r w' ⟨e, hl', hst⟩ => ⟨?_, ⟨_, _, hl', h2, h3, h4⟩, hst⟩
 rw [e]
 unfold rE
 rw [jV]
 cases hm : m i with
 | none => rw [h2.none hi hm]; rfl
 | some d => obtain ⟨f, hg, rfl⟩ := h2.get hi hm; rw [hg]; rfl
theorem cU.read (h : cU w0 w v p room m ml c G) (hc : c ≤ 1000000) {i : Nat} (hi : i < 100) {d : Bs} (hm : m i = some d) :
  Calls Tryz.prog 56 #[.pointer (some ⟨v, 0, none⟩), .string (eK i), .int .i64 0, .int .i64 d.length] w fun r w' => ∃ rv, r = .returned (.tuple #[rv, .int .i64 0]) ∧ Ow w' w.heap.size rv d ∧ cU w0 w' v p room m ml c (rv.ownBlock.toList ++ G) ∧ bT G w w' := by
 obtain ⟨fs, last, h1, h2, h3, h4⟩ := h.ex
 obtain ⟨f, hg, rfl⟩ := h2.get hi hm
 exact (h1.readAll hc (eK i) (rQ i) hg f.data.length (aQ _)).mono fun r w' ⟨rv, e, ho, hl, hst⟩ => ⟨rv, e, ho, ⟨_, _, hl, h2, h3, h4⟩, hst⟩
end
end Go.Proofs.YtgpefiacbipfpaaGreatDoor
namespace Go.Proofs.YtgpefiacbipfpaaGreatDoor
open Go.RowKit
theorem Rd.upd1 {w w' : World} {v : Value} {l : Bs} (h : Rd w v l) {F : List Nat} (u : aB F w w') (hF : l ≠ [] → ∀ g, v.ownBlock = some g → g ∉ F) : Rd w' v l := by
 by_cases hl : l = []
 ·subst hl
  obtain ⟨⟨a, c, hv, h1, h2, h3⟩, h4⟩ := h
  exact ⟨⟨a, c, hv, h1, h2, fun i hi => absurd hi (by simp)⟩, h4⟩
 exact h.upd u (hF hl)
theorem Rd.blk_lt {w : World} {v : Value} {l : Bs} (h : Rd w v l) (hl : l ≠ []) {g : Nat} (hg : v.ownBlock = some g) : g < w.heap.size := by
 obtain ⟨a, c, rfl, h1, h2, h3⟩ := h.slice
 have hp := oO.2 hl
 obtain ⟨-, -, -, hcell⟩ := h.cell
 obtain ⟨b, off, rfl, hc⟩ := hcell hp
 cases hg
 exact kX _ _ (hc 0 hp)
theorem aB.ofGrown {w w' : World} {row : Option Nat} (h : w.grownBy w' row) : aB row.toList w w' :=
 ⟨h.os, h.output, h.size, fun k hk hn => h.block k hk fun e => hn (by rw [← e]; simp)⟩
structure dP (w : World) (base : Nat) (fv : Value) (L : List aO) : Prop where
 own : qR w base fv L
 dat : ∀ x ∈ L, Rd w x.dv x.d
 sep : ∀ x ∈ L, x.d ≠ [] → ∀ g, x.dv.ownBlock = some g → base ≤ g ∧ fv.ownBlock ≠ some g
def uU (x : aO) : List Nat := if x.d = [] then [] else x.dv.ownBlock.toList
def eS (fv : Value) (L : List aO) : List Nat := fv.ownBlock.toList ++ L.flatMap uU
theorem yA {x : aO} {g : Nat} : g ∈ uU x ↔ x.d ≠ [] ∧ x.dv.ownBlock = some g := by
 unfold uU
 split
 ·rename_i h; simp [h]
 rename_i h; simp [h]
theorem eF {fv : Value} {L : List aO} {g : Nat} : g ∈ eS fv L ↔ fv.ownBlock = some g ∨ ∃ x ∈ L, x.d ≠ [] ∧ x.dv.ownBlock = some g := by
 unfold eS
 simp only [bK, lK, yA]
 simp
section
variable {w w' : World} {base : Nat} {fv fv' : Value} {L R : List aO}
theorem dP.nil (w : World) (base : Nat) : dP w base (.slice none 0 0) [] := ⟨aK.nil _ _, by simp, by simp⟩
theorem dP.low {b : Nat} (h : dP w base fv L) (hb : b ≤ base) : dP w b fv L := ⟨h.own.base hb, h.dat, fun x hx hd g hg => ⟨bG hb (h.sep x hx hd g hg).1, (h.sep x hx hd g hg).2⟩⟩
theorem dP.upd (h : dP w base fv L) {F : List Nat} (u : aB F w w') (hF : ∀ i ∈ eS fv L, i ∉ F) : dP w' base fv L :=
 ⟨h.own.upd u fun j hj e => hF j (eF.2 (.inl e)) hj, fun x hx => (h.dat x hx).upd1 u fun hd g hg => hF g (eF.2 (.inr ⟨x, hx, hd, hg⟩)), h.sep⟩
theorem dP.keep (h : dP w base fv L) (u : aB [] w w') : dP w' base fv L := h.upd u (by simp)
theorem dP.lt (h : dP w base fv L) : ∀ i ∈ eS fv L, base ≤ i ∧ i < w.heap.size := fun i hi => by
 rcases eF.1 hi with e | ⟨x, hx, hd, hg⟩
 ·exact h.own.block i e
 exact ⟨(h.sep x hx hd i hg).1, (h.dat x hx).blk_lt hd hg⟩
theorem dP.app (h : dP w base fv L) (hg : w.grownBy w' fv.ownBlock) (ho : qR w' base fv' (L ++ R)) (hn : fv'.ownBlock = fv.ownBlock ∨ ∀ g, fv'.ownBlock = some g → w.heap.size ≤ g) (hR : ∀ x ∈ R, Rd w x.dv x.d) (hs : ∀ x ∈ R, x.d ≠ [] → ∀ g, x.dv.ownBlock = some g → base ≤ g ∧ fv.ownBlock ≠ some g) : dP w' base fv' (L ++ R) := by
 have hu := aB.ofGrown hg
 have hd : ∀ x ∈ L ++ R, Rd w x.dv x.d ∧ (x.d ≠ [] → ∀ g, x.dv.ownBlock = some g → base ≤ g ∧ fv.ownBlock ≠ some g) := fun x hx => by
  rcases bK.1 hx with q | q
  ·exact ⟨h.dat x q, h.sep x q⟩
  exact ⟨hR x q, hs x q⟩
 refine ⟨ho, fun x hx => (hd x hx).1.upd1 hu fun hx2 g hg q => ?_, fun x hx hx2 g hg => ⟨((hd x hx).2 hx2 g hg).1, fun q => ?_⟩⟩
 ·exact ((hd x hx).2 hx2 g hg).2 (by simpa using q)
 rcases hn with e | e
 ·exact ((hd x hx).2 hx2 g hg).2 (by rw [← e]; exact q)
 have := e g q
 have := (hd x hx).1.blk_lt hx2 hg
 omega
end
theorem Rf (w : World) {v : Value} {b : Bs} (h : Rd w v b) (hb : b.length ≤ 100000) :
  Calls Tryz.prog 57 #[v] w fun e w' => ∃ fv L, e = .returned (.tuple #[fv, .int .i64 (cM b).2]) ∧ dP w' w.heap.size fv L ∧ L.map aO.fr = (cM b).1 ∧ aB [] w w' := by
 obtain ⟨a, c, rfl, h1, h2, h3⟩ := h.slice
 obtain ⟨n, hn⟩ : ∃ n, n = b.length := ⟨_, rfl⟩
 have HR := aA h
 have HN := aA hn
 rw [← hn] at h1 h3 hb HR ⊢
 clear hn h
 go_in
 go_wp2_with fail
 go_loopg [2, 3, 4, 5, 6, 7, 8] (n + 1) (fun gh v2 v3 v4 v5 v6 v7 v8 wr => ∃ (at_ : Nat) (fv : Value) (L : List aO), v4 = fv ∧ v5 = .int .i64 at_ ∧ at_ ≤ n ∧ gh = n + 1 - at_ ∧ Hid (dP wr w.heap.size fv L ∧ cM b = (L.map aO.fr ++ (cM (b.drop at_)).1, at_ + (cM (b.drop at_)).2) ∧ aB [] w wr))
 case atStart => exact ⟨0, _, [], rfl, rfl, by omega, rfl, aA ⟨dP.nil _ _, by simp, aB.refl _ _⟩⟩
 case round =>
  obtain ⟨at_, fv, L, rfl, rfl, hat, rfl, HS⟩ := hrel
  obtain ⟨fa, fc, fm, hfm, rfl⟩ := HS.out.1.own.sliceM
  have HFM := aA hfm
  clear hfm
  have hr := HR.out.keep HS.out.2.2
  go_wp2_with (first
   | (refine sZ rfl _ _ rfl hr (i := at_) (by rw [← HN.out]; exact hat) rfl rfl ?_; intro a8 c8 m8 hm8 hr8 hb8; have HR8 := aA hr8; clear hm8 hr8 hb8)
   | fail)
  refine (Na wr HR8.out).mono ?_
  rintro r w1 ⟨⟨dv, rfl, hdv, hdo⟩, hu1⟩
  clear hr
  obtain ⟨K, hK⟩ : ∃ K, K = (bU (b.drop at_)).2.2.1 := ⟨_, rfl⟩
  obtain ⟨E, hE⟩ : ∃ E, E = (bU (b.drop at_)).2.2.2 := ⟨_, rfl⟩
  obtain ⟨a1, c1, hdvs, -⟩ := hdv.slice
  have hpos := mS (b := b.drop at_)
  have hfl := Bo (b.drop at_)
  rw [eD, ← HN.out] at hpos
  rw [← hK, ← hE] at hpos ⊢
  have HG := aA (aC hK hE)
  generalize hkk : (bU (b.drop at_)).1 = kk at *
  generalize hdd : (bU (b.drop at_)).2.1 = dd at *
  have HKD := aA (aC hkk hdd)
  have HDV := aA (aC hdv (aC hdo hu1))
  obtain ⟨dl, hdl⟩ : ∃ dl, dl = dd.length := ⟨_, rfl⟩
  rw [← hdl] at hdvs hfl
  clear hK hE hkk hdd hdv hdo hu1 HR8 hdl
  subst hdvs
  by_cases hE0 : E = 0
  ·subst hE0
   have hpos := hpos rfl
   have hC : dP ((w1.alloc (nH kk (.slice a1 dl c1))).alloc (nH kk (.slice a1 dl c1))) w.heap.size (.slice fa fm fc) L := ((HS.out.1.keep HDV.out.2.2).keep ((aB.refl [] w1).alloc _)).keep ((aB.refl [] _).alloc _)
   have HC := aA hC
   have hLl : L.length ≤ 100000 := by
    have h1 := vE b
    have h2 := rP b
    rw [HS.out.2.1] at h1
    rw [← HN.out] at h2
    rw [bD, dF] at h1
    rw [HS.out.2.1] at h2
    omega
   have HLl := aA hLl
   have hbox := aX w1 (nH kk (.slice a1 dl c1))
   have b0 := aD hbox 0
   have b1 := aD hbox 1
   clear hC hLl hbox
   go_wp2_with (first
    | (at_builtin; go_loud (refine fS iH rfl _ _ rfl (base := w.heap.size) (l := L) (r := [⟨kk, .slice a1 dl c1, dd⟩]) (by rfl) HC.out.own (by rfl) (iS iH (ty := 25) (B := w1.heap.size + 1) (nC _ _ _ (by simp))) (uK (w := w1) (by simp only [aM, forall_eq]; exact HDV.out.1)) ?c1 ?c2 ?c3 ?_))
    | fail)
   case c1 => have := HLl.out; simp; omega
   case c2 => have := HLl.out; simp; omega
   case c3 => have := HS.out.2.2.size; have := HDV.out.2.2.size; simp; omega
   intro v4 w4 ho4 hg4 hn4
   have hA := HC.out.app hg4 ho4 (hn4.imp id fun q g hg => by simpa using q g hg) (by simp only [aM, forall_eq]; exact (HDV.out.1.keep ((aB.refl [] w1).alloc _)).keep ((aB.refl [] _).alloc _)) (by
    simp only [aM, forall_eq]
    intro hd g hg
    have h1 := HDV.out.2.1 g hg
    have h2 := HS.out.2.2.size
    refine ⟨by omega, fun q => ?_⟩
    have := (HS.out.1.own.block g q).2
    omega)
   have hU4 : aB [] w w4 := (((HS.out.2.2.trans HDV.out.2.2).alloc _).alloc _).grown hg4 (fun g hg => (HC.out.own.block g hg).1)
   have H4 := aA (aC hA hU4)
   clear hA hU4 ho4 hg4 hn4 b0 b1
   go_wp2_with fail
   go_roundg (n + 1 - (at_ + K))
   case measure => omega
   case rel =>
    refine ⟨at_ + K, _, _, rfl, by go_num, by omega, rfl, aA ⟨H4.out.1, ?_, H4.out.2⟩⟩
    have h1 := HS.out.2.1
    rw [tX (HG.out.2.symm), ← HG.out.1, HKD.out.1, HKD.out.2, rN] at h1
    rw [h1, eZ]
    simp only [eJ, dR, kT, List.cons_append, List.nil_append]
    exact Prod.ext rfl (yN ..).symm
  have hE' : ¬ (E : Int) = 0 := by omega
  have HFin : Hid (cM b = (L.map aO.fr, at_)) := aA (by
   have := HS.out.2.1
   rw [qI (b := b.drop at_) (by rw [← HG.out.2]; exact hE0)] at this
   simpa using this)
  go_wp2_with fail
  go_ret2
  refine ⟨_, L, ?_, (HS.out.1.keep HDV.out.2.2).keep ((aB.refl [] w1).alloc _), by rw [HFin.out], (HS.out.2.2.trans HDV.out.2.2).alloc _⟩
  rw [HFin.out]
  rfl
end Go.Proofs.YtgpefiacbipfpaaGreatDoor
