/- SegmentOpens returns true, whatever the arguments are, in whatever memory in which the listed tables read as they are laid, and leaves all that was there as it was. -/
import Derived.LaidMore
import Derived.Stop.Joined
import Derived.SevenTiedAt
import Derived.Test.YtgpefiacbipfpaaGreatDoorC42
import Derived.Test.YtgpefiacbipfpaaGreatDoorRows
import Derived.Test.YtgpefiacbipfpaaGreatDoorTie
import Derived.Test.YtgpefiacbipfpaaGreatDoorCards
set_option maxRecDepth 100000
set_option maxHeartbeats 4000000
namespace Go.Proofs.YtgpefiacbipfpaaGreatDoor
open Go.RowKit Go.Maps
theorem Sz (K : Nat) : ∀ ds : List Bs, (∀ d ∈ ds, d.length ≤ K) → (dB ds).1.length ≤ ds.length ∧ (∀ d ∈ (dB ds).1, d.length ≤ K) ∧ 6 * (dB ds).2.2.length ≤ K * ds.length ∧ ∀ x ∈ (dB ds).2.2, x.2.length ≤ 2000 := by
 intro ds
 induction ds with
 | nil => intro _; exact ⟨aQ _, by simp [dB], by simp [dB], by simp [dB]⟩
 | cons b r ih =>
  intro h
  obtain ⟨h1, h2, h3, h4⟩ := ih fun d hd => h d (iZ _ hd)
  have hb := h b (by simp)
  have q1 := vE b
  have q2 := rP b
  by_cases hw : (cM b).2 = b.length
  ·rw [Ae hw]
   refine ⟨by simp only [eG]; omega, fun d hd => ?_, ?_, fun x hx => ?_⟩
   ·rcases aJ.1 hd with rfl | hd
    ·exact hb
    exact h2 d hd
   ·rw [bD, eG, yT, yT, jI]; omega
   rcases bK.1 hx with q | q
   ·exact El b x q
   exact h4 x q
  rw [Ck hw]
  refine ⟨by simp, fun d hd => ?_, ?_, fun x hx => El b x hx⟩
  ·rw [aM.1 hd, bX]; omega
  rw [eG, yT, jI]
  dsimp only
  omega
theorem SB {α : Type} [DecidableEq α] {l k : List α} (hl : l.Nodup) (h : ∀ x ∈ l, x ∈ k) (hn : k.length ≤ l.length) : ∀ x ∈ k, x ∈ l := fun x hx => Decidable.byContradiction fun q => by
 have := IP (x :: l) k (kC.2 ⟨q, hl⟩) fun y hy => by
  rcases aJ.1 hy with rfl | e
  ·exact hx
  exact h y e
 rw [eG] at this
 omega
def yI (l : List (Bs × Bs)) : Nat := (l.map fun y => bP y.2.length).sum
theorem JQ {a b : List (Bs × Bs)} (h : a.Perm b) : yI a = yI b := (h.map _).sum_nat
theorem SC (l : List RF) : yI (l.map fun x => (x.nm, x.data)) = eT l := by
 unfold yI eT
 rw [pQ]
 rfl
theorem JR {room : Nat} {fs : aG} (h : dC room fs) : yI (fs.map fun p => (p.1, p.2.data)) = (bH fs).length := by
 rw [← DB (last := []) h, ← SC, pQ]
 rfl
theorem SD {l : Nat → aL} {room k s : Nat} {fs last : aG} {ds : List Bs} (h : eY l room k s fs last) (h1 : gP fs (cO ds)) (h2 : gP last (cO ds)) (h3 : ∀ b ∈ bH last, b ∈ bH fs) (hl : ds.length ≤ 100) : yG fs last (bE cJ 0 ds) (bE cJ 0 ds) := by
 have c1 := JN (room := room) _ ds fs rfl hl h.now.srt h1
 have c2 := JN (room := room) _ ds last rfl hl h.was.srt h2
 have n1 := (JQ c1).trans (JR h.now)
 have n2 := (JQ c2).trans (JR h.was)
 have hall := SB h.was.nodup h3 (by omega)
 refine ⟨?_, ?_⟩
 ·have h4 := List.Perm.map (fun y : Bs × Bs => (⟨y.1, y.2, bP y.2.length⟩ : RF)) c1
  rw [pQ, pQ] at h4
  have e1 : (bE cJ 0 ds).map ((fun y : Bs × Bs => (⟨y.1, y.2, bP y.2.length⟩ : RF)) ∘ fun x => (x.nm, x.data)) = bE cJ 0 ds := AO cJ ds 0
  have e2 : fs.map ((fun y : Bs × Bs => (⟨y.1, y.2, bP y.2.length⟩ : RF)) ∘ fun p => (p.1, p.2.data)) = fs.map (mC last) := by
   refine uZ fun p hp => ?_
   show (⟨p.1, p.2.data, bP p.2.data.length⟩ : RF) = ⟨p.1, p.2.data, uR last p.2⟩
   have : uR last p.2 = bP p.2.data.length := by
    unfold uR
    rw [wN.2, (h.now.ok p hp).blks_len]
    intro b hb
    simpa using hall b (nW hp hb)
   rw [this]
  rw [e1, e2] at h4
  exact h4
 have := (yH.sync h.was c2).lst
 rw [AO] at this
 exact this
theorem SE {w0 w : World} {v p room c rp : Nat} {G : List Nat} {ds : List Bs} {nv lv : Value} (h : cU w0 w v p room (cO ds) (cO ds) c G) (hc : c ≤ 1000000) (hds : ds.length ≤ 60) (hk : ∀ d ∈ ds, d.length ≤ 3000) (hr : dX w w0.heap.size rp room nv lv (bE cJ 0 ds) (bE cJ 0 ds)) (hf : ∀ i ∈ kB rp nv lv, i ∈ G) (hroom : room ≤ 1000) :
  Calls Tryz.prog 30 #[.pointer (some ⟨v, 0, none⟩), .pointer (some ⟨rp, 0, none⟩)] w fun r w' => r = .returned (.bool true) ∧ cU w0 w' v p room (cO ds) (cO ds) c G ∧ bT G w w' := by
 obtain ⟨fs, last, h1, h2, h3, h4⟩ := h.ex
 obtain ⟨l, k, s, hi⟩ := h1.inv
 have hs := SD hi h2 h3 h4 (by omega)
 have hsm : DA (bE cJ 0 ds) := ⟨by rw [iY]; omega, uX cJ (fun d hd => ⟨hk d hd, by have := hk d hd; unfold cJ bP; omega⟩) 0⟩
 refine (Sp (Lv.asks w0 v p room fs last c hc ⟨_, hi.now⟩) h1 hr hf hroom hsm hsm (Sr hi.now hs.now)).mono fun r w' q => ?_
 rcases q with ⟨b, e, hb, hl, hst⟩ | ⟨-, ht, -⟩
 ·exact ⟨by rw [e, hb.2 (Sq hi hs)], ⟨fs, last, hl, h2, h3, h4⟩, hst⟩
 exact ht.elim
structure oL (w W : World) (v p rp : Nat) (m : Nat → Option Bs) (now lst : List RF) (U c : Nat) (nv lv : Value) (G : List Nat) : Prop where
 sg : gQ w W v p 84 m U c G
 r : dX W w.heap.size rp 84 nv lv now lst
 ft : ∀ i ∈ kB rp nv lv, i ∈ G
theorem dX.stayG {w w' : World} {base rp room : Nat} {nv lv : Value} {now lst : List RF} {G : List Nat} (h : dX w base rp room nv lv now lst) (s : bT G w w') (hK : ∀ i ∈ kB rp nv lv, i ∈ G) : dX w' base rp room nv lv now lst := by
 obtain ⟨F, u, hF⟩ := s
 exact h.upd u fun i hi => hF i (hK i hi)
section
variable {w W W' : World} {v p rp U c : Nat} {m : Nat → Option Bs} {now lst : List RF} {nv lv : Value} {G : List Nat}
theorem oL.keep (h : oL w W v p rp m now lst U c nv lv G) (u : aB [] W W') : oL w W' v p rp m now lst U c nv lv G := ⟨h.sg.keep u, h.r.keep u, h.ft⟩
theorem oL.fs (h : oL w W v p rp m now lst U c nv lv G) {m' : Nat → Option Bs} {c' : Nat} (hs : gQ w W' v p 84 m' U c' G) (st : bT G W W') : oL w W' v p rp m' now lst U c' nv lv G := ⟨hs, h.r.stayG st h.ft, h.ft⟩
theorem oL.doc (h : oL w W v p rp m now lst U c nv lv G) {now2 lst2 : List RF} (g : iW W w.heap.size rp 84 nv lv now2 lst2 W') : ∃ nv2 lv2 G2, oL w W' v p rp m now2 lst2 U c nv2 lv2 G2 := by
 obtain ⟨nv2, lv2, g1, g2, g3⟩ := g
 obtain ⟨fs, last, h1, h2⟩ := h.sg.ex
 refine ⟨nv2, lv2, lG W W' ++ G, ⟨⟨fs, last, h1.guardF g2 (fun i hi => ⟨h.ft i hi, (h.r.lt i hi).1⟩) fun b hb => mA.1 hb, h2⟩, g1, fun i hi => ?_⟩⟩
 rcases g3 i hi with q | q
 ·exact fM _ (h.ft i q)
 exact iL _ (mA.2 ⟨q, (g1.lt i hi).2⟩)
end
theorem dX.lowb {w : World} {a b rp room : Nat} {nv lv : Value} {now lst : List RF} (h : dX w a rp room nv lv now lst) (hb : b ≤ a) : dX w b rp room nv lv now lst := ⟨h.box, h.now.base hb, h.lst.base hb, bG hb h.low, h.n1, h.n2, h.n3⟩
theorem gQ.more {w0 w : World} {v p room U c c' : Nat} {m : Nat → Option Bs} {G : List Nat} (h : gQ w0 w v p room m U c G) (hc : c ≤ c') : gQ w0 w v p room m U c' G := by
 obtain ⟨fs, last, h1, h2⟩ := h.ex
 exact ⟨fs, last, h1.more hc, h2⟩
theorem iQ.stay {w w' : World} {base l rp : Nat} {fv sv : Value} {L : List aO} {sz : List Nat} (h : iQ w base l rp fv sv L sz) {G : List Nat} (s : bT G w w') (hG : ∀ i ∈ iB l fv sv L, i ∈ G) : iQ w' base l rp fv sv L sz := by
 obtain ⟨F, u, hF⟩ := s
 exact h.upd u fun i hi => hF i (hG i hi)
theorem JS {L : List aO} {l : List eE} (h : L.map aO.fr = l) (hl : ∀ x ∈ l, x.2.length ≤ 2000) : ∀ x ∈ L, x.d.length ≤ 100000 := fun x hx => by
 have := hl x.fr (by rw [← h]; exact cV.2 ⟨x, hx, rfl⟩)
 have e : x.fr.2 = x.d := rfl
 rw [e] at this
 omega
theorem SF (m : Nat → Option Bs) (i : Nat) (a b : Option Bs) : fK (fK m i a) i b = fK m i b := by
 funext j
 unfold fK
 by_cases e : j = i
 ·rw [aF e, aF e]
 rw [aE e, aE e, aE e]
def f0 (_ : Bs) : Nat := 0
theorem JT {ds : List Bs} (h : ∀ d ∈ ds, d.length ≤ 3000) (i : Nat) : ∀ x ∈ bE f0 i ds, x.data.length ≤ 32768 ∧ x.old ≤ 64 := uX f0 (fun d hd => ⟨h d hd, dH _⟩) i
theorem SG {ds : List Bs} (h : ∀ d ∈ ds, d.length ≤ 3000) (hl : ds.length ≤ 4) {d : Bs} (hd : d.length ≤ 3000) :
  qB 84 (bE f0 0 ds ++ [⟨bW ds.length, [], 0⟩]) [] (bW ds.length) d.length = 0 ∧ tM 84 (bE f0 0 ds ++ [⟨bW ds.length, [], 0⟩]) [] (bW ds.length) d = bE f0 0 (ds ++ [d]) := by
 have h1 := JL f0 (K := 6) ds 0 fun x hx => by have := h x hx; omega
 have h2 := JM f0 ds (by omega) d (room := 84) (lst := []) (by omega) (by
  have h3 : eT [] = 0 := rfl
  have h4 : bP d.length ≤ 6 := by unfold bP; omega
  unfold iC
  rw [h3]
  omega)
 refine ⟨h2.1, h2.2.trans ?_⟩
 rw [wE, iJ]
 rfl
theorem SH {ds : List Bs} (h : ∀ d ∈ ds, d.length ≤ 3000) {i : Nat} (hi : ds.length = i) : ∀ j y, j < 100 → fK (cO ds) i (some []) j = some y → j < i + 1 ∧ y.length ≤ 512 * 6 := by
 intro j y _ e
 unfold fK at e
 by_cases q : j = i
 ·rw [aF q] at e
  cases e
  exact ⟨by omega, dH _⟩
 rw [aE q] at e
 have e2 : ds[j]? = some y := e
 obtain ⟨h1, h2⟩ := eX.1 e2
 have := h y (by rw [← h2]; exact fX h1)
 exact ⟨by omega, by omega⟩
theorem SI (w : World) (sa : Option Addr) (n sc : Nat) (Fs : List (Value × Bs)) (hs : iF 1 Dh w (.slice sa n sc) Fs) (hok : ∀ x ∈ Fs, Dj w x) (hn9 : n ≤ 9223372036854775807) {qa : Option Addr} {ql qc : Nat} {picks : List Int} (hp : uJ w (.slice qa ql qc) picks) (hpk : ∀ x ∈ picks, -9223372036854775808 ≤ x ∧ x ≤ 9223372036854775807) (hpo : picks ≠ [] → ∀ b, (Value.slice qa ql qc).ownBlock = some b → b < w.heap.size) :
  Calls Tryz.prog 6 #[.slice sa n sc, .slice qa ql qc] w fun e w' => e = .returned (.bool true) ∧ aB [] w w' := by
 have hn : n = Fs.length := by
  obtain ⟨a, c, e, -⟩ := hs
  simp only [fG] at e
  exact e.2.1
 have HF := aA (aC hs (aC hok hn))
 have HP := aA (aC hp (aC hpk hpo))
 have HAw := aA (RA w)
 have hn9' : (n : Int) ≤ 9223372036854775807 := by omega
 clear hs hok hn hp hpk hpo
 go_in
 go_wp2_with fail
 refine HAw.out.mono ?_
 rintro e w1 ⟨rfl, hu1⟩
 have HL1 := aA (Jk w hu1 120 (by omega) (by omega))
 clear hu1
 go_wp2_with fail
 refine HL1.out.mono ?_
 rintro e w2 ⟨p, v, rfl, hs2, hu2⟩
 have HS2 := aA hs2
 have HNw := aA (RT w2 120 (by omega) (by omega))
 clear hs2 hu2 HL1 HAw
 go_wp2_with fail
 refine HNw.out.mono ?_
 rintro e w3 ⟨rfl, hr3, hu3⟩
 obtain ⟨rp, hrp⟩ : ∃ rp, rp = w2.heap.size := ⟨_, rfl⟩
 rw [← hrp] at hr3 ⊢
 have HW3 : Hid (oL w w3 v p rp (cO []) (bE f0 0 []) [] 0 0 (.slice none 0 0) (.slice none 0 0) (lG w2 w3 ++ [])) := aA (by
  have h1 := (HS2.out.fresh hu3).u (k := 6) (n := 0) (by omega) (by intro j y _ e; simp [cO] at e)
  refine ⟨h1, hr3.lowb (by rw [hrp]; exact HS2.out.upd.size), fun i hi => ?_⟩
  refine iL _ (mA.2 ⟨?_, (hr3.lt i hi).2⟩)
  have := (hr3.lt i hi).1
  omega)
 clear hr3 hu3 hrp HS2 HNw
 go_upto_block 0 with (fail)
 go_cut [9, 10, 11, 12, 13] (fun s9 s10 s11 s12 s13 wx => ∃ (ds : List Bs) (nv lv : Value) (G : List Nat), ds.length ≤ 5 ∧ Hid ((∀ d ∈ ds, d.length ≤ 3000) ∧ oL w wx v p rp (cO ds) (bE f0 0 ds) [] 0 5 nv lv G))
 case first =>
  go_wp2_with fail
  go_loopg [9, 10, 11, 12, 13] 6 (fun gh s9 s10 s11 s12 s13 wr => ∃ (i : Nat) (ds : List Bs) (nv lv : Value) (G : List Nat), s9 = .int .i64 i ∧ i ≤ 5 ∧ i ≤ n ∧ gh = 6 - i ∧ ds.length = i ∧ Hid ((∀ d ∈ ds, d.length ≤ 3000) ∧ oL w wr v p rp (cO ds) (bE f0 0 ds) [] 0 i nv lv G))
  case atStart => exact ⟨0, [], _, _, _, rfl, by omega, by omega, rfl, rfl, aA ⟨by simp, HW3.out⟩⟩
  case round =>
   obtain ⟨i, ds, nv, lv, G, rfl, hi5, hin, rfl, hdi, HC⟩ := hrel
   by_cases hgo : i < n ∧ i < 5
   ·obtain ⟨hil, hi⟩ := hgo
    have hil' : (i : Int) < (n : Int) := by omega
    have hi' : (i : Int) < 5 := by omega
    have hil2 : i < Fs.length := by have := HF.out.2.2; omega
    obtain ⟨a', c', hv, -, -, hcell⟩ := HF.out.1
    simp only [fG] at hv
    obtain ⟨rfl, -, rfl⟩ := hv
    obtain ⟨b, off, rfl, hcl, hrd⟩ := hcell i hil2
    have hpc := HF.out.2.1 _ (fX hil2)
    generalize Fs[i] = x at hcl hrd hpc
    obtain ⟨xv, xd⟩ := x
    dsimp only at hcl hrd
    obtain ⟨xa, xc, rfl, hxc, hxc2, hxn⟩ := hrd.slice
    obtain ⟨xm, hxm⟩ : ∃ xm, xm = xd.length := ⟨_, rfl⟩
    rw [← hxm] at hcl hrd hxc hxn
    obtain ⟨mm, hmm⟩ : ∃ mm : Nat, mm = min xm 3000 := ⟨_, rfl⟩
    have hmin : min (xm : Int) 3000 = (mm : Int) := by omega
    have hmx : mm ≤ xm := by omega
    have hm3 : mm ≤ 3000 := by omega
    have hmc : (mm : Int) ≤ (xc : Int) := by omega
    have hm0 : (0 : Int) ≤ (mm : Int) := by omega
    rw [jI] at hcl
    obtain ⟨d, hd⟩ : ∃ d, d = xd.take mm := ⟨_, rfl⟩
    have hdl : d.length = mm := by rw [hd, bX]; omega
    have HX : Hid (Rd w (.slice xa mm xc) d ∧ (d ≠ [] → ∀ g, (Value.slice xa mm xc).ownBlock = some g → g < w.heap.size) ∧ d.length = mm ∧ mm ≤ 3000) := aA ⟨by rw [hd]; exact hrd.head mm hmx, fun hne g hg => hpc.2 (fun e => hne (by rw [hd]; dsimp only at e; rw [e]; simp)) g (by cases xa <;> exact hg), hdl, hm3⟩
    have HN : Hid (∀ X : World, Calls Tryz.prog 12 #[.int .i64 i] X fun e w' => e = .returned (.string (eK i)) ∧ aB [] X w') := aA fun X => Ds X i (by omega)
    have hx0 : xa = none → xm = 0 ∧ xc = 0 := hxn
    have q0 := cN HC.out.2.sg.upd hcl
    have HQ : Hid (∀ X, aB [] wr X → X.cell? ⟨b, off + i, none⟩ = some (.slice xa xm xc)) := aA fun X u => cN u q0
    clear hcl hrd hpc hcell hd hdl hxm hxn hmm
    go_upto_region 9 with (fail)
    go_cut [10] (fun s10 wx => s10 = .slice xa mm xc ∧ Hid (aB [] wr wx))
    case first =>
     cases xa with
     | none =>
      obtain ⟨rfl, rfl⟩ := hx0 rfl
      obtain rfl : mm = 0 := by omega
      have hmin0 : min (0 : Int) 3000 = 0 := by decide
      go_region
      go_wp2_with fail
      go_meet
      case rel => exact ⟨rfl, aA (aB.refl [] wr).drew⟩
     | some A =>
      go_region
      go_wp2_with fail
      go_meet
      case rel => exact ⟨rfl, aA (aB.refl [] wr).drew⟩
    case rest =>
     obtain ⟨rfl, HU⟩ := hcut
     obtain ⟨w4, hw4⟩ : ∃ x, x = wc := ⟨_, rfl⟩
     subst hw4
     clear q0 hmin hmc hm0 hx0
     go_wp2_with fail
     refine (HN.out _).mono ?_
     rintro e w5 ⟨rfl, hu5⟩
     have HO5 := aA (HC.out.2.keep (HU.out.trans hu5))
     have HCr := aA (HO5.out.sg.create (i := i) (by intro j hj _; exact gG (by omega)) (by omega))
     clear hu5
     go_wp2_with fail
     refine HCr.out.mono ?_
     rintro e w6 ⟨rfl, hs6, hst6⟩
     have HO6 := aA (HO5.out.fs hs6 hst6)
     have hap := HO6.out.sg.append (i := i) (n := i + 1) (k := 6) (x := []) (by omega) (by omega) (by simp [fK]) (HX.out.1.keep HO6.out.sg.upd) (fun hd g hg => .inr (HX.out.2.1 hd g hg)) (SH HC.out.1 hdi) (by have := HX.out; omega) (by rw [lJ]; have := HX.out; omega)
     have hmm2 : fK (fK (cO ds) i (some [])) i (some ([] ++ d)) = cO (ds ++ [d]) := by rw [SF, List.nil_append, ← hdi]; exact IN ds d
     rw [hmm2] at hap
     have HAp := aA hap
     clear hs6 hst6 hap hmm2 HCr HO5
     go_wp2_with fail
     refine HAp.out.mono ?_
     rintro e w7 ⟨rfl, hs7, hst7⟩
     have HO7 := aA (HO6.out.fs hs7 hst7)
     have hcr := Jr HO7.out.r HO7.out.sg.upd.size (eK i) (rQ i) (by rw [iY]; omega)
     have hcw := JK f0 ds (by omega)
     rw [hdi] at hcw
     rw [jV, hcw.1, hcw.2] at hcr
     have HCr := aA hcr
     clear hs7 hst7 hcr hcw HAp HO6
     go_wp2_with fail
     refine HCr.out.mono ?_
     rintro e w8 ⟨rfl, hnx⟩
     obtain ⟨nv2, lv2, G2, ho8⟩ := HO7.out.doc hnx
     have HO8 := aA ho8
     have hra := SG HC.out.1 (by omega) (d := d) (by have := HX.out; omega)
     rw [hdi, HX.out.2.2.1] at hra
     have hap := Jy HO8.out.r (eK i) (HX.out.1.keep HO8.out.sg.upd) (by have := HX.out; omega) (by omega) (by rw [bD, iY]; simp; omega) (by simp) (fun x hx => by
      rcases bK.1 hx with q | q
      ·exact JT HC.out.1 0 x q
      rw [aM.1 q]; exact ⟨dH _, dH _⟩) (by simp)
     rw [jV, HX.out.2.2.1, hra.1, hra.2] at hap
     have HAp := aA hap
     clear hnx ho8 hra hap HCr HO7
     go_wp2_with fail
     refine HAp.out.mono ?_
     rintro e w9 ⟨rfl, hnx⟩
     obtain ⟨nv3, lv3, G3, ho9⟩ := HO8.out.doc hnx
     have HO9 := aA ho9
     clear hnx ho9 HAp HO8
     go_wp2_with fail
     go_roundg (6 - (i + 1))
     case measure => omega
     case rel =>
      refine ⟨i + 1, ds ++ [d], nv3, lv3, G3, by go_num, by omega, by omega, rfl, by rw [bD, hdi]; rfl, aA ⟨fun y hy => ?_, HO9.out⟩⟩
      rcases bK.1 hy with q | q
      ·exact HC.out.1 y q
      rw [aM.1 q]; have := HX.out; omega
   have HE : Hid ((∀ d ∈ ds, d.length ≤ 3000) ∧ oL w wr v p rp (cO ds) (bE f0 0 ds) [] 0 5 nv lv G) := aA ⟨HC.out.1, ⟨HC.out.2.sg.more hi5, HC.out.2.r, HC.out.2.ft⟩⟩
   rcases kP i n with hil | hil
   ·have hil' : (i : Int) < (n : Int) := by omega
    obtain rfl : i = 5 := by omega
    go_wp2_with fail
    go_meet
    case rel => exact ⟨ds, nv, lv, G, by omega, HE⟩
   have hil' : ¬ (i : Int) < (n : Int) := by omega
   go_wp2_with fail
   go_meet
   case rel => exact ⟨ds, nv, lv, G, by omega, HE⟩
 case rest =>
  obtain ⟨ds, nv, lv, G, hdl, HE⟩ := hcut
  obtain ⟨wd, hwd⟩ : ∃ x, x = wc := ⟨_, rfl⟩
  subst hwd
  have HSy := aA (HE.out.2.sg.sync (by omega))
  go_wp2_with fail
  refine HSy.out.mono ?_
  rintro e w5 ⟨rfl, hs5, hst5⟩
  have hr5 := HE.out.2.r.stayG hst5 HE.out.2.ft
  have hsy := Jt hr5 hs5.upd.size (by rw [iY]; omega) (fun x hx => (JT HE.out.1 0 x hx).1)
  rw [AO] at hsy
  have HRy := aA hsy
  have H5 := aA (aC hs5 (aC hr5 HE.out.2.ft))
  clear hs5 hst5 hr5 hsy HSy
  go_wp2_with fail
  refine HRy.out.mono ?_
  rintro e w6 ⟨rfl, nv6, lv6, hr6, hu6, hf6⟩
  have hs6 := H5.out.1.freshF hu6 fun i hi => ⟨H5.out.2.2 i hi, (H5.out.2.1.lt i hi).1⟩
  have hft6 : ∀ i ∈ kB rp nv6 lv6, i ∈ lG w5 w6 ++ G := fun i hi => (hf6 i hi).elim (fun q => fM _ (H5.out.2.2 i q)) fun q => iL _ (mA.2 ⟨q, (hr6.lt i hi).2⟩)
  have HO := aA (Dk (k := 6) hs6 (by omega) (by omega) (by omega) (fun d hd => by have := HE.out.1 d hd; omega) (by omega) (fun _ => by omega))
  have H6 := aA (aC hr6 hft6)
  have HK := aA HE.out.1
  clear hr6 hu6 hf6 hs6 hft6 HRy H5 HE
  go_wp2_with fail
  refine HO.out.mono ?_
  rintro e w7 ⟨lg, fv, sv, L, G7, rfl, hl7, hf7, hG7, hst7⟩
  have hr7 := H6.out.1.stayG hst7 H6.out.2
  have HRO := aA (Sy hr7 hl7.sg.upd.size hdl HK.out (by omega) (by omega))
  have H7 := aA (aC hl7 (aC hf7 (aC hr7 fun i hi => hG7 i (H6.out.2 i hi))))
  clear hl7 hf7 hG7 hst7 hr7 HO
  go_wp2_with fail
  refine HRO.out.mono ?_
  rintro e w8 ⟨gv, tv, M, nv8, lv8, rfl, hg8, hm8, hst8⟩
  obtain ⟨ho1, ho2, ho3, ho4⟩ := Sz 3000 ds HK.out
  have hag : dB (dB ds).1 = ((dB ds).1, false, (dB ds).2.2) := MO ds
  obtain ⟨D1, hD1⟩ : ∃ D1, D1 = (dB ds).1 := ⟨_, rfl⟩
  obtain ⟨D3, hD3⟩ : ∃ D3, D3 = (dB ds).2.2 := ⟨_, rfl⟩
  have hl8 := H7.out.1
  have hf8 := H7.out.2.1
  rw [← hD3] at hm8 hf8 ho3 ho4 hag
  rw [← hD1] at hg8 hst8 ho1 ho2 hag hl8
  have hsg8 := hl8.sg.freshF hst8.u fun i hi => ⟨H7.out.2.2.2 i hi, (H7.out.2.2.1.lt i hi).1⟩
  have hlog8 := hl8.log.upd hst8.u fun i hi q => by
   have := (hl8.log.lt i hi).1
   have := (H6.out.1.lt i q).2
   omega
  have hft8 : ∀ i ∈ kB rp nv8 lv8, i ∈ lG w7 w8 ++ G7 := fun i hi => (hst8.f i hi).elim (fun q => fM _ (H7.out.2.2.2 i q)) fun q => iL _ (mA.2 ⟨q, (hst8.r.lt i hi).2⟩)
  have hgt8 : ∀ i ∈ iB w7.heap.size gv tv M, i ∈ lG w7 w8 ++ G7 := fun i hi => iL _ (mA.2 (hg8.lt i hi))
  have hD3l : D3.length ≤ 2500 := by omega
  have hLn : L.length ≤ 5000 := by have := bM List.length hf8; rw [dF] at this; omega
  have hal := JP w8 hlog8 hLn (JS hf8 ho4) (by rw [dF]; omega) hg8 (hf8.trans hm8.symm) rfl
  have HAl := aA hal
  have H8 := aA (aC hsg8 (aC hst8.r (aC hg8 (aC hft8 hgt8))))
  have HD := aA (aC ho2 (aC ho4 (aC hag (aC hm8 hD3l))))
  have hd5 : D1.length ≤ 5 := by omega
  obtain ⟨rl, hrl⟩ : ∃ rl, rl = w7.heap.size := ⟨_, rfl⟩
  obtain ⟨G8, hG8⟩ : ∃ G8, G8 = lG w7 w8 ++ G7 := ⟨_, rfl⟩
  rw [← hG8] at H8
  rw [← hrl] at H8 HAl ⊢
  clear ho1 ho2 ho3 ho4 hag hD1 hD3 hl8 hf8 hsg8 hlog8 hft8 hgt8 hD3l hLn hal hg8 hm8 hst8 H7 H6 HRO hrl hG8
  go_wp2_with fail
  refine HAl.out.mono ?_
  rintro e w9 ⟨rfl, hu9⟩
  have HAk := aA (SE (H8.out.1.keep hu9) (by omega) (by omega) HD.out.1 (H8.out.2.1.keep hu9) H8.out.2.2.2.1 (by omega))
  have HG9 := aA (H8.out.2.2.1.keep hu9)
  clear hu9 HAl
  go_wp2_with fail
  refine HAk.out.mono ?_
  rintro e w10 ⟨rfl, hs10, hst10⟩
  have HCr := aA ((hs10.dv (by omega)).crash (by omega) (HP.out.1.keep TZ hs10.upd) HP.out.2.1 (fun q b hb => .inr (HP.out.2.2 q b hb)))
  have HG10 := aA (HG9.out.stay hst10 H8.out.2.2.2.2)
  clear hs10 hst10 HAk HG9
  go_wp2_with fail
  refine HCr.out.mono ?_
  rintro e w11 ⟨rfl, hcr, hst11⟩
  have HOp := aA (RE (k := 6) w w11 hcr.dv (by omega) (by omega) (fun d hd => by have := HD.out.1 d hd; omega) (by omega) (fun e => by rw [HD.out.2.2.1] at e; cases e))
  have HG11 := aA (HG10.out.stay hst11 H8.out.2.2.2.2)
  clear hcr hst11 HCr HG10
  go_wp2_with fail
  refine HOp.out.mono ?_
  rintro e w12 ⟨lg3, b3, v3, fv3, sv3, L3, G3, rfl, hl3, hf3, hG3, hst12⟩
  rw [HD.out.2.2.1] at hl3 hf3
  dsimp only at hl3 hf3
  have hal := JP w12 hl3.log (by have := bM List.length hf3; rw [dF] at this; have := HD.out.2.2.2.2; omega) (JS hf3 HD.out.2.1) (by rw [dF]; omega) (HG11.out.stay hst12 H8.out.2.2.2.2) (hf3.trans HD.out.2.2.2.1.symm) rfl
  have HAl := aA hal
  have HU := aA hl3.sg.upd
  clear hl3 hf3 hG3 hst12 hal HOp
  go_wp2_with fail
  refine HAl.out.mono ?_
  rintro e w13 ⟨rfl, hu13⟩
  have HU2 := aA (HU.out.trans hu13)
  clear hu13
  go_wp2_with fail
  go_ret
  exact ⟨rfl, HU2.out⟩
end Go.Proofs.YtgpefiacbipfpaaGreatDoor
namespace Go.Proofs.YtgpefiacbipfpaaGreatDoor
open Go.ChangeShapes Go.WideShapes Go.ChangeAt Go.RowKit Go.Deep
theorem SJ : laidOutB Tryz.prog = true := by kernel_rfl
theorem own : ownKnob Tryz.prog.godebug = none := by kernel_rfl
abbrev AQ {H : Type} : List (String × DataW H) := [("math/bits.deBruijn32tab", Rows.laid_math_bits_deBruijn32tab), ("math/bits.deBruijn64tab", Rows.laid_math_bits_deBruijn64tab), ("internal/strconv.uint64pow10", Rows.laid_internal_strconv_uint64pow10)]
theorem SK (os : Os) (args : Array Value) : laidMetH Tryz.prog AQ ((World.doorLaid Tryz.prog 4000 os).forCall (fun _ _ => 0) ⟨#[], args, []⟩).memory :=
 laidMetH_of_parts3 (fuel := 8) (laidMet_of_run' 8 (by kernel_rfl) (by kernel_rfl)) (by kernel_rfl) (by kernel_rfl)
section
variable {H : Type} {enc : TypeId × Value → H} {w : World} {base : Nat} {spare : Nat → Bool} {held : Bool}
end
end Go.Proofs.YtgpefiacbipfpaaGreatDoor
namespace Go.Proofs.YtgpefiacbipfpaaGreatDoor
open Go.ChangeShapes Go.WideShapes Go.ChangeAt Go.RowKit
namespace segmentOpens
theorem lifted (os : Os) (started : os.Started) (H : Type) (enc : TypeId × Value → H) :
  ReturnsInHanded {} Tryz.checked os 6 .any (fun w args => (Rows.segmentOpensSpec.pre enc Tryz.prog Tryz.f6 [] false w args ∧ laidMetH Tryz.prog AQ w) ∧ sizedMet enc Tryz.prog Tryz.f6 (OpenSpec.ofChange Rows.segmentOpensSpec) false w args)
   (Rows.segmentOpensSpec.post enc Tryz.prog Tryz.f6 false true false false) := by
 refine returnsInHanded_of_change_and (C := Tryz.checked) (X := fun w _ => laidMetH Tryz.prog AQ w) (fun _ _ _ hh h => h.of_heap hh) own started (by kernel_rfl) Tryz.func6
  (ChangeSpec.witness_shaped (enc := enc) (C := Tryz.checked) (os := os) (X := fun w _ => laidMetH Tryz.prog AQ w) false (World.doorLaid Tryz.prog 4000 os) #[.slice none 0 0, .slice none 0 0] 8 rfl (World.shaped_of_RefB (by kernel_rfl) (by kernel_rfl)) (by kernel_rfl) (by kernel_rfl) (by kernel_rfl) (SK os _)) ?_
 intro W base args ds gs before hval0 hW _ hsz0 hL _
 have hval : ∀ (j : Nat) t v, Tryz.f6.params[j]? = some t → args[j]? = some v → Value.okWide Tryz.prog W .any base t v := hval0
 have hW' := hW
 obtain ⟨p, q, hA0, hV, rfl, hfz, hnd⟩ := hW
 have hA : DataW.TrodAll enc Tryz.prog W 0 (fun _ => true) true Tryz.f6.params.toList args.toList ds p := hA0
 obtain ⟨rfl, rfl⟩ := trodVars_none hV
 have hsz : (DataW.weightsEach Tryz.prog (Tryz.f6.params.toList ++ []) (ds ++ [])).all (· ≤ reachBytes) = true := hsz0
 rw [Tryz.params6] at hA hval hsz
 obtain ⟨v0, vs0, d0, ds0, p0, q0, hargs, rfl, rfl, h0, r0⟩ := trodAll_cons hA
 obtain ⟨v1, vs1, d1, ds1, p1, q1, rfl, rfl, rfl, h1, r1⟩ := trodAll_cons r0
 obtain ⟨rfl, rfl, rfl⟩ := trodAll_nil r1
 obtain rfl : args = #[v0, v1] := by cases args; simp_all
 obtain ⟨fu0, hf0⟩ := h0
 have w0 : Wt 56 d0 := IF hsz (j := 0) rfl rfl
 obtain ⟨fu1, hf1⟩ := h1
 have w1 : Wt 31 d1 := IF hsz (j := 1) rfl rfl
 obtain ⟨xv0, l0, e0, hs0, hok0⟩ := QQ hf0 w0
 obtain rfl := IG Tryz.underlying56 (hval 0 56 v0 rfl rfl) rfl e0
 obtain ⟨sa0, sl0, sc0, rfl⟩ := okWide_slice Tryz.underlying56 (hval 0 56 xv0 rfl rfl)
 have hl0 : sl0 ≤ 9223372036854775807 := by
  obtain ⟨a, c, hv, q1, q2, -⟩ := hs0
  simp only [fG] at hv
  obtain ⟨-, rfl, rfl⟩ := hv
  unfold maxLen at q2
  omega
 obtain ⟨x1, pk, e1, hpk, -, hkpk, hopk⟩ := QP hf1 w1
 obtain rfl := IG Tryz.underlying31 (hval 1 31 v1 rfl rfl) rfl e1
 obtain ⟨sa1, sl1, sc1, rfl⟩ := okWide_slice Tryz.underlying31 (hval 1 31 x1 rfl rfl)
 refine (SI W sa0 sl0 sc0 l0 hs0 hok0 hl0 hpk hkpk hopk).mono fun e W' ⟨he, hu⟩ => ?_
 subst he
 exact ⟨_, rfl, QG (B := 4) rfl SJ (by rw [Tryz.params6]; decide +kernel) rfl Tryz.underlying4 hW' hu rfl⟩
theorem row : Rows.segmentOpensRow.holds Tryz.pinned (OpenSpec.ofChange Rows.segmentOpensSpec) :=
 OpenClaim.holds_of_wide 6 Tryz.f6 rfl rfl rfl rfl rfl rfl rfl ⟨rfl, rfl, rfl, rfl, rfl⟩ rfl rfl rfl rfl rfl (by kernel_rfl) Tryz.func6 (by kernel_rfl)
  (of_decide_eq_true (by kernel_rfl)) (by unfold Func.isWrapper; first | (rw [aF (by decide +kernel)]; kernel_rfl) | (rw [aE (by decide +kernel)]; exact ⟨rfl, rfl⟩))
  (fun os started H enc _ => lifted os started H enc)
theorem proved : Rows.SegmentOpensCardSaid :=
 Claim7.holds_tied_plain_at .later [] [.data, .data, .data] true (true, "2da7ad387085d697f5f199b83c98b63b7c4ce4fbac82fa85d0e8f525b94c14d9") false
  row (fun _ h => by cases h) (by kernel_rfl) (fun _ h => by cases h) segmentOpens_row_tie rfl ⟨rfl, rfl⟩ (by kernel_rfl) rfl
  (fun f fn hf hfn => by
   obtain rfl : f = 6 := mQ ((show Tryz.prog.funcNamed "cartulary/cartularylaw09.SegmentOpens" = some 6 by kernel_rfl).symm.trans hf) |>.symm
   obtain rfl : fn = Tryz.f6 := (mQ (Tryz.func6.symm.trans hfn)).symm
   exact ⟨by kernel_rfl, fun j t ht => by
    rw [Tryz.params6] at ht
    have hm : t ∈ [56, 31] := by simpa using Array.mem_of_getElem? ht
    have hall : ([56, 31].all fun u => !Tryz.prog.wantsStandIn u) = true := by kernel_rfl
    exact (show Tryz.prog.wantsStandIn t = false by simpa using List.all_eq_true.1 hall t hm)⟩)
  (by kernel_rfl)
#print axioms proved
end segmentOpens
end Go.Proofs.YtgpefiacbipfpaaGreatDoor
