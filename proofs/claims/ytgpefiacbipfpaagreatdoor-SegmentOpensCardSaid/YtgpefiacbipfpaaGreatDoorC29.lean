/- The directory is read. -/
import Derived.Test.YtgpefiacbipfpaaGreatDoorC28
set_option maxRecDepth 100000
set_option maxHeartbeats 8000000
namespace Go.Proofs.YtgpefiacbipfpaaGreatDoor
open Go.RowKit Go.Maps
def Qk (w : World) (v j c q mf : Nat) (lm va nv : Value) (base room : Nat) (fs : aG) (r : Ending) (w' : World) : Prop :=
 r = .returned (.bool true) ∧ ∃ A R FM nv' lv', w'.heap[v]? = some (boxG j c q mf lm va false) ∧ dL w' mf fs A R FM ∧ fJ w' base q nv' lv' (cY room fs) (cY room fs) ∧ aB (mf :: q :: nv.ownBlock.toList) w w' ∧ (∀ i ∈ FM, i = mf ∨ w.heap.size ≤ i) ∧ (∀ g, nv'.ownBlock = some g → nv.ownBlock = some g ∨ w.heap.size ≤ g) ∧ (∀ g, lv'.ownBlock = some g → w.heap.size ≤ g) ∧ ∀ i ∈ FM, nv'.ownBlock ≠ some i ∧ lv'.ownBlock ≠ some i
theorem Ql (w : World) {v j c q mf base room : Nat} {lm va nv lv : Value} (hb : w.heap[v]? = some (boxG j c q mf lm va false)) (hmf : fO w mf []) (hm : fJ w base q nv lv (List.replicate room false) (List.replicate room false)) {fs : aG} (hd : Ow w 0 va (dT fs)) (hok : dC room fs) (hr : room ≤ 476) (h0 : 1 ≤ room) :
  Calls Tryz.prog 85 #[.pointer (some ⟨v, 0, none⟩)] w (Qk w v j c q mf lm va nv base room fs) := by
 have hvl := aH hb
 have hql := aH hm.box
 have hml := hmf.lt
 have hfew := hok.few
 have hcvt := fun W : World => Go.Lib.run_convert_bytes_const W 23 5 #[.int .u8 102, .int .u8 105, .int .u8 108, .int .u8 101, .int .u8 115] 5 5 T8.und Tryz.underlying5
 obtain ⟨aa, ac, am, ham, hva⟩ := hd.sliceM
 have c5 := aD hb 5
 simp only [bA, bB, bS] at c5
 subst hva
 have hd8 := hok.dir_len (by omega)
 have HW := aA (aC hb (aC hmf (aC hm hd)))
 have HCP := aA fun (X : World) (u : aB [] w X) (B : Nat) (ty : TypeId) (fz : Nat × Nat) (hB : X.heap[B]? = some (.cells #[.int .u8 102, .int .u8 105, .int .u8 108, .int .u8 101, .int .u8 115] ty fz)) =>
  zM X ((Ow.rd hd).keep u) (show Rd X (.slice (some ⟨B, 0, none⟩) 5 5) kZ from tC (l := kZ) hB (by decide)) (by rw [Dd]; exact yU _ _) (by rw [hd8]; decide)
 have hu1 : ∀ fz, aB [] w (w.alloc (.cells #[.int .u8 102, .int .u8 105, .int .u8 108, .int .u8 101, .int .u8 115] 5 fz)) := fun fz => (aB.refl [] w).alloc _
 have hb1 : ∀ fz, (w.alloc (.cells #[.int .u8 102, .int .u8 105, .int .u8 108, .int .u8 101, .int .u8 115] 5 fz)).heap[w.heap.size]? = _ := fun fz => aX w (.cells #[.int .u8 102, .int .u8 105, .int .u8 108, .int .u8 101, .int .u8 115] 5 fz)
 clear hb hmf hm hd ham
 go_in
 go_wp2_with fail
 have hu1' := hu1 (5, 6)
 have hb1' := hb1 (5, 6)
 clear hu1 hb1
 generalize w.alloc (.cells #[.int .u8 102, .int .u8 105, .int .u8 108, .int .u8 101, .int .u8 115] 5 (5, 6)) = w1 at *
 refine (HCP.out _ hu1' _ _ _ hb1').mono ?_
 rintro r w2 ⟨v3, rfl, hrd3, rfl, hown3⟩
 clear hb1' hcvt HCP
 rw [Dd, kV] at hrd3
 have hUI := pC _ hrd3
 rw [pR (by omega)] at hUI
 obtain ⟨a3, c3, rfl, -, -, -⟩ := hrd3.slice
 obtain ⟨L, hL⟩ : ∃ L, L = fs.length := ⟨_, rfl⟩
 obtain ⟨kL, hkL⟩ : ∃ kL, kL = (aN fs.length).length := ⟨_, rfl⟩
 obtain ⟨m3, hm3⟩ : ∃ m3, m3 = (aN fs.length ++ lF fs 0).length := ⟨_, rfl⟩
 have hm3' : kL ≤ m3 := by rw [hkL, hm3, bD]; omega
 obtain ⟨a4, c4, -, hcut, -, hr4, hown4⟩ := hrd3.cut kL m3 hm3' (by rw [hm3]; exact aQ _)
 have hcut4 := hcut hm3
 rw [hkL, kV, ← hkL, dY (by rw [hm3, hkL, bD]; omega)] at hr4
 rw [← hm3] at hcut4 hUI hrd3 ⊢
 rw [← hkL, ← hL] at hUI
 have hLb : ¬ (64 : Int) < (L : Int) := by omega
 have hLc : L ≤ 64 := by omega
 have hb2 := gF hu1' HW.out.1
 have c2 := aD hb2 2
 simp only [bA, bB, bS] at c2
 have HBL := aA (MA w2 (HW.out.2.2.1.upd hu1' (by simp) (by simp) (by simp)))
 rw [pN] at HBL
 have hmk := fun W : World => Ga W room (by omega)
 have hkb : kL ≤ 10 := by rw [hkL]; exact gX (by omega)
 have hown4' : ∀ g, (Value.slice a4 (m3 - kL) c4).ownBlock = some g → (Value.slice aa am ac).ownBlock = some g := fun g hg => by rw [← hown3]; exact hown4 g hg
 have H2 := aA (aC hu1' (aC hr4 hown4'))
 have HL := aA (aC hL (aC hkL hm3))
 have HUI := aA hUI
 have hsm := gX (n := fs.length) (by omega)
 have hmb : m3 ≤ 9000 := by have := Iw hok (by omega) 0; rw [hm3, bD]; omega
 clear hu1' hrd3 hown3 hr4 hown4 hown4' hcut hUI hb2 hL hkL hm3 hsm
 go_wp2_with fail
 refine HUI.out.mono ?_
 rintro r w3 ⟨rfl, rfl⟩
 go_wp2_with fail
 refine HBL.out.mono ?_
 rintro r w3' ⟨rfl, rfl⟩
 go_wp2_with fail
 have hub : w.heap.size ≤ w3'.heap.size := H2.out.1.size
 have hu0 : aB [] w (w3'.alloc (.cells (aP cB (List.replicate room false)).toArray 4)) := H2.out.1.alloc _
 have huse0 : eV (w3'.alloc (.cells (aP cB (List.replicate room false)).toArray 4)) w3'.heap.size (.slice (some ⟨w3'.heap.size, 0, none⟩) room room) (cY room (fs.take 0)) := by
  rw [wQ, Qb]
  exact eV.made (aX _ _) (aQ _) (by omega)
 have hst0 : ∀ (A : Bs → Nat) (R : Bs → Value), IA w mf w3'.heap.size room fs 0 A R [mf] (w3'.alloc (.cells (aP cB (List.replicate room false)).toArray 4)) := fun A R =>
  ⟨(dL.none HW.out.2.1 A R).upd hu0 (by simp), fun a ha => .inl (aM.1 ha), huse0, hu0.mono (by simp), by simp, hub⟩
 have hr40 : Rd (w3'.alloc (.cells (aP cB (List.replicate room false)).toArray 4)) (.slice a4 (m3 - kL) c4) (lF fs 0) := H2.out.2.1.keep ((aB.refl [] _).alloc _)
 generalize hub0 : w3'.heap.size = ub at *
 generalize (w3'.alloc (.cells (aP cB (List.replicate room false)).toArray 4)) = W0 at *
 have hown40 := H2.out.2.2
 have H0 := aA (aC hst0 (aC hr40 hown40))
 clear hub0 hu0 huse0 hst0 hr40 hown40 hcut4 hmk c2 c5 HUI HBL hub
 obtain ⟨M4, hM4⟩ : ∃ M4, M4 = m3 - kL := ⟨_, rfl⟩
 rw [← hM4] at H0 ⊢
 clear hM4
 go_loopg [3, 55] L (fun gh v3 v55 wr => ∃ (i : Nat) (a3 : Option Addr) (m3 c3 : Nat) (A : Bs → Nat) (R : Bs → Value) (FM : List Nat), v3 = .slice a3 m3 c3 ∧ v55 = .int .u64 i ∧ i ≤ L ∧ gh = L - i ∧ Hid (IA w mf ub room fs i A R FM wr) ∧ Hid (Rd wr (.slice a3 m3 c3) (lF fs i) ∧ ∀ g, (Value.slice a3 m3 c3).ownBlock = some g → (Value.slice aa am ac).ownBlock = some g))
 case atStart => exact ⟨0, a4, M4, c4, fun _ => 0, fun _ => .slice none 0 0, [mf], rfl, rfl, dH _, rfl, aA (H0.out.1 _ _), aA H0.out.2⟩
 case round =>
  obtain ⟨i, a3, m3, c3, A, R, FM, rfl, rfl, hi, rfl, HS, HR⟩ := hrel
  by_cases hiL : i < L
  ·have hiL' : (i : Int) < (L : Int) := by omega
   obtain ⟨p, hp⟩ : ∃ p, fs[i]? = some p := ⟨_, bL (by rw [← HL.out.1]; exact hiL)⟩
   have hpm := fC hp
   have hnm := hok.name p hpm
   have hfo := hok.ok p hpm
   have hre := PW hp
   have hle0 := Iw hok (by omega : room ≤ 512) i
   have hRr := HR.out.1
   rw [hre] at hRr hle0
   have HTX := aA (LB wr hRr 40 hnm.1 hnm.2 (by omega))
   have hlR : m3 = (aN p.1.length ++ (p.1 ++ (jY p.2 ++ lF fs (i + 1)))).length := hRr.cell.1
   obtain ⟨k1, hk1⟩ : ∃ k1, k1 = (aN p.1.length).length + p.1.length := ⟨_, rfl⟩
   have hk1b : k1 ≤ 50 := by have := gX (n := p.1.length) (by omega); omega
   have hk1m : k1 ≤ m3 := by rw [hlR, hk1]; simp only [bD]; omega
   rw [← hk1] at HTX
   have hdrop1 : (aN p.1.length ++ (p.1 ++ (jY p.2 ++ lF fs (i + 1)))).drop k1 = jY p.2 ++ lF fs (i + 1) := by
    rw [hk1, ← rN, kV, kV]
   obtain ⟨a5, c5, -, hcut, -, hr5, hown5⟩ := hRr.cut k1 m3 hk1m (by rw [← hlR]; exact aQ _)
   have hcut5 := hcut hlR
   rw [hdrop1, dY (by rw [hlR, hk1]; simp only [bD]; omega), Iv] at hr5
   have HRE := aA (PV wr hr5 hfo.most hfo.canon (fun r hr => by have := hfo.le r hr; omega) hfo.len (by
    rw [← Iv]
    simp only [bD] at hle0 ⊢
    omega))
   rw [← PX] at HRE
   have hbr := (HS.out.upd.block v hvl (by simp; intro e; obtain ⟨es, ck, hmb, -⟩ := HW.out.2.1; have := HW.out.1; rw [e, hmb] at this; cases this)).trans HW.out.1
   have k3 := aD hbr 3
   simp only [bA, bB, bS] at k3
   have hsr : cP bQ (fs.take i ++ [p]) := by rw [← De hp]; exact Df hok.srt _
   have hpl := PZ hsr
   have HLK := aA fun (X : World) (u : aB [] wr X) => fO.look (HS.out.fil.upd u (by simp)).map Tryz.underlying82 (z := .pointer none) (by kernel_rfl) (bC p.1) (by show p.1.toArray.size ≤ _; simp; unfold maxLen; omega)
   have hga : (bF (dW (fs.take i) A) (bC p.1).data.toList).getD (.pointer none) = .pointer none := by
    rw [show (bC p.1).data.toList = p.1 by simp [bC], rA, hpl.1]; rfl
   rw [hga] at HLK
   have HP := aA (aC hp (aC hre (aC hsr (aC hpl (aC hnm (aC hfo hlR))))))
   have HK1 := aA hk1
   have hfl : (jY p.2).length ≤ 8192 := by simp only [bD] at hle0; omega
   clear hp hre hle0 hRr hlR hk1 hdrop1 hcut hr5 hown5 hbr hsr hpl hga hnm hfo
   go_wp2_with fail
   refine HTX.out.mono ?_
   rintro r w4 ⟨rfl, rfl⟩
   go_wp2_with fail
   refine HRE.out.mono ?_
   rintro r w5 ⟨q5, rv5, rfl, hnd5, hq5, hu5⟩
   have hlk := HLK.out w5 hu5
   have e3 := cN hu5 k3
   have hrl : p.2.runs.length ≤ 1000000 := by have := (HP.out.2.2.2.2.2.1.small (by omega : room ≤ 512)).len; omega
   have HRU := aA (Ad w5 hnd5 hrl)
   have H5 := aA (aC hnd5 (aC hq5 hu5))
   clear hnd5 hq5 hu5
   go_wp2_with fail
   refine HRU.out.mono ?_
   rintro r w6 ⟨rv6, rfl, ho6, hu6⟩
   obtain ⟨a6, c6, m6, rfl, rfl⟩ := ho6.sliceM
   have hrun6 : p.2.runs.length ≤ 64 := by
    have h1 := sU (oT HP.out.2.2.2.2.2.1.canon)
    have h2 := HP.out.2.2.2.2.2.1.len
    have h3 := HP.out.2.2.2.2.2.1.most
    unfold bP at h2
    omega
   have hu56 := H5.out.2.2.trans hu6
   have hgn : ub < w4.heap.size := HS.out.lt
   have HSU := aA (show eV w6 ub (.slice (some ⟨ub, 0, none⟩) room room) (fT (cY room (fs.take i)) (p.2.runs.take 0)) from by
    rw [wQ]
    exact HS.out.use.upd hu56 (by simp))
   have H6 := aA (aC ho6 (aC hu6 hu56))
   have hw6 : w4.heap.size ≤ w6.heap.size := hu56.size
   clear ho6 hu6 hu56 HRU hlk
   have hfo' : Hid (∀ r ∈ p.2.runs, r.1 + r.2 ≤ room) := aA HP.out.2.2.2.2.2.1.le
   obtain ⟨RL, hRL⟩ : ∃ RL, RL = p.2.runs.length := ⟨_, rfl⟩
   have HRL := aA hRL
   rw [← hRL] at hrun6 ⊢
   clear hRL
   go_wp2_with fail
   go_loopg [87] RL (fun gh v87 wx => ∃ k : Nat, v87 = .int .i64 k ∧ k ≤ RL ∧ gh = RL - k ∧ Hid (eV wx ub (.slice (some ⟨ub, 0, none⟩) room room) (fT (cY room (fs.take i)) (p.2.runs.take k)) ∧ aB [ub] w6 wx))
   case atStart => exact ⟨0, rfl, dH _, rfl, aA ⟨HSU.out, aB.refl _ _⟩⟩
   case round =>
    obtain ⟨k, rfl, hk, rfl, HU⟩ := hrel
    by_cases hkR : k < RL
    ·have hkR' : (k : Int) < (RL : Int) := by omega
     obtain ⟨y, hy⟩ : ∃ y, p.2.runs[k]? = some y := ⟨_, bL (by rw [← HRL.out]; exact hkR)⟩
     have hrd6 : eA cR 2 wr (.slice a6 RL c6) p.2.runs := by
      rw [HRL.out]
      have h6 := H6.out.1
      exact aK.rd TR (h6.upd HU.out.2 (fun jj hjj e => by have := (h6.block jj e).1; have := aM.1 hjj; have := H5.out.2.2.size; omega))
     obtain ⟨bR, oR, rfl, d0, d1⟩ := hrd6.runs hy
     have hyl := hfo'.out y (fC hy)
     have HUM := aA fun ii (hii : ii < y.2) => Qc hok HP.out.1 hy hii
     have HY := aA hy
     have hya : IntKind.i64.wrap (y.1 : Int) = (y.1 : Int) := fF _ (by omega)
     clear hy hrd6
     obtain ⟨ya, yb⟩ := y
     dsimp only at *
     go_wp2_with fail
     have hU3 : aB [] wr (wr.alloc (.cells #[.int .i64 ya, .int .i64 yb] 148)) := (aB.refl [] wr).alloc _
     have hb3 := aX wr (.cells #[.int .i64 ya, .int .i64 yb] 148)
     have hubw : ub < wr.heap.size := by have := HU.out.2.size; omega
     obtain ⟨B3, hB3⟩ : ∃ B3, B3 = wr.heap.size := ⟨_, rfl⟩
     rw [← hB3] at hb3 ⊢
     have hB3u : ub < B3 := by omega
     obtain ⟨W3, hW3⟩ : ∃ W3, W3 = wr.alloc (.cells #[.int .i64 ya, .int .i64 yb] 148) := ⟨_, rfl⟩
     rw [← hW3] at hU3 hb3 ⊢
     have H3 := aA (aC hU3 (aC hb3 (HU.out.2.trans (hU3.mono (by simp)))))
     have HU3 := aA (HU.out.1.upd hU3 (by simp))
     clear hU3 hb3 hB3 hW3 d0 d1
     go_loopg [93] yb (fun gh v93 wx => ∃ ii : Nat, v93 = .int .i64 ii ∧ ii ≤ yb ∧ gh = yb - ii ∧ Hid (eV wx ub (.slice (some ⟨ub, 0, none⟩) room room) (fT (cY room (fs.take i)) (p.2.runs.take k ++ [(ya, ii)])) ∧ aB [ub] W3 wx))
     case atStart => exact ⟨0, rfl, dH _, rfl, aA ⟨by rw [Hl]; exact HU3.out, aB.refl _ _⟩⟩
     case round =>
      obtain ⟨ii, rfl, hii, rfl, HV⟩ := hrel
      by_cases hiy : ii < yb
      ·have hiy' : (ii : Int) < (yb : Int) := by omega
       obtain ⟨hu1, hu2⟩ := HUM.out ii hiy
       obtain ⟨dU, fU⟩ := Iz HV.out.1 hu2
       have hb3r : wr.heap[B3]? = some (.cells #[.int .i64 ya, .int .i64 yb] 148 (0, 0)) := (HV.out.2.block B3 (aH H3.out.2.1) (by simp; omega)).trans H3.out.2.1
       have d0 : wr.cell? ⟨B3, 0, none⟩ = some (.int .i64 ya) := aD hb3r 0
       have hlt1 : (ya : Int) + (ii : Int) < (room : Int) := by omega
       have hlt2 : ¬ (room : Int) ≤ (ya : Int) + (ii : Int) := by omega
       clear hb3r hu2
       go_wp2_with fail
       go_roundg (yb - (ii + 1))
       case measure => omega
       case rel =>
        refine ⟨ii + 1, by go_num, by omega, rfl, aA ⟨?_, (HV.out.2).setCell (by simp) _ _⟩⟩
        rw [Hm]
        exact CQ HV.out.1 _ (by rw [rC, gO]; exact hu1) true
      obtain rfl : ii = yb := by omega
      have hiy' : ¬ (ii : Int) < (ii : Int) := by omega
      go_wp2_with fail
      go_roundg (RL - (k + 1))
      case measure => omega
      case rel =>
       refine ⟨k + 1, by go_num, by omega, rfl, aA ⟨?_, H3.out.2.2.trans HV.out.2⟩⟩
       rw [iK, HY.out]
       exact HV.out.1
    obtain rfl : k = RL := by omega
    have hkR' : ¬ (k : Int) < (k : Int) := by omega
    have huse7 : eV wr ub (.slice (some ⟨ub, 0, none⟩) room room) (cY room (fs.take (i + 1))) := by
     have := HU.out.1
     rw [show p.2.runs.take k = p.2.runs from dY (by rw [HRL.out]; exact aQ _), Qa HP.out.1] at this
     exact this
    have hu4w : aB [ub] w4 wr := ((H6.out.2.2).mono (by simp)).trans HU.out.2
    have hFoff : ∀ a ∈ FM, a ∉ [ub] := fun a ha q => by
     have := aM.1 q
     rcases HS.out.sub a ha with q2 | q2
     ·have := HS.out.ge; omega
     omega
    have hfil7 := HS.out.fil.upd hu4w hFoff
    have hbox4 := (HS.out.upd.block v hvl (by simp; intro e; obtain ⟨es, ck, hmb, -⟩ := HW.out.2.1; have := HW.out.1; rw [e, hmb] at this; cases this)).trans HW.out.1
    have hbox7 := (hu4w.block v (aH hbox4) (by simp; have := HS.out.ge; omega)).trans hbox4
    have e3 := aD hbox7 3
    simp only [bA, bB, bS] at e3
    obtain ⟨v0, st, w7, hent, hu7, hsto⟩ := fO.entry (hfil7.upd (aB.refl [] wr).drew (by simp)).map (qZ (Df hok.srt i) A) (by simp [dW]; omega) Tryz.underlying82 (z := .pointer none) (fun _ => by kernel_rfl) (bC p.1) (by show p.1.toArray.size ≤ _; have := HP.out.2.2.2.2.1.2; simp; unfold maxLen; omega)
    obtain ⟨w8, hst8, hms8, hu8⟩ := hsto (.pointer (some ⟨q5, 0, none⟩))
    simp only [goInt] at hst8 hent
    have hRr := HR.out.1
    rw [HP.out.2.1] at hRr
    have hlR := HP.out.2.2.2.2.2.2
    obtain ⟨km, hkm⟩ : ∃ km, km = k1 + (jY p.2).length := ⟨_, rfl⟩
    have hkm2 : km ≤ m3 := by rw [hkm, hlR, HK1.out]; simp only [bD]; omega
    have hdrop2 : (aN p.1.length ++ (p.1 ++ (jY p.2 ++ lF fs (i + 1)))).drop km = lF fs (i + 1) := by
     rw [hkm, HK1.out, ← rN, ← rN, kV, kV, kV]
    obtain ⟨a9, c9, -, hcutX, -, hr9, hown9⟩ := hRr.cut km m3 hkm2 (by rw [← hlR]; exact aQ _)
    have hcut9 := hcutX hlR
    rw [hdrop2, dY (by rw [← hdrop2, eD, hlR]; exact aQ _)] at hr9
    have hws : IntKind.i64.wrap ((k1 : Int) + ((jY p.2).length : Int)) = (km : Int) := by rw [fF _ (by omega)]; omega
    have hU48 : aB [mf, ub] w4 w8 := (((hu4w.mono (by simp)).trans ((aB.refl [] wr).drew.mono (by simp))).trans (hu7.mono (by simp))).trans (hu8.mono (by simp))
    have hvm : v ≠ mf := fun e => by obtain ⟨es, ck, hmb, -⟩ := HW.out.2.1; have := HW.out.1; rw [e, hmb] at this; cases this
    have hb7d := gF (aB.refl [] wr).drew hbox7
    have hb7e := (hu7.block v (aH hb7d) (by simp; exact hvm)).trans hb7d
    have hb8e := (hu8.block v (aH hb7e) (by simp; exact hvm)).trans hb7e
    have HE7 : Hid (w7.cell? ⟨v, 3, none⟩ = some (.map (some mf))) := aA (aD hb7e 3)
    have HE8 : Hid (w8.cell? ⟨v, 3, none⟩ = some (.map (some mf))) := aA (aD hb8e 3)
    clear hb7d hb7e hb8e
    have H8 := aA (aC hms8 (aC hU48 (aC hr9 (aC hown9 (aC huse7 (aC hu7 hu8))))))
    clear hms8 hU48 hr9 hown9 huse7 hu7 hu8 hsto hcutX hdrop2 hkm hkm2 hlR hRr hbox4 hbox7 hfil7 hFoff hu4w hk1b hk1m hfl
    obtain ⟨fl, hfl0⟩ : ∃ fl, fl = (jY p.2).length := ⟨_, rfl⟩
    rw [← hfl0] at hws ⊢
    clear hfl0
    go_wp2_with fail
    go_region_held3 (fun X => X.cell? ⟨v, 3, none⟩ = some (.map (some mf)))
     (first
      | (with_reducible exact cN (aB.refl [] wr).drew e3)
      | (exact HE7.out)
      | (exact HE8.out))
     (fail)
    go_wp2_with fail
    go_roundg (L - (i + 1))
    case measure => omega
    case rel =>
     obtain ⟨hms8, hU48, hr9, hown9, huse7, hu7, hu8⟩ := H8.out
     have hmlt : mf < w4.heap.size := by have := HS.out.ge; omega
     have hU58 : aB [mf, ub] w5 w8 := (((((H6.out.2.1.mono (by simp)).trans (HU.out.2.mono (by simp))).trans ((aB.refl [] wr).drew.mono (by simp))).trans (hu7.mono (by simp))).trans (hu8.mono (by simp)))
     have hnd5 := H5.out.1
     have hq5 := H5.out.2.1
     have hrvl : ∀ g, rv5.ownBlock = some g → w4.heap.size ≤ g := fun g hg => (hnd5.2.block g hg).1
     have hubl := HS.out.lt
     have hoff5 : ∀ a, w4.heap.size ≤ a → a ∉ [mf, ub] := fun a ha q => by
      simp only [aJ, cA, cG] at q
      omega
     have hnd8 : iG w8 0 q5 p.2.data.length rv5 p.2.runs := ⟨(hU58.block q5 (aH hnd5.1) (hoff5 _ hq5)).trans hnd5.1, (hnd5.2.upd hU58 fun jj hjj e => hoff5 jj (hrvl jj e) hjj).base (dH _)⟩
     rw [show (bC p.1).data.toList = p.1 by simp [bC]] at hms8
     have hput := HS.out.fil.putG (nm := p.1) (f := p.2) (G := [ub]) (Df hok.srt i) hms8 hU48 (fun a ha q => by
      have := aM.1 q
      rcases HS.out.sub a ha with q2 | q2
      ·have := HS.out.ge; omega
      omega) hnd8 hq5 hrvl
     rw [HP.out.2.2.2.1.2, ← De HP.out.1] at hput
     refine ⟨i + 1, a9, m3 - km, c9, _, _, _, rfl, by simp, by omega, rfl, aA ⟨hput, fun a ha => ?_, ?_, ?_, ?_, HS.out.ge⟩, aA ⟨?_, fun g hg => HR.out.2 g (hown9 g hg)⟩⟩
     ·simp only [aJ, bK, mR] at ha
      rcases ha with rfl | ha | ha
      ·exact .inr (by omega)
      ·have := hrvl a ha; exact .inr (by omega)
      exact HS.out.sub a ha
     ·exact (((huse7.upd (aB.refl [] wr).drew (by simp)).upd hu7 (by simp [Value.ownBlock]; have := HS.out.ge; omega)).upd hu8 (by simp [Value.ownBlock]; have := HS.out.ge; omega))
     ·exact HS.out.upd.next hU48 fun kk hkk hlt => by
       have := HS.out.ge
       simp only [aJ, cA, cG] at hkk ⊢
       rcases hkk with h | h
       ·exact h
       omega
     ·have := hU48.size; omega
     have hr48 := hr9.upd hU48 (fun g hg q => by
      have hg2 := HR.out.2 g (hown9 g hg)
      have hg3 := (HW.out.2.2.2.block g hg2).2
      simp only [aJ, cA, cG] at q
      rcases q with q | q
      ·obtain ⟨es, ck, hmb, -⟩ := HW.out.2.1
       rw [q] at hg2
       exact qW HW.out.2.2.2 hmb hg2
      have := HS.out.ge; omega)
     exact hr48
  obtain rfl : i = L := by omega
  have hiL' : ¬ (i : Int) < (i : Int) := by omega
  have hall : fs.take i = fs := dY (by rw [HL.out.1]; exact aQ _)
  have hS := HS.out
  have hbox4 := (hS.upd.block v hvl (by simp; intro e; obtain ⟨es, ck, hmb, -⟩ := HW.out.2.1; have := HW.out.1; rw [e, hmb] at this; cases this)).trans HW.out.1
  have hqm : q ≠ mf := fun e => by obtain ⟨es, ck, hmb, -⟩ := HW.out.2.1; have := HW.out.2.2.1.box; rw [e, hmb] at this; cases this
  have hnm : ∀ {g : Nat}, nv.ownBlock = some g → g ≠ mf := fun hg e => by obtain ⟨es, ck, hmb, -⟩ := HW.out.2.1; rw [e] at hg; exact qW HW.out.2.2.1.now hmb hg
  have hlm : ∀ {g : Nat}, lv.ownBlock = some g → g ≠ mf := fun hg e => by obtain ⟨es, ck, hmb, -⟩ := HW.out.2.1; rw [e] at hg; exact qW HW.out.2.2.1.last hmb hg
  have hmap4 : fJ wr base q nv lv (List.replicate room false) (List.replicate room false) := HW.out.2.2.1.upd hS.upd (by simp; exact hqm) (fun jj hjj e => hnm e (aM.1 hjj)) (fun jj hjj e => hlm e (aM.1 hjj))
  have e1 := aD hbox4 1
  have e2 := aD hbox4 2
  simp only [bA, bB, bS] at e1 e2
  have HTK := aA (Ho wr hmap4 (by simp) (by simp; omega) room (by rw [pN, Iy]; exact aQ _))
  clear hmap4 e1 hS
  go_wp2_with fail
  refine HTK.out.mono ?_
  rintro r w5 ⟨rv5, rfl, -, hm5, hu5⟩
  rw [pN, Qd, ← Qe room fs] at hm5
  have hub5 : ∀ {g : Nat}, nv.ownBlock = some g → g < ub := fun hg => by have := (HW.out.2.2.1.now.block _ hg).2; have := HS.out.ge; omega
  have hu5' := hu5
  have huse5 : eV w5 ub (.slice (some ⟨ub, 0, none⟩) room room) (cY room fs) := by
   have := HS.out.use
   rw [hall] at this
   exact this.upd hu5 (fun jj hjj e => by
    have h1 : nv.ownBlock = some jj := by simpa using hjj
    have := hub5 h1
    simp [Value.ownBlock] at e
    omega)
  have hnvv : ∀ {g : Nat}, nv.ownBlock = some g → g ≠ v := fun hg e => tH HW.out.2.2.1.now HW.out.1 (by decide) (by rw [hg, e])
  have hnva : ∀ {g : Nat}, nv.ownBlock = some g → (Value.slice aa am ac).ownBlock ≠ some g := fun hg e => by
   rcases HW.out.2.2.2.2 with ⟨h1, -⟩ | ⟨g', cap, cur, h1, -, hh, -⟩
   ·rw [h1] at e; cases e
   rw [h1] at e
   cases e
   exact tH HW.out.2.2.1.now hh (by decide) hg
  have hbox5 := (hu5.block v (aH hbox4) (fun q => hnvv (by simpa using q) rfl)).trans hbox4
  have hql5 : q < w5.heap.size := aH hm5.box
  have H5 := aA (aC hu5 (aC huse5 hbox5))
  have HM5 := aA hm5
  have HNV := aA (aC (fun g (h : nv.ownBlock = some g) => hnvv h) (aC (fun g (h : nv.ownBlock = some g) => hnva h) (aC (fun g (h : nv.ownBlock = some g) => hnm h) (fun g (h : nv.ownBlock = some g) => hub5 h))))
  have hlt5 : ub < w5.heap.size := by have := hu5.size; have := HS.out.lt; omega
  have hqub : q < ub := by have := HS.out.ge; omega
  clear hu5 hu5' huse5 hbox5 hm5 hnvv hnva hnm hlm HTK e2 hub5
  go_wp2_with fail
  go_loopg [143] room (fun gh v143 wx => ∃ (ii : Nat) (nvi : Value), v143 = .int .i64 ii ∧ ii ≤ room ∧ gh = room - ii ∧ Hid (fJ wx base q nvi lv (nQ room fs ii) (List.replicate room false) ∧ aB [q] w5 wx ∧ ∀ g, nvi.ownBlock = some g → nv.ownBlock = some g ∨ w5.heap.size ≤ g))
  case atStart => exact ⟨0, nv, rfl, dH _, rfl, aA ⟨HM5.out, aB.refl _ _, fun g hg => .inl hg⟩⟩
  case round =>
   obtain ⟨ii, nvi, rfl, hii, rfl, HV⟩ := hrel
   have hbx := (HV.out.2.1.block v (aH H5.out.2.2) (by simp; intro e; have h1 := H5.out.2.2; have h2 := HM5.out.box; rw [e, h2] at h1; cases h1)).trans H5.out.2.2
   have e2 := aD hbx 2
   simp only [bA, bB, bS] at e2
   by_cases hir : ii < room
   ·have hir' : (ii : Int) < (room : Int) := by omega
    have huse := H5.out.2.1.upd HV.out.2.1 (fun jj hjj e => by have := aM.1 hjj; simp [Value.ownBlock] at e; omega)
    obtain ⟨dU, fU⟩ := Iz huse (sG fs hir)
    by_cases hin : ii ∈ bH fs
    ·have hdec : decide (ii ∈ bH fs) = true := decide_eq_true hin
     rw [hdec] at dU
     have HIN := aA hin
     clear hin hdec huse hbx
     go_wp2_with fail
     go_roundg (room - (ii + 1))
     case measure => omega
     case rel => exact ⟨ii + 1, nvi, by go_num, by omega, rfl, aA ⟨by rw [Qg HIN.out]; exact HV.out.1, HV.out.2⟩⟩
    have hdec : decide (ii ∈ bH fs) = false := decide_eq_false hin
    rw [hdec] at dU
    have HIN := aA hin
    have HGV := aA fun (X : World) (u : aB [] wr X) (B : Nat) (hB : X.heap[B]? = some (.cells #[.int .i64 ii, .int .i64 1] 148 (0, 0))) => Hr X (HV.out.1.upd u (by simp) (by simp) (by simp)) (by rw [AC]; omega) (by rw [AC]; omega) (Qj (n := 1) hB) (by simp) (by simp [AC]; omega) (by rw [mV]; simp) (fun b hb => by
     have e : bY [(ii, 1)] = [ii] := by rw [mV]; rfl
     rw [e] at hb
     rw [aM.1 hb]
     exact Qi hir)
    clear hin hdec huse hbx
    go_wp2_with fail
    have hua : aB [] wr (wr.alloc (.cells #[.int .i64 ii, .int .i64 1] 148)) := (aB.refl [] wr).alloc _
    refine (HGV.out _ hua _ (aX _ _)).mono ?_
    rintro r w8 ⟨rfl, nv8, hm8, hu8, hn8⟩
    have hs8 : wr.heap.size ≤ (wr.alloc (.cells #[.int .i64 ii, .int .i64 1] 148)).heap.size := hua.size
    go_wp2_with fail
    go_roundg (room - (ii + 1))
    case measure => omega
    case rel => exact ⟨ii + 1, nv8, by go_num, by omega, rfl, aA ⟨by rw [← Qh HIN.out]; exact hm8, (HV.out.2.1.trans (hua.mono (by simp))).trans hu8, fun g hg => .inr (by have := hn8 g hg; have := HV.out.2.1.size; omega)⟩⟩
   obtain rfl : ii = room := by omega
   have hir' : ¬ (ii : Int) < (ii : Int) := by omega
   have hm9 := HV.out.1
   rw [Qf] at hm9
   have HAC := aA (FZ wr hm9 (by rw [gO]; omega))
   clear hm9 e2
   have e2 := aD hbx 2
   simp only [bA, bB, bS] at e2
   go_wp2_with fail
   refine HAC.out.mono ?_
   rintro r w9 ⟨rfl, lv9, hm9, hu9, hn9⟩
   have hvq : v ≠ q := fun e => by have h1 := H5.out.2.2; have h2 := HM5.out.box; rw [e, h2] at h1; cases h1
   have hbox9 := (hu9.block v (aH hbx) (by simp; exact hvq)).trans hbx
   have hu59 : aB [q] w5 w9 := HV.out.2.1.trans hu9
   have hFlt := HS.out.fil.lt
   have hq4 : ∀ a ∈ FM, a ∉ [q] := fun a ha e => by
    have := aM.1 e
    rcases HS.out.sub a ha with q2 | q2
    ·exact hqm (by rw [← this, q2])
    omega
   have hnvF : ∀ a ∈ FM, a ∉ nv.ownBlock.toList := fun a ha e => by
    have h1 : nv.ownBlock = some a := by simpa using e
    rcases HS.out.sub a ha with q2 | q2
    ·exact HNV.out.2.2.1 a h1 q2
    have := HNV.out.2.2.2 a h1; omega
   have hfil9 : dL w9 mf fs A R FM := by
    have h4 := HS.out.fil
    rw [hall] at h4
    exact (h4.upd H5.out.1 hnvF).upd hu59 hq4
   have hoq : ∀ {g : Nat}, (Value.slice aa am ac).ownBlock = some g → g ∉ mf :: q :: nv.ownBlock.toList := fun hg e => by
    simp only [aJ, mR] at e
    rcases e with e | e | e
    ·obtain ⟨es, ck, hmb, -⟩ := HW.out.2.1
     rw [e] at hg
     exact qW HW.out.2.2.2 hmb hg
    ·exact tH HW.out.2.2.2 HW.out.2.2.1.box (by decide) (by rw [hg, e])
    exact HNV.out.2.1 _ e hg
   have hu09 : aB (mf :: q :: nv.ownBlock.toList) w w9 := ((HS.out.upd.mono (by simp)).trans (H5.out.1.mono (fun kk hkk _ => by simp only [aJ]; exact .inr (.inr hkk)))).trans (hu59.mono (by simp))
   have hva9 : Ow w9 0 (.slice aa am ac) (dT fs) := HW.out.2.2.2.upd hu09 (fun jj hjj e => hoq e hjj)
   have e3 := aD hbox9 3
   have e5 := aD hbox9 5
   simp only [bA, bB, bS] at e3 e5
   have HLD := aA fun (X : World) (u : aB [] w9 X) => If X (hfil9.upd u (by simp)) hok (by omega)
   have HEQ := aA fun (X : World) (u : aB [] w9 X) (vb : Value) (hb : Rd X vb (dT fs)) => xC X ((Ow.rd hva9).keep u) hb
   have H9 := aA (aC hm9 (aC hn9 (aC hbox9 (aC hfil9 hu09))))
   clear hm9 hu9 hn9 hbox9 hfil9 hu09 hu59 hva9 hbx hoq e2
   go_wp2_with fail
   go_region_held3 (fun X => X.cell? ⟨v, 3, none⟩ = some (.map (some mf)) ∧ X.cell? ⟨v, 5, none⟩ = some (.slice aa am ac))
    (first
     | (with_reducible exact iT (aB.refl [] w9).drew ⟨e3, e5⟩)
     | (with_reducible exact iT hv10 ⟨e3, e5⟩))
    (first
     | (go_at_call 49; (with_reducible refine (HLD.out _ ?_).mono ?_); (exact (aB.refl [] w9).drew); rintro e w10 ⟨v10, rfl, ho10, hu10⟩; have hv10 : aB [] w9 w10 := (aB.refl [] w9).drew.trans hu10; obtain ⟨a10, c10, m10, hm10, rfl⟩ := ho10.sliceM; have HO10 := aA ho10; clear hm10)
     | (go_at_call 111; (with_reducible refine (HEQ.out _ hv10 _ (Ow.rd HO10.out)).mono ?_); rintro e w11 ⟨rfl, rfl⟩))
   go_wp2_with fail
   go_ret
   obtain ⟨hm9, hn9, hbox9, hfil9, hu09⟩ := H9.out
   have hs5 := H5.out.1.size
   have hs4 := HS.out.lt
   have hge := HS.out.ge
   have hs9 := HV.out.2.1.size
   refine ⟨by simp, A, R, FM, nvi, lv9, gF hv10 hbox9, hfil9.upd hv10 (by simp), hm9.upd hv10 (by simp) (by simp) (by simp), hu09.trans (hv10.mono (by simp)), fun a ha => ?_, fun g hg => ?_, fun g hg => ?_, fun a ha => ⟨fun e => ?_, fun e => ?_⟩⟩
   ·rcases HS.out.sub a ha with q2 | q2
    ·exact .inl q2
    exact .inr (by omega)
   ·rcases HV.out.2.2 g hg with q2 | q2
    ·exact .inl q2
    exact .inr (by omega)
   ·have := hn9 g hg; omega
   ·have h1 := hFlt a ha
    rcases HV.out.2.2 a e with q2 | q2
    ·exact hnvF a ha (by simp [q2])
    omega
   have h1 := hFlt a ha
   have := hn9 a e
   omega
def Qm (w : World) (p : Nat) (D : aI) (F : List Nat) (room k : Nat) (fs : aG) (r : Ending) (w' : World) : Prop :=
 ∃ (e : Nat) (D' : aI) (vv : Value), r = .returned (.tuple #[vv, .int .i64 e]) ∧ iO D e D' 100 ∧
  (e = 0 → ∃ v s' X, vv = .pointer (some ⟨v, 0, none⟩) ∧ dM w' v p D' room (k + 1) s' fs fs X ∧ aB F w w' ∧ ∀ i ∈ X.fp v, i ∈ F ∨ w.heap.size ≤ i) ∧
  (e ≠ 0 → vv = .pointer none ∧ (∃ F', bN w' p D' F' ∧ aB F w w' ∧ ∀ i ∈ F', i ∈ F ∨ w.heap.size ≤ i) ∧ ∀ l', iM D'.blk l' → ∃ k', k' ≤ k + 1 ∧ jB l' room k' fs)
theorem IB {k s : Nat} {w : List Wr} (h : gA w) : (gZ k s w).length ≤ 60 := by
 have := h.many
 unfold gZ eL fR
 simp
 omega
theorem kH.new {w : World} {c m : Nat} (h : Bc.Rep Bc.C.bI w c m 16 []) (V : Nat → Bs) : kH w c m [] V [c, m] :=
 ⟨h, by simp, fun x hx => by simp at hx, fun a ha => by simpa [Bc.foot] using ha, fun x hx => by simp at hx⟩
theorem Qn {b : Bs} (_h : b.length = 8192) {i : Nat} (_hi : i < 16) : b.take (512 * i) ++ dK b i = b.take (512 * (i + 1)) := by
 unfold dK
 rw [show 512 * (i + 1) = 512 * i + 512 by omega, List.take_add, mD i 512]
theorem IC (w : World) {p : Nat} {D : aI} {F : List Nat} (h : bN w p D F) (hdn : D.down = false) (hwr : D.wr ≤ 137438940000) {room k : Nat} {fs : aG} (hR : jB D.blk room k fs) (hn : room + 36 = D.n) (h1 : 1 ≤ room) (hk : k + 1 < 2 ^ 61) :
  Calls Tryz.prog 33 #[.pointer (some ⟨p, 0, none⟩)] w (Qm w p D F room k fs) := by
 obtain ⟨s, ws, hs2, hwok, hlow, hqr, hal, hinv⟩ := hR.mount (by omega : k < 2 ^ 61)
 have hfew := hR.few
 have hbn := h.bounds
 have HO := aA (GQ w h hdn (by omega) (by omega : k < 2 ^ 61) hqr (by omega))
 have HAL := aA hal
 have hlen := IB (k := k) (s := s) hwok
 have hFl := h.lt
 have HINV := aA hinv
 clear h hqr hal hinv
 have hmm := @run_makeMap Tryz.prog
 go_in
 go_wp2_with fail
 refine HO.out.mono ?_
 rintro r w1 ⟨e, D1, F1, v1, rfl, hE1, hD1, hU1, hF1, hbad1, hok1⟩
 have hEr := hE1.err
 have hw1 := hE1.wr
 have H1 := aA (aC hE1 (aC hD1 (aC hU1 hF1)))
 clear hE1 hD1 hU1 hF1 HO
 rcases hEr with rfl | rfl
 ·obtain ⟨j, rfl, hlog, hj, hjF⟩ := hok1 rfl
  rw [show D.n - 20 = room + 16 by omega] at hlog
  have HCN := aA fun X : World => Bc.C.Ca 16 X (by omega) (by omega)
  have HAN := aA fun X : World => MH X room (by omega)
  have HSZ := aA fun (X : World) (u : aB [] w1 X) => Mt X (hlog.upd u (by simp))
  have HLG := aA hlog
  have hn1 : D1.n = D.n := H1.out.1.n
  have hws : IntKind.i64.wrap (((room + 16 : Nat) : Int) - 16) = (room : Int) := by rw [fF _ (by omega)]; omega
  clear hbad1 hok1 hlog
  go_wp2_with fail
  refine (HCN.out _).mono ?_
  rintro r w2 ⟨c, m, rfl, hrep, hu2, hc2, hm2⟩
  have HU2 := aA hu2
  have HRP := aA hrep
  clear hrep hu2
  go_wp2_with fail
  refine (HSZ.out _ HU2.out).mono ?_
  rintro r w2' ⟨rfl, rfl⟩
  go_wp2_with fail
  refine (HAN.out _).mono ?_
  rintro r w4 ⟨nv, lv, rfl, hu4, hm4⟩
  have hs12 := HU2.out.size
  have hs24 := hu4.size
  have hmade := World.ownsMap_made (H := Value) w4 Tryz.prog 9 iN
  have HM4 := aA hm4
  have HU4 := aA hu4
  clear hm4 hu4
  go_wp2_with fail
  obtain ⟨q, hq⟩ : ∃ q, q = w2'.heap.size + 1 + 1 := ⟨_, rfl⟩
  rw [← hq] at HM4 ⊢
  obtain ⟨v, hv⟩ : ∃ v, v = w4.heap.size + 1 := ⟨_, rfl⟩
  rw [← hv]
  obtain ⟨mf, hmf⟩ : ∃ mf, mf = w4.heap.size := ⟨_, rfl⟩
  rw [← hmf] at hmade ⊢
  have hu45 : aB [] w4 ((w4.alloc (.map #[] 0)).alloc (.cells #[.pointer (some ⟨j, 0, none⟩), .pointer (some ⟨c, 0, none⟩), .pointer (some ⟨q, 0, none⟩), .map (some mf), .map none, .slice none 0 0, .bool false] 84)) := ((aB.refl [] w4).alloc _).alloc _
  have hb5 : ((w4.alloc (.map #[] 0)).alloc (.cells #[.pointer (some ⟨j, 0, none⟩), .pointer (some ⟨c, 0, none⟩), .pointer (some ⟨q, 0, none⟩), .map (some mf), .map none, .slice none 0 0, .bool false] 84)).heap[v]? = some (boxG j c q mf (.map none) (.slice none 0 0) false) := by
   rw [heap_alloc, aF (by simp; exact hv)]
  have hms5 : fO ((w4.alloc (.map #[] 0)).alloc (.cells #[.pointer (some ⟨j, 0, none⟩), .pointer (some ⟨c, 0, none⟩), .pointer (some ⟨q, 0, none⟩), .map (some mf), .map none, .slice none 0 0, .bool false] 84)) mf [] := mJ hmade ((aB.refl [] _).alloc _) (by simp)
  have hsz5 : ((w4.alloc (.map #[] 0)).alloc (.cells #[.pointer (some ⟨j, 0, none⟩), .pointer (some ⟨c, 0, none⟩), .pointer (some ⟨q, 0, none⟩), .map (some mf), .map none, .slice none 0 0, .bool false] 84)).heap.size = mf + 2 := by simp [hmf]
  generalize ((w4.alloc (.map #[] 0)).alloc (.cells #[.pointer (some ⟨j, 0, none⟩), .pointer (some ⟨c, 0, none⟩), .pointer (some ⟨q, 0, none⟩), .map (some mf), .map none, .slice none 0 0, .bool false] 84)) = W5 at *
  have hvm : v = mf + 1 := by omega
  have hmf1 : w1.heap.size ≤ mf := by omega
  have hjl := aH HLG.out
  have hql4 := aH HM4.out.box
  have hu15 : aB [] w1 W5 := (HU2.out.trans HU4.out).trans hu45
  have hF1l := H1.out.2.1.lt
  have hp1 : p < w1.heap.size := H1.out.2.1.lt p H1.out.2.1.p_mem
  have hd0 : bN W5 p D1 F1 := H1.out.2.1.upd hu15 (by simp)
  have hl0 : bZ W5 j p (room + 16) (k + 1) false := HLG.out.upd hu15 (by simp)
  have HS0 := aA (aC hd0 (aC hl0 (aC hb5 (aC hms5 hu45))))
  have HU15 := aA hu15
  have hszw : W5.heap.size = mf + 2 := hsz5
  have HQ := aA (aC hq (aC hv hmf))
  clear hmade hd0 hl0 hb5 hms5 hu45 hu15 hsz5 hq hv hmf HSZ HAN HCN hmm
  have hhome : ∀ i, i < 16 → (D1.blk (20 + i)).view = dK (dT fs) i := fun i hi => by
   rw [H1.out.1.up.2.2.2, HINV.out.quiet.home i hi]; rfl
  have hd8 := HINV.out.now.dir_len (by omega)
  have HH := aA (aC hhome hd8)
  have HVM := aA hvm
  clear hhome hd8 hvm
  go_loopg [38] 16 (fun gh v38 wr => ∃ (i : Nat) (Di : aI) (vi : Value), v38 = .int .i64 i ∧ i ≤ 16 ∧ gh = 16 - i ∧ Hid (bV [] D1 0 Di ∧ bN wr p Di F1 ∧ bZ wr j p (room + 16) (k + 1) false ∧ wr.heap[v]? = some (boxG j c q mf (.map none) vi false) ∧ aB [v, p, j] W5 wr) ∧ Hid (Ow wr (mf + 2) vi ((dT fs).take (512 * i))))
  case atStart => exact ⟨0, D1, .slice none 0 0, rfl, by omega, rfl, aA ⟨bV.refl H1.out.1.up.2.1, HS0.out.1, HS0.out.2.1, HS0.out.2.2.1, aB.refl _ _⟩, aA (by simp; exact aK.nil _ _)⟩
  case round =>
   obtain ⟨i, Di, vi, rfl, hi, rfl, HS, HV⟩ := hrel
   have hDw := HS.out.1.wr
   by_cases hi16 : i < 16
   ·have hi16' : (i : Int) < 16 := by omega
    have HJR := aA (FT wr HS.out.2.2.1 HS.out.2.1 HS.out.1.up.2.1 (by rw [HS.out.1.n, hn1]; omega) (by simp at hDw; omega) hjF i (by omega))
    go_wp2_with fail
    refine HJR.out.mono ?_
    rintro r w6 ⟨e, D6, v6, rfl, hE6, hD6, hL6, hu6, hok6, hbad6⟩
    have hEr := hE6.err
    have hpm : p < mf + 2 := by have := HU15.out.size; omega
    have hjm : j < mf + 2 := by have := HU15.out.size; omega
    have hvlt := aH HS.out.2.2.2.1
    have hb6 : w6.heap[v]? = some (boxG j c q mf (.map none) vi false) := (hu6.block v (aH HS.out.2.2.2.1) (by
     have := HVM.out
     simp; omega)).trans HS.out.2.2.2.1
    have hU6 : aB [v, p, j] W5 w6 := HS.out.2.2.2.2.trans (hu6.mono (by simp))
    have hv6 : Ow w6 (mf + 2) vi ((dT fs).take (512 * i)) := HV.out.upd hu6 fun jj hjj e => by
     have := (HV.out.block jj e).1
     simp only [aJ, cA, cG] at hjj
     omega
    have hE6' : bV [] D1 e D6 := HS.out.1.next hE6
    have H6 := aA (aC hE6' (aC hD6 (aC hL6 (aC hb6 (aC hU6 hv6)))))
    clear hE6 hD6 hL6 hU6 hE6' HJR
    rcases hEr with rfl | rfl
    ·have hnb := hok6 rfl
     have hvw : (Di.blk (20 + i)).view = dK (dT fs) i := by rw [HS.out.1.up.2.2.2]; exact HH.out.1 i hi16
     rw [hvw] at hnb
     have hb5 := BG HH.out.2 hi16
     obtain ⟨hrd, hlow⟩ := hnb.rd hb5
     obtain ⟨B, rfl, -, -⟩ := hnb
     obtain ⟨ai, ci, mi, hmi, rfl⟩ := hv6.sliceM
     have c5 := aD hb6 5
     have f5 := aZ hb6 5
     simp only [bA, bB, bS] at c5
     have HRD := aA hrd
     have HBL := aA hb5
     have hs6 : mf + 2 ≤ w6.heap.size := by have := H6.out.2.2.2.2.1.size; omega
     clear hmi hb6 hv6 hok6 hbad6 hrd hlow hvw hb5 hu6
     go_wp2_with (first
      | (at_builtin; go_loud (refine fS T8 rfl _ _ rfl (l := (dT fs).take (512 * i)) rfl H6.out.2.2.2.2.2 (by rw [HBL.out]; rfl) HRD.out.src (lQ _) ?c1 ?c2 ?c3 ?_))
      | fail)
     case c1 => rw [HBL.out, bX]; omega
     case c2 => rw [HBL.out, bX]; omega
     case c3 => exact hs6
     intro v8 w8 ho8 hg8 hn8
     rw [Qn HH.out.2 hi16] at ho8
     have hg8u := tI hg8
     have hob : ∀ kk ∈ (Value.slice ai mi ci).ownBlock.toList, mf + 2 ≤ kk := fun kk hkk => (H6.out.2.2.2.2.2.block kk (by simpa using hkk)).1
     have hb8 : w8.heap[v]? = some (boxG j c q mf (.map none) (.slice ai mi ci) false) := (hg8u.block v (aH H6.out.2.2.2.1) (fun q => by have := hob v q; have := HVM.out; omega)).trans H6.out.2.2.2.1
     obtain ⟨a8, c8', m8, hm8, rfl⟩ := ho8.sliceM
     have g5 := aD hb8 5
     have gf5 := aZ hb8 5
     simp only [bA, bB, bS] at g5
     have H8 := aA (aC ho8 (aC hg8u (aC hob hb8)))
     clear ho8 hg8 hg8u hob hb8 hn8 hm8 c5 f5
     go_wp2_with fail
     go_roundg (16 - (i + 1))
     case measure => omega
     case rel =>
      obtain ⟨ho8, hg8, hob, hb8⟩ := H8.out
      have hoff : ∀ a, a < mf + 2 → a ∉ (Value.slice ai mi ci).ownBlock.toList := fun a ha q => by have := hob a q; omega
      have hus : aB [v] w8 (w8.setCell ⟨v, 5, none⟩ (.slice a8 m8 c8')) := (aB.refl [v] w8).setCell (by simp) _ _
      have hvF : v ∉ F1 := fun q => by have := hF1l v q; have := HU15.out.size; have := HU2.out.size; have := HVM.out; omega
      refine ⟨i + 1, D6, .slice a8 m8 c8', by go_num, by omega, rfl, aA ⟨H6.out.1, (H6.out.2.1.upd hg8 (fun a ha q => hoff a (by have := hF1l a ha; have := HU15.out.size; omega) q)).upd hus (fun a ha q => hvF (by rw [← aM.1 q]; exact ha)), (H6.out.2.2.1.upd hg8 (hoff j hjm)).upd hus (by simp; have := HU2.out.size; have := HVM.out; omega), ?_, ?_⟩, aA ?_⟩
      ·rw [bJ, aF rfl, hb8]; rfl
      ·exact (H6.out.2.2.2.2.1.next hg8 fun a ha hlt => by have := hob a ha; omega).trans (hus.mono (by simp))
      exact ho8.upd hus fun jj hjj e => by have := (ho8.block jj e).1; have := aM.1 hjj; have := HVM.out; omega
    obtain rfl := hbad6 (by omega)
    go_wp2_with fail
    go_ret2
    obtain ⟨hE6, hD6, -, -, hU6, -⟩ := H6.out
    have hs15 := HU15.out.size
    refine ⟨2, D6, _, rfl, (H1.out.1.ran (c := 60) hlen).next (hE6.ran (c := 0) (by simp)) |>.more (by omega), fun h => absurd h (by omega), fun _ => ⟨rfl, ⟨F1, hD6, ?_, H1.out.2.2.2⟩, fun l' hc => ?_⟩⟩
    ·refine ((H1.out.2.2.1.trans (HU15.out.mono (by simp))).next hU6 fun a ha hlt => ?_)
     simp only [aJ, cA, cG] at ha
     have := H1.out.2.2.1.size
     have := HVM.out
     rcases ha with q | q | q
     ·omega
     ·rcases H1.out.2.2.2 p H1.out.2.1.p_mem with q2 | q2
      ·rw [q]; exact q2
      omega
     omega
    obtain ⟨-, -, -, p1, q1, he, hbk⟩ := hE6.dn (by omega)
    have : p1 = [] := (AU.1 he.symm).1
    subst this
    rw [hbk, sS, H1.out.1.up.2.2.2] at hc
    exact ⟨k + 1, aQ _, HINV.out.crash hc⟩
   obtain rfl : i = 16 := by omega
   have hi16' : ¬ ((16 : Nat) : Int) < 16 := by omega
   have hva := HV.out
   rw [dY (by rw [HH.out.2]; omega)] at hva
   have hs5w := HS.out.2.2.2.2.size
   have hvmo := HVM.out
   obtain ⟨hq0, hv0, hmf0⟩ := HQ.out
   have hqne : q ≠ v ∧ q ≠ p ∧ q ≠ j := ⟨by omega, by omega, by omega⟩
   have hlow : ∀ {g : Nat}, w2'.heap.size ≤ g → g < mf → g ∉ [v, p, j] := fun h1 h2 hq => by
    simp only [aJ, cA, cG] at hq
    omega
   have hmr : fJ wr w2'.heap.size q nv lv (List.replicate room false) (List.replicate room false) := (HM4.out.upd HS0.out.2.2.2.2 (by simp) (by simp) (by simp)).upd HS.out.2.2.2.2 (by simp; exact hqne) (fun jj hjj e => hlow (HM4.out.now.block jj e).1 (by rw [hmf0]; exact (HM4.out.now.block jj e).2) hjj) (fun jj hjj e => hlow (HM4.out.last.block jj e).1 (by rw [hmf0]; exact (HM4.out.last.block jj e).2) hjj)
   have hmm : fO wr mf [] := mJ HS0.out.2.2.2.1 HS.out.2.2.2.2 (by simp; omega)
   have HRD := aA (Ql wr HS.out.2.2.2.1 hmm hmr (hva.base (dH _)) HINV.out.now hfew h1)
   have HX := aA (aC hva (aC hmr hmm))
   clear hva hmr hmm hq0 hv0 hmf0 hvmo hqne hlow
   go_wp2_with fail
   refine HRD.out.mono ?_
   rintro r w6 ⟨rfl, A, R, FM, nv6, lv6, hb6, hf6, hm6, hu6, hFM6, hnv6, hlv6, hap6⟩
   have hvM : v ∉ FM := fun e => by
    have hvmo := HVM.out
    rcases hFM6 v e with h | h
    ·omega
    have := aH HS.out.2.2.2.1; omega
   have HK := aA (Is w6 hb6 hf6 HINV.out.now hvM)
   have H6 := aA (aC hf6 (aC hm6 (aC hu6 (aC hFM6 (aC hnv6 (aC hlv6 hap6))))))
   clear hf6 hm6 hu6 hFM6 hnv6 hlv6 hap6 hb6
   go_wp2_with fail
   refine HK.out.mono ?_
   rintro r w7 ⟨rfl, mn, A2, R2, FL, hb7, hf7, hu7, hn7⟩
   go_wp2_with fail
   go_ret2
   obtain ⟨hE, hD, hL, hbw, hUw⟩ := HS.out
   obtain ⟨hf6, hm6, hu6, hFM6, hnv6, hlv6, hap6⟩ := H6.out
   obtain ⟨hva, hmr, hmm⟩ := HX.out
   obtain ⟨hq0, hv0, hmf0⟩ := HQ.out
   have hvmo := HVM.out
   have hcl : c < w2'.heap.size := aH HRP.out.lay.cache
   have hml : m < w2'.heap.size := by obtain ⟨es, ck, hh, -⟩ := HRP.out.map; exact aH hh
   have hsw1 := H1.out.2.2.1.size
   have hs6 := hu6.size
   have hnvo : ∀ {g : Nat}, nv.ownBlock = some g → w2'.heap.size ≤ g ∧ g < mf ∧ g ≠ q := fun hg => ⟨(HM4.out.now.block _ hg).1, by rw [hmf0]; exact (HM4.out.now.block _ hg).2, HM4.out.ne1 _ hg⟩
   have hu67 : ∀ {a : Nat}, a < w2'.heap.size → a ∉ mf :: q :: nv.ownBlock.toList := fun ha e => by
    simp only [aJ, mR] at e
    rcases e with e | e | e
    ·omega
    ·omega
    have := hnvo e; omega
   have hF1p : ∀ a ∈ F1, a < w1.heap.size := hF1l
   have hdev7 : bN w7 p Di F1 := (hD.upd hu6 fun a ha => hu67 (by have := hF1p a ha; omega)).upd hu7 fun a ha e => by have := hF1p a ha; have := aM.1 e; omega
   have hlog7 : bZ w7 j p (room + 16) (k + 1) false := (hL.upd hu6 (hu67 (by omega))).upd hu7 (by simp; omega)
   have hca7 : kH w7 c m [] (fun x => (Di.blk (20 + x)).view) [c, m] := by
    have hcm : ∀ a ∈ [c, m], w1.heap.size ≤ a ∧ a < w2'.heap.size := fun a ha => by
     simp only [aJ, cA, cG] at ha
     rcases ha with rfl | rfl
     ·exact ⟨hc2, hcl⟩
     exact ⟨hm2, hml⟩
    have h0 := (kH.new HRP.out (fun x => (Di.blk (20 + x)).view)).upd (HU4.out.trans HS0.out.2.2.2.2) (by simp)
    refine ((h0.upd hUw fun a ha e => ?_).upd hu6 fun a ha => hu67 (hcm a ha).2).upd hu7 fun a ha e => ?_
    ·have := hcm a ha
     simp only [aJ, cA, cG] at e
     omega
    have := hcm a ha
    have := aM.1 e
    omega
   have hblk : Di.blk = exec (gZ k s ws) D.blk := by rw [hE.up.2.2.2, sS]; exact H1.out.1.up.2.2.2
   have hvoff : ∀ {g : Nat}, vi.ownBlock = some g → mf + 2 ≤ g ∧ g < wr.heap.size := fun hg => hva.block _ hg
   have hva7 : Ow w7 0 vi (dT fs) := ((hva.upd hu6 fun jj hjj e => by
    have h1 := hvoff e
    simp only [aJ, mR] at hjj
    rcases hjj with q1 | q1 | q1
    ·omega
    ·omega
    have := hnvo q1; omega).upd hu7 fun jj hjj e => by have h1 := hvoff e; have := aM.1 hjj; omega).base (dH _)
   have hnv7 : ∀ {g : Nat}, nv6.ownBlock = some g → (w2'.heap.size ≤ g ∧ g < mf ∧ g ≠ q) ∨ (wr.heap.size ≤ g ∧ g < w6.heap.size) := fun hg => by
    rcases hnv6 _ hg with h | h
    ·exact .inl (hnvo h)
    exact .inr ⟨h, (hm6.now.block _ hg).2⟩
   have hlv7 : ∀ {g : Nat}, lv6.ownBlock = some g → wr.heap.size ≤ g ∧ g < w6.heap.size := fun hg => ⟨hlv6 _ hg, (hm6.last.block _ hg).2⟩
   have hm7 := hm6.upd hu7 (by simp; omega) (fun jj hjj e => by have := hnv7 e; have := aM.1 hjj; omega) (fun jj hjj e => by have := hlv7 e; have := aM.1 hjj; omega)
   have hwrmf : mf + 2 ≤ wr.heap.size := by have := hUw.size; omega
   have hUall : aB F w w7 := by
    refine ((((H1.out.2.2.1.trans (HU15.out.mono (by simp))).next hUw fun a ha hlt => ?_).next hu6 fun a ha hlt => ?_).next hu7 fun a ha hlt => ?_)
    ·simp only [aJ, cA, cG] at ha
     rcases ha with q1 | q1 | q1
     ·omega
     ·rcases H1.out.2.2.2 p H1.out.2.1.p_mem with q2 | q2
      ·rw [q1]; exact q2
      omega
     omega
    ·simp only [aJ, mR] at ha
     rcases ha with q1 | q1 | q1
     ·omega
     ·omega
     have := hnvo q1; omega
    have := aM.1 ha; omega
   refine ⟨0, Di, _, rfl, ((H1.out.1.ran (c := 60) hlen).next (hE.ran (c := 0) (by simp))).more (by omega), fun _ => ⟨v, 1 - s, { j := j, c := c, q := q, m := m, mf := mf, ml := mn, base := w2'.heap.size, va := vi, nv := nv6, lv := lv6, F := F1, FC := [c, m], FM := FM, FL := FL, l := [], V := fun x => (Di.blk (20 + x)).view, A := A, A' := A2, R := R, R' := R2, T := fun a => if a < w1.heap.size then (if a = j then 2 else 3) else if a < w2'.heap.size then 4 else if a < mf then (if a = q then 7 else 8) else if a = mf then 5 else if a = v then 1 else if a < wr.heap.size then 10 else if a < w6.heap.size then (if nv6.ownBlock = some a then 8 else if lv6.ownBlock = some a then 9 else 5) else 6 }, rfl, ⟨hb7, ⟨hlog7, hdev7, hca7, hjF, by simp; omega, fun a ha e => ?_, by rw [hE.n, hn1]; omega, fun a ha => ?_⟩, hf6.upd hu7 (fun a ha e => hvM (by rw [← aM.1 e]; exact ha)), hf7, hm7, hva7, hE.up.2.1, by rw [hblk]; exact HINV.out, fun b hb => ?_, ?_⟩, hUall, ?_⟩, fun h => absurd rfl h⟩
   ·simp only [aJ, cA, cG] at ha
    have := hF1p a e
    omega
   ·simp only [aJ, cA, cG] at ha
    have := hUw.size; have := hu7.size
    omega
   ·show (Di.blk (20 + (16 + b))).view = _
    rw [show 20 + (16 + b) = 36 + b by omega]
   ·exact {
     v := by show (if _ then _ else _) = _; rw [aE (by omega), aE (by omega), aE (by omega), aE (by omega), aF rfl]
     j := by show (if _ then _ else _) = _; rw [aF hjl, aF rfl]
     F := fun a ha => by show (if _ then _ else _) = _; rw [aF (hF1p a ha), aE (fun e => hjF (by rw [← e]; exact ha))]
     FC := fun a ha => by
      have hcm : w1.heap.size ≤ a ∧ a < w2'.heap.size := by
       rcases aJ.1 ha with e | e
       ·rw [e]; exact ⟨hc2, hcl⟩
       rw [aM.1 e]; exact ⟨hm2, hml⟩
      show (if _ then _ else _) = _
      rw [aE (by omega), aF (by omega)]
     FM := fun a ha => by
      show (if _ then _ else _) = _
      rcases hFM6 a ha with h | h
      ·rw [aE (by omega), aE (by omega), aE (by omega), aF h]
      have := hf6.lt a ha
      rw [aE (by omega), aE (by omega), aE (by omega), aE (by omega), aE (by omega), aE (by omega), aF this, aE (hap6 a ha).1, aE (hap6 a ha).2]
     FL := fun a ha => by
      show (if _ then _ else _) = _
      have h0 : w6.heap.size ≤ a := hn7 a ha
      have n1 : ¬ a < w1.heap.size := by omega
      have n2 : ¬ a < w2'.heap.size := by omega
      have n3 : ¬ a < mf := by omega
      have n4 : ¬ a = mf := by omega
      have n5 : ¬ a = v := by omega
      have n6 : ¬ a < wr.heap.size := by omega
      have n7 : ¬ a < w6.heap.size := by omega
      rw [aE n1, aE n2, aE n3, aE n4, aE n5, aE n6, aE n7]
     q := by show (if q < w1.heap.size then _ else (if q < w2'.heap.size then _ else (if q < mf then (if q = q then _ else _) else _))) = _; rw [aE (by omega), aE (by omega), aF (by omega), aF rfl]
     nv := fun g hg => by
      show (if _ then _ else _) = _
      rcases hnv7 hg with h | h
      ·rw [aE (by omega), aE (by omega), aF h.2.1, aE h.2.2]
      rw [aE (by omega), aE (by omega), aE (by omega), aE (by omega), aE (by omega), aE (by omega), aF h.2, aF hg]
     lv := fun g hg => by
      show (if _ then _ else _) = _
      have h := hlv7 hg
      rw [aE (by omega), aE (by omega), aE (by omega), aE (by omega), aE (by omega), aE (by omega), aF h.2, aE (fun e => hm6.sep g e hg), aF hg]
     va := fun g hg => by
      show (if _ then _ else _) = _
      have h := hvoff hg
      rw [aE (by omega), aE (by omega), aE (by omega), aE (by omega), aE (by omega), aF h.2] }
   intro a ha
   rcases aV.1 ha with h | h | h | h | h | h | h | h | h | h
   ·exact .inr (by omega)
   ·have e : a = j := h
    exact .inr (by omega)
   ·have e : a = q := h
    exact .inr (by omega)
   ·exact H1.out.2.2.2 a h
   ·have e : a ∈ [c, m] := h
    simp only [aJ, cA, cG] at e
    exact .inr (by omega)
   ·rcases hFM6 a h with h2 | h2
    ·exact .inr (by omega)
    exact .inr (by omega)
   ·have := hn7 a h; exact .inr (by omega)
   ·rcases hnv7 (show nv6.ownBlock = some a from h) with h2 | h2
    ·exact .inr (by omega)
    exact .inr (by omega)
   ·have := hlv7 (show lv6.ownBlock = some a from h); exact .inr (by omega)
   have := hvoff (show vi.ownBlock = some a from h); exact .inr (by omega)
 obtain rfl := hbad1 (by omega)
 go_wp2_with fail
 go_ret2
 refine ⟨2, D1, _, rfl, (H1.out.1.ran (c := 60) hlen).more (by omega), fun h => absurd h (by omega), fun _ => ⟨rfl, ⟨F1, H1.out.2.1, H1.out.2.2.1, H1.out.2.2.2⟩, fun l' hc => ?_⟩⟩
 obtain ⟨-, -, -, p1, q1, he, hbk⟩ := H1.out.1.dn (by omega)
 rw [hbk] at hc
 exact HAL.out p1 q1 he l' hc
section
variable {w w' : World} {v p : Nat} {D : aI} {room k s : Nat} {fs last : aG} {X : fV}
theorem dM.next (h : dM w v p D room k s fs last X) {G : List Nat} (u : aB G w w') (hG : ∀ i ∈ G, i = v ∨ i = X.j ∨ i = X.q ∨ i = X.mf) (hb : w'.heap[v]? = some (eW X.j X.c X.q X.mf X.ml X.va false)) (hl : bZ w' X.j p (room + 16) k false) {fs' : aG} {A : Bs → Nat} {R : Bs → Value} {FM : List Nat}
  (hf : dL w' X.mf fs' A R FM) (hFM : ∀ i ∈ FM, i ∈ X.FM ∨ w.heap.size ≤ i) {nv : Value} (hm : fJ w' X.base X.q nv X.lv (cY room fs') (cY room last)) (hnv : nv = X.nv ∨ ∀ g, nv.ownBlock = some g → w.heap.size ≤ g ∧ g ∉ FM) (hinv : eY D.blk room k s fs' last) : lD w v p room X D k s fs' last w' := by
 have sp := h.sep
 have hlt := h.lt
 have hGf : ∀ i ∈ G, i ∈ X.fp v := fun i hi => by
  rcases hG i hi with q | q | q | q
  ·exact aV.2 (by simp [q])
  ·exact aV.2 (by simp [q])
  ·exact aV.2 (by simp [q])
  exact aV.2 (by simp [q, h.fil.mem])
 have hoff : ∀ {i x : Nat}, X.T i = x → x ≠ 1 → x ≠ 2 → x ≠ 5 → x ≠ 7 → i ∉ G := fun h1 h2 h3 h4 h5 hi => by
  rcases hG _ hi with q | q | q | q
  ·exact eI h1 sp.v h2 q
  ·exact eI h1 sp.j h3 q
  ·exact eI h1 sp.q h5 q
  exact eI h1 (sp.FM _ h.fil.mem) h4 q
 have old : ∀ {i x : Nat}, i ∈ X.fp v → X.T i = x → (if w.heap.size ≤ i then (if i ∈ FM then 5 else 8) else X.T i) = x := fun h1 h2 => by
  rw [aE (by have := hlt _ h1; omega), h2]
 refine ⟨{ X with A := A, R := R, FM := FM, nv := nv, T := fun i => if w.heap.size ≤ i then (if i ∈ FM then 5 else 8) else X.T i }, ⟨hb, ⟨hl, h.log.dev.upd u fun i hi => hoff (sp.F i hi) (by decide) (by decide) (by decide) (by decide), h.log.ca.upd u fun i hi => hoff (sp.FC i hi) (by decide) (by decide) (by decide) (by decide), h.log.jF, h.log.jC, h.log.ap, h.log.nD, fun i hi => dN (h.log.lt i hi) u.size⟩,
  hf, h.las.upd u fun i hi => hoff (sp.FL i hi) (by decide) (by decide) (by decide) (by decide), hm, h.dir.upd u fun i hi e => hoff (sp.va i e) (by decide) (by decide) (by decide) (by decide) hi, h.up, hinv, h.see, ?_⟩, AA u hGf, fun i hi => ?_⟩
 ·exact {
   v := old (aV.2 (by simp)) sp.v
   j := old (aV.2 (by simp)) sp.j
   F := fun i hi => old (aV.2 (by simp at hi; simp [hi])) (sp.F i hi)
   FC := fun i hi => old (aV.2 (by simp at hi; simp [hi])) (sp.FC i hi)
   FM := fun i hi => by
    show (if _ then _ else _) = _
    rcases hFM i hi with q | q
    ·exact old (aV.2 (by simp [q])) (sp.FM i q)
    rw [aF q, aF hi]
   FL := fun i hi => old (aV.2 (by simp at hi; simp [hi])) (sp.FL i hi)
   q := old (aV.2 (by simp)) sp.q
   nv := fun g hg => by
    show (if _ then _ else _) = _
    have hg' : nv.ownBlock = some g := hg
    rcases hnv with q | q
    ·rw [q] at hg'; exact old (aV.2 (by simp [hg'])) (sp.nv g hg')
    have := q g hg'; rw [aF this.1, aE this.2]
   lv := fun g hg => old (aV.2 (by simp at hg; simp [hg])) (sp.lv g hg)
   va := fun g hg => old (aV.2 (by simp at hg; simp [hg])) (sp.va g hg) }
 rcases aV.1 hi with q | q | q | q | q | q | q | q | q | q
 ·exact .inl (aV.2 (by simp [q]))
 ·exact .inl (aV.2 (by simp at q; simp [q]))
 ·exact .inl (aV.2 (by simp at q; simp [q]))
 ·exact .inl (aV.2 (by simp at q; simp [q]))
 ·exact .inl (aV.2 (by simp at q; simp [q]))
 ·rcases hFM i q with q | q
  ·exact .inl (aV.2 (by simp [q]))
  exact .inr q
 ·exact .inl (aV.2 (by simp at q; simp [q]))
 ·have q' : nv.ownBlock = some i := q
  rcases hnv with e | e
  ·rw [e] at q'; exact .inl (aV.2 (by simp [q']))
  exact .inr (e i q').1
 ·exact .inl (aV.2 (by simp at q; simp [q]))
 exact .inl (aV.2 (by simp at q; simp [q]))
theorem Qo {fs : aG} (hs : cP bQ fs) {nm : Bs} (hg : bF fs nm = none) (room : Nat) : cY room (cQ bQ fs nm pT) = cY room fs := Pj fun b => by
 rw [Da hs, wZ]
 constructor
 ·rintro (h | ⟨p, hp, -, hb⟩)
  ·simp at h
  exact nW hp hb
 intro h
 obtain ⟨p, hp, hb⟩ := lK.1 h
 exact .inr ⟨p, hp, uA.1 hg p hp, hb⟩
theorem Qp {fs : aG} (hok : dC room fs) {nm : Bs} {f : bO} (hg : bF fs nm = some f) : kK (cY room fs) f.runs = cY room (dJ fs nm) := by
 refine CX (by rw [Hp, gO]) fun b hb => ?_
 rw [Hq, sG fs hb]
 have hmem : b ∈ bH (dJ fs nm) ↔ ∃ p ∈ fs, p.1 ≠ nm ∧ b ∈ p.2.blks := by
  constructor
  ·intro h
   obtain ⟨p, hp, hb⟩ := lK.1 h
   exact ⟨p, (mX.1 hp).1, (mX.1 hp).2, hb⟩
  rintro ⟨p, hp, hn, hb⟩
  exact lK.2 ⟨p, mX.2 ⟨hp, hn⟩, hb⟩
 by_cases q : b ∈ bY f.runs
 ·rw [aF q]
  have : b ∉ bH (dJ fs nm) := fun h => by
   obtain ⟨p, hp, hn, hb⟩ := hmem.1 h
   exact zH hok.nodup hp (eU hg) hn b hb q
  simp [this]
 rw [aE q]
 have : b ∈ bH fs ↔ b ∈ bH (dJ fs nm) := by
  rw [Db hok.srt hg, hmem]
  constructor
  ·rintro (h | h)
   ·exact absurd h q
   exact h
  exact .inr
 simp [this]
theorem Qq {fs : aG} {nm : Bs} (hg : bF fs nm = none) : dJ fs nm = fs := by
 unfold dJ
 rw [wN]
 intro p hp
 have := uA.1 hg p hp
 simp [this]
theorem dC.inUse {fs : aG} (h : dC room fs) (hr : room ≤ 512) {nm : Bs} {f : bO} (hg : bF fs nm = some f) : Il (cY room fs) f where
 few := by have := (h.ok _ (eU hg)).small hr; exact this.len
 fit := fun r hr' => ⟨oT (h.ok _ (eU hg)).canon r hr', by rw [gO]; exact (h.ok _ (eU hg)).le r hr'⟩
 nd := Az h.nodup (eU hg)
 use := fun b hb => by
  have hb' : b ∈ f.blks := hb
  rw [sG fs ((h.ok _ (eU hg)).blks_lt b hb')]
  simp [nW (eU hg) hb']
theorem vZ (h : dM w v p D room k s fs last X) : (false || (false || D.down)) = false := by rw [h.up]; rfl
def uT (fs : aG) (nm : Bs) : aG := if iI false fs nm = 0 then cQ bQ fs nm pT else fs
theorem ID {fs : aG} {nm : Bs} (h : iI false fs nm = 0) : (1 ≤ nm.length ∧ nm.length ≤ 40) ∧ bF fs nm = none ∧ fs.length < 64 := by
 unfold iI at h
 rw [aE (by decide)] at h
 split at h
 ·omega
 split at h
 ·omega
 split at h
 ·omega
 rename_i h1 h2 h3
 refine ⟨by omega, ?_, by omega⟩
 cases hg : bF fs nm with
 | none => rfl
 | some f => rw [hg] at h2; exact absurd rfl h2
theorem Qr (h : dM w v p D room k s fs last X) (nm : ByteArray) (hs : nm.size ≤ maxLen) :
  Calls Tryz.prog 11 #[.pointer (some ⟨v, 0, none⟩), .string nm] w fun r w' => r = .returned (.int .i64 (iI false fs nm.data.toList)) ∧ lD w v p room X D k s (uT fs nm.data.toList) last w' := by
 obtain ⟨o1, o2, o3, o4, o5, o6, o7, o8, o9, o10, o11, o12, o13, o14, o15⟩ := h.off
 have hfew := h.inv.few
 refine (Pb w h.box h.log.log h.log.dev (by omega) o1 h.fil h.inv.now.srt h.inv.now.few o4 o9 nm hs).mono ?_
 rintro r w' ⟨rfl, hb, hl, hbad, hok⟩
 rw [vZ h] at hb hbad hok
 rw [h.up] at hl
 refine ⟨by rw [vZ h], ?_⟩
 unfold uT
 by_cases hc : iI false fs nm.data.toList = 0
 ·rw [aF hc]
  obtain ⟨a, ha, hu, hf⟩ := hok hc
  obtain ⟨hn, hg, h64⟩ := ID hc
  have hG : ∀ i ∈ [v, X.j, X.mf], i = v ∨ i = X.j ∨ i = X.q ∨ i = X.mf := fun i hi => by
   simp only [aJ, cA, cG] at hi
   rcases hi with q | q | q <;> simp [q]
  have sp := h.sep
  refine h.next hu hG hb (by simpa using hl) hf (fun i hi => ?_) (nv := X.nv) ?_ (.inl rfl) (h.inv.create hn hg h64)
  ·rcases aJ.1 hi with q | q
   ·rw [q]; exact .inr ha
   exact .inl q
  rw [Qo h.inv.now.srt hg]
  have off : ∀ {i x : Nat}, X.T i = x → x ≠ 1 → x ≠ 2 → x ≠ 5 → i ∉ [v, X.j, X.mf] := fun h1 h2 h3 h4 hi => by
   simp only [aJ, cA, cG] at hi
   rcases hi with q | q | q
   ·exact eI h1 sp.v h2 q
   ·exact eI h1 sp.j h3 q
   exact eI h1 (sp.FM _ h.fil.mem) h4 q
  exact h.map.upd hu (off sp.q (by decide) (by decide) (by decide)) (fun i hi e => off (sp.nv i e) (by decide) (by decide) (by decide) hi) (fun i hi e => off (sp.lv i e) (by decide) (by decide) (by decide) hi)
 rw [aE hc]
 have hu := hbad hc
 exact lD.same (h.used hu hb (by simpa using hl)) (dM.upd_used hu)
theorem Qs (h : dM w v p D room k s fs last X) (h1 : 1 ≤ room) (nm : ByteArray) (hs : nm.size ≤ maxLen) :
  Calls Tryz.prog 116 #[.pointer (some ⟨v, 0, none⟩), .string nm] w fun r w' => r = .returned (.int .i64 (nL false fs nm.data.toList)) ∧ lD w v p room X D k s (dJ fs nm.data.toList) last w' := by
 obtain ⟨o1, o2, o3, o4, o5, o6, o7, o8, o9, o10, o11, o12, o13, o14, o15⟩ := h.off
 have hfew := h.inv.few
 refine (Pg w h.box h.log.log h.log.dev (by omega) o1 h.fil o4 o9 h.map (by rw [gO]; omega) (by rw [gO]; omega) o14 (fun e => o6 e.symm) (fun e => o11 e.symm) nm hs fun f hg => h.inv.now.inUse (by omega) hg).mono ?_
 rintro r w' ⟨rfl, hb, hl, hbad, hok⟩
 rw [vZ h] at hb hbad hok
 rw [h.up] at hl
 refine ⟨by rw [vZ h], ?_⟩
 by_cases hc : nL false fs nm.data.toList = 0
 ·obtain ⟨f, nv', hg, hu, hf, hm, hnv⟩ := hok hc
  rw [Qp h.inv.now hg] at hm
  refine h.next hu (fun i hi => ?_) hb (by simpa using hl) hf (fun i hi => .inl hi) hm (.inr fun g hg => ⟨hnv g hg, fun q => ?_⟩) (h.inv.remove _)
  ·simp only [aJ, cA, cG] at hi
   rcases hi with q | q | q | q <;> simp [q]
  have := hnv g hg
  have := h.fil.lt g q
  omega
 have hu := hbad hc
 have hn : bF fs nm.data.toList = none := by
  unfold nL at hc
  rw [aE (by decide)] at hc
  cases hg : bF fs nm.data.toList with
  | none => rfl
  | some f => rw [hg] at hc; exact absurd rfl hc
 rw [Qq hn]
 exact lD.same (h.used hu hb (by simpa using hl)) (dM.upd_used hu)
def SL (fs : aG) (a b : Bs) : aG := if Ph false fs a b ≠ 0 ∨ a = b then fs else match bF fs a with | some f => cQ bQ (dJ (dJ fs b) a) b f | none => fs
def rE (fs : aG) (nm : Bs) : Nat × Nat := match bF fs nm with | some f => (f.data.length, 0) | none => (0, 80)
theorem Qt (h : dM w v p D room k s fs last X) (nm : ByteArray) (hs : nm.size ≤ maxLen) :
  Calls Tryz.prog 54 #[.pointer (some ⟨v, 0, none⟩), .string nm] w fun r w' => r = .returned (.tuple #[.int .i64 (rE fs nm.data.toList).1, .int .i64 (rE fs nm.data.toList).2]) ∧ lD w v p room X D k s fs last w' := by
 obtain ⟨o1, o2, o3, o4, o5, o6, o7, o8, o9, o10, o11, o12, o13, o14, o15⟩ := h.off
 have hfew := h.inv.few
 refine (OZ w h.box h.log.log h.log.dev (by omega) o1 h.fil o4 o9 nm hs).mono ?_
 rintro r w' ⟨rfl, hb, hl, hu⟩
 rw [vZ h] at hb
 rw [h.up] at hl
 refine ⟨?_, lD.same (h.used hu hb (by simpa using hl)) (dM.upd_used hu)⟩
 rw [vZ h, aE (by decide)]
 unfold rE
 cases bF fs nm.data.toList <;> rfl
theorem Qu (h : dM w v p D room k s fs last X) :
  Calls Tryz.prog 78 #[.pointer (some ⟨v, 0, none⟩)] w fun r w' => r = .returned (.int .i64 (nP room fs last)) ∧ lD w v p room X D k s fs last w' := by
 have hfew := h.inv.few
 refine (Pc w h.box h.map (by rw [gO, gO]) (by rw [gO]; omega)).mono ?_
 rintro r w' ⟨rfl, hu⟩
 refine ⟨?_, lD.same (h.keep hu (by simp)) (hu.mono (by simp))⟩
 rw [gO]; rfl
theorem Qv (h : dM w v p D room k s fs last X) :
  Calls Tryz.prog 75 #[.pointer (some ⟨v, 0, none⟩)] w fun r w' => ∃ u, r = .returned u ∧ gV w' w.heap.size u (fs.map (·.1)) ∧ aB [] w w' ∧ dM w' v p D room k s fs last X := by
 refine (Pd w h.box h.fil h.inv.now.srt h.inv.now.few).mono ?_
 rintro r w' ⟨u, rfl, ho, hu⟩
 exact ⟨u, rfl, ho, hu, h.keep hu (by simp)⟩
def Qw (w : World) (v p : Nat) (D : aI) (room k s : Nat) (fs last : aG) (X : fV) (nm : Bs) (at_ cnt : Int) (r : Ending) (w' : World) : Prop :=
 ∃ (e : Nat) (D' : aI) (rv : Value), r = .returned (.tuple #[rv, .int .i64 (if e = 0 then fW fs nm at_ cnt else e : Nat)]) ∧ iO D e D' 0 ∧ (e = 0 → D'.blk = D.blk) ∧
  (e = 0 → (∃ X', dM w' v p D' room k s fs last X' ∧ aB (X.fp v) w w' ∧ (∀ i ∈ X'.fp v, i ∈ X.fp v ∨ w.heap.size ≤ i) ∧ ∀ g, rv.ownBlock = some g → g ∉ X'.fp v) ∧ (fW fs nm at_ cnt = 0 → Ow w' w.heap.size rv (oF fs nm at_ cnt)) ∧ (fW fs nm at_ cnt ≠ 0 → rv = .slice none 0 0)) ∧
  (e ≠ 0 → rv = .slice none 0 0 ∧ AB w v p X D' w' ∧ ∀ l', iM D'.blk l' → jB l' room k last)
theorem Qx (h : dM w v p D room k s fs last X) (hwr : D.wr ≤ 137438953000) (nm : ByteArray) (hs : nm.size ≤ maxLen) (at_ cnt : Int) :
  Calls Tryz.prog 56 #[.pointer (some ⟨v, 0, none⟩), .string nm, .int .i64 at_, .int .i64 cnt] w (Qw w v p D room k s fs last X nm.data.toList at_ cnt) := by
 obtain ⟨o1, o2, o3, o4, o5, o6, o7, o8, o9, o10, o11, o12, o13, o14, o15⟩ := h.off
 have hfew := h.inv.few
 have sp := h.sep
 refine (Pq w h.box h.log h.up (by omega) hwr o1 o2 o3 h.fil o4 (fun i hi => ⟨eI (sp.FM i hi) sp.j (by decide), fun q => eI (sp.FM i hi) (sp.F i q) (by decide) rfl, fun q => eI (sp.FM i hi) (sp.FC i q) (by decide) rfl⟩) h.inv.now (by omega) h.see h.inv.sized h.inv.holds nm hs at_ cnt).mono ?_
 rintro r w' ⟨e, D', l', FC', rv, rfl, hE, hb, hA, hu, hFC, hok, hbad⟩
 have hlt := h.lt
 have hfp : aB (X.fp v) w w' := AA hu fun i hi => by
  simp only [aJ, bK] at hi
  rcases hi with q | q | q | q <;> exact aV.2 (by simp [q])
 refine ⟨e, D', rv, rfl, hE.ran (by simp), fun he => by subst he; exact hE.up.2.2.2, fun he => ?_, fun he => ?_⟩
 ·subst he
  have hblk : D'.blk = D.blk := hE.up.2.2.2
  have hoff : ∀ {i x : Nat}, X.T i = x → x ≠ 1 → x ≠ 2 → x ≠ 3 → x ≠ 4 → i ∉ v :: X.j :: (X.F ++ X.FC) := fun h1 h2 h3 h4 h5 hi => by
   simp only [aJ, bK] at hi
   rcases hi with q | q | q | q
   ·exact eI h1 sp.v h2 q
   ·exact eI h1 sp.j h3 q
   ·exact eI h1 (sp.F _ q) h4 rfl
   exact eI h1 (sp.FC _ q) h5 rfl
  have old : ∀ {i x : Nat}, i ∈ X.fp v → X.T i = x → (if w.heap.size ≤ i then 4 else X.T i) = x := fun h1 h2 => by
   rw [aE (by have := hlt _ h1; omega), h2]
  refine ⟨⟨{ X with FC := FC', l := l', T := fun i => if w.heap.size ≤ i then 4 else X.T i }, ⟨hb, hA, h.fil.upd hu fun i hi => hoff (sp.FM i hi) (by decide) (by decide) (by decide) (by decide), h.las.upd hu fun i hi => hoff (sp.FL i hi) (by decide) (by decide) (by decide) (by decide),
   h.map.upd hu (hoff sp.q (by decide) (by decide) (by decide) (by decide)) (fun i hi e => hoff (sp.nv i e) (by decide) (by decide) (by decide) (by decide) hi) (fun i hi e => hoff (sp.lv i e) (by decide) (by decide) (by decide) (by decide) hi), h.dir.upd hu (fun i hi e => hoff (sp.va i e) (by decide) (by decide) (by decide) (by decide) hi), hE.up.2.1, by rw [hblk]; exact h.inv, fun b hb' => by rw [hblk]; exact h.see b hb', ?_⟩, hfp, fun i hi => ?_, fun g hg hm => ?_⟩, fun hc => (hok rfl hc).1, fun hc => hbad (.inr hc)⟩
  ·exact {
    v := old (aV.2 (by simp)) sp.v
    j := old (aV.2 (by simp)) sp.j
    F := fun i hi => old (aV.2 (by simp at hi; simp [hi])) (sp.F i hi)
    FC := fun i hi => by
     show (if _ then _ else _) = _
     rcases hFC i hi with q | q
     ·exact old (aV.2 (by simp [q])) (sp.FC i q)
     rw [aF q]
    FM := fun i hi => old (aV.2 (by simp at hi; simp [hi])) (sp.FM i hi)
    FL := fun i hi => old (aV.2 (by simp at hi; simp [hi])) (sp.FL i hi)
    q := old (aV.2 (by simp)) sp.q
    nv := fun g hg => old (aV.2 (by simp at hg; simp [hg])) (sp.nv g hg)
    lv := fun g hg => old (aV.2 (by simp at hg; simp [hg])) (sp.lv g hg)
    va := fun g hg => old (aV.2 (by simp at hg; simp [hg])) (sp.va g hg) }
  ·rcases aV.1 hi with q | q | q | q | q | q | q | q | q | q
   ·exact .inl (aV.2 (by simp [q]))
   ·exact .inl (aV.2 (by simp at q; simp [q]))
   ·exact .inl (aV.2 (by simp at q; simp [q]))
   ·exact .inl (aV.2 (by simp at q; simp [q]))
   ·rcases hFC i q with q | q
    ·exact .inl (aV.2 (by simp [q]))
    exact .inr q
   ·exact .inl (aV.2 (by simp at q; simp [q]))
   ·exact .inl (aV.2 (by simp at q; simp [q]))
   ·exact .inl (aV.2 (by simp at q; simp [q]))
   ·exact .inl (aV.2 (by simp at q; simp [q]))
   exact .inl (aV.2 (by simp at q; simp [q]))
  by_cases hc : fW fs nm.data.toList at_ cnt = 0
  ·obtain ⟨ho, hn⟩ := hok rfl hc
   have hb := (ho.block g hg).1
   have hold : ∀ i ∈ X.fp v, g ≠ i := fun i h e => by have := hlt i h; omega
   rcases aV.1 hm with q | q | q | q | q | q | q | q | q | q
   ·exact hold _ (aV.2 (by simp)) q
   ·exact hold X.j (aV.2 (by simp)) q
   ·exact hold X.q (aV.2 (by simp)) q
   ·exact hold g (aV.2 (by simp at q; simp [q])) rfl
   ·exact hn g hg q
   ·exact hold g (aV.2 (by simp at q; simp [q])) rfl
   ·exact hold g (aV.2 (by simp at q; simp [q])) rfl
   ·exact hold g (aV.2 (by simp at q; simp [q])) rfl
   ·exact hold g (aV.2 (by simp at q; simp [q])) rfl
   exact hold g (aV.2 (by simp at q; simp [q])) rfl
  rw [hbad (.inr hc)] at hg; cases hg
 obtain ⟨rfl, -, hdn, p1, q1, he2, hbk⟩ := hE.dn he
 have : p1 = [] := (AU.1 he2.symm).1
 subst this
 rw [sS] at hbk
 refine ⟨hbad (.inl he), ⟨v :: X.j :: X.F, ⟨⟨X.j, X.c, X.q, X.mf, X.ml, X.va, _, room + 16, _, _, hb, hA.log, ⟨X.F, hA.dev, fun i hi => by simp [hi], o2, o7⟩, by omega, o1, by simp, by simp⟩, hdn⟩, hfp, fun i hi => ?_⟩, fun l' hc => ?_⟩
 ·simp only [aJ] at hi
  rcases hi with q | q | q <;> exact .inl (aV.2 (by simp [q]))
 rw [hbk] at hc
 exact (h.inv.reset).crash hc
end
theorem Qy {l : Nat → aL} (h : ∀ i, (l i).pend = []) : iM l l := fun i => ⟨h i, by simp [aL.poss]⟩
theorem Qz (k s : Nat) (w : List Wr) (l : Nat → aL) (i : Nat) : (exec (jK k s w) l i).pend = [] := by
 unfold jK fR
 simp only [List.cons_append, List.nil_append, lN, vF, sS]
 rfl
theorem IE (n : Nat) : iE (aI.new n).blk := fun i b hb => by
 simp only [aI.new, aL.poss, aJ, cA, cG] at hb
 subst hb
 exact rR
theorem QA {n : Nat} (h1 : 36 ≤ n) (h2 : n ≤ 512) {l : Nat → aL} (hs : iE l) : jB (exec (xV n) l) (n - 36) 2 [] := by
 unfold xV
 rw [lN, lN]
 exact (Pm h1 h2 hs).crash (Qy fun i => Qz _ _ _ _ _)
def QB (w : World) (n : Nat) (r : Ending) (w' : World) : Prop :=
 ∃ (p v s : Nat) (D : aI) (X : fV), r = .returned (.tuple #[.pointer (some ⟨p, 0, none⟩), .pointer (some ⟨v, 0, none⟩)]) ∧ dM w' v p D (n - 36) 3 s [] [] X ∧ D.fuse < 0 ∧ D.wr ≤ 10000 ∧ aB [] w w' ∧ ∀ i ∈ X.fp v, w.heap.size ≤ i
theorem QC {n : Nat} (h : n ≤ 512) : (xV n).length ≤ 1000 := by
 have h1 : (pH n).length ≤ 600 := by unfold pH; simp; omega
 have h2 := IB (k := 0) (s := 1) (w := []) ⟨by simp, by simp, by simp⟩
 have ho := uB (a := oG) ((dC.nil (512 - 36)).dir_len (by omega))
 have h3 := Iu (k := 2) (s := 0) ho.wok
 unfold xV
 rw [bD, bD]
 omega
theorem QD (w : World) (n : Nat) (h1 : 64 ≤ n) (h2 : n ≤ 512) : Calls Tryz.prog 8 #[.int .i64 n] w (QB w n) := by
 have HN := aA (Ca w n h1 h2)
 go_in
 go_wp2_with fail
 refine HN.out.mono ?_
 rintro r w1 ⟨p, F, rfl, hD, hU, hF⟩
 have HF := aA (PQ w1 hD rfl (by simp [aI.new]) (IE n))
 have H1 := aA (aC hU hF)
 clear hD hU hF HN
 go_wp2_with fail
 refine HF.out.mono ?_
 rintro r w2 ⟨e, D2, F2, rfl, hE2, hD2, hU2, hF2⟩
 have hR2 := hE2.ran (QC (n := (aI.new n).n) h2)
 obtain ⟨rfl, hfu2, hdn2⟩ := hR2.ok (by simp [aI.new]) rfl
 have hblk2 := hE2.up.2.2.2
 have hn2 : D2.n = n := hE2.n
 have hrest := QA (n := n) (by omega) h2 (IE n)
 have hw2 := hR2.wr
 have HM := aA (IC w2 hD2 hdn2 (by simp [aI.new] at hw2; omega) (room := n - 36) (k := 2) (fs := []) (by rw [hblk2]; exact hrest) (by omega) (by omega) (by omega))
 have hw2' : D2.wr ≤ 2000 := by simp [aI.new] at hw2; omega
 have H2 := aA (aC hU2 (aC hF2 (aC hfu2 hdn2)))
 clear hE2 hD2 hU2 hF2 hR2 hblk2 hrest hw2 HF hfu2
 go_wp2_with fail
 refine HM.out.mono ?_
 rintro r w3 ⟨e, D3, vv, rfl, hR3, hok, hbad⟩
 obtain ⟨rfl, hfu3, hdn3⟩ := hR3.ok H2.out.2.2.1 hdn2
 obtain ⟨v, s, X, rfl, hFs, hU3, hfp⟩ := hok rfl
 have hw3 := hR3.wr
 have H3 := aA (aC hFs (aC hU3 (aC hfp hfu3)))
 clear hFs hU3 hfp hR3 hok hbad HM
 go_wp2_with fail
 go_ret2
 obtain ⟨hFs, hU3, hfp, hfu3⟩ := H3.out
 have hs1 := H1.out.1.size
 have hs2 := H2.out.1.size
 have hF2w : ∀ i ∈ F2, w.heap.size ≤ i := fun i hi => by
  rcases H2.out.2.1 i hi with q | q
  ·exact H1.out.2 i q
  omega
 refine ⟨p, v, s, D3, X, rfl, hFs, hfu3, by omega, (H1.out.1.next H2.out.1 fun i hi hlt => ?_).next hU3 fun i hi hlt => ?_, fun i hi => ?_⟩
 ·have := H1.out.2 i hi; omega
 ·have := hF2w i hi; omega
 rcases hfp i hi with q | q
 ·exact hF2w i q
 omega
end Go.Proofs.YtgpefiacbipfpaaGreatDoor
