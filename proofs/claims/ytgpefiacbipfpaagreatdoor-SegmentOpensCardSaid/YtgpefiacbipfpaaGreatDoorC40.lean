/- The document's files: Append, Remove, Rename. -/
import Derived.Test.YtgpefiacbipfpaaGreatDoorC39
set_option maxRecDepth 100000
set_option maxHeartbeats 4000000
namespace Go.Proofs.YtgpefiacbipfpaaGreatDoor
open Go.RowKit Go.Maps
def iC (room : Nat) (now lst : List RF) : Int := (room : Int) - eT lst - eT now + jH now
def qB (room : Nat) (now lst : List RF) (nm : Bs) (k : Nat) : Nat := match fL now nm with | none => 80 | some i => if 32768 < (now.getD i RF.nil).data.length + k then 84 else if iC room now lst < ((bP ((now.getD i RF.nil).data.length + k) : Nat) : Int) - (bP (now.getD i RF.nil).data.length : Nat) then 85 else 0
def tM (room : Nat) (now lst : List RF) (nm d : Bs) : List RF := match fL now nm with | none => now | some i => if qB room now lst nm d.length = 0 then now.set i ⟨(now.getD i RF.nil).nm, (now.getD i RF.nil).data ++ d, (now.getD i RF.nil).old⟩ else now
section
variable {w w' : World} {base rp room : Nat} {nv lv : Value} {now lst : List RF}
theorem Jy (h : dX w base rp room nv lv now lst) (nm : ByteArray) {dv : Value} {d : Bs} (hd : Rd w dv d) (hdl : d.length ≤ 140737488355328) (hr : room ≤ 1000) (hl : now.length ≤ 100) (hll : lst.length ≤ 100) (hsm : ∀ x ∈ now, x.data.length ≤ 32768 ∧ x.old ≤ 64) (hsl : ∀ x ∈ lst, x.data.length ≤ 32768) :
  Calls Tryz.prog 26 #[.pointer (some ⟨rp, 0, none⟩), .string nm, dv] w fun r w' => r = .returned (.int .i64 (qB room now lst nm.data.toList d.length)) ∧ iW w base rp room nv lv (tM room now lst nm.data.toList d) lst w' := by
 have HF := aA (uW h nm)
 have HFr := aA (Jw h hr hl hll hsm hsl)
 obtain ⟨na, nc, rfl⟩ := h.now.slice
 obtain ⟨n, hn⟩ : ∃ n, n = now.length := ⟨_, rfl⟩
 have c1 := aD h.box 1
 simp only [bA, bB, bS] at c1
 obtain ⟨-, hnc, hncm⟩ := rI h.now
 rw [← hn] at c1 hnc
 generalize hL : nm.data.toList = L at *
 clear hL
 have H := aA h
 obtain ⟨da, dc, rfl, hdc, hdcm, -⟩ := hd.slice
 cases hi : fL now L with
 | none =>
  have e1 : fQ now L = -1 := by simp [fQ, hi]
  have e2 : qB room now lst L d.length = 80 := by simp [qB, hi]
  have e3 : tM room now lst L d = now := by simp [tM, hi]
  rw [e1] at HF
  rw [e2, e3]
  clear h hn hi e1 e2 e3 hsm hsl hd
  go_in
  go_wp2_with fail
  refine HF.out.mono ?_
  rintro r w1 ⟨rfl, rfl⟩
  go_wp2_with fail
  go_ret
  exact ⟨rfl, iW.refl H.out (aB.refl [] _)⟩
 | some i =>
  have e1 : fQ now L = (i : Int) := by simp [fQ, hi]
  have hil := (yD hi).1
  obtain ⟨g, rfl, -, hfz, -, d1, -⟩ := rH h.now hil
  have hin : (i : Int) < (n : Int) := by omega
  have hi0 : (0 : Int) ≤ (i : Int) := by omega
  have hgd : now.getD i RF.nil = now[i] := by rw [dI, bL hil]; rfl
  have hdx := hsm _ (fX hil)
  have e2 : qB room now lst L d.length = (if 32768 < now[i].data.length + d.length then 84 else if iC room now lst < ((bP (now[i].data.length + d.length) : Nat) : Int) - (bP now[i].data.length : Nat) then 85 else 0) := by unfold qB; rw [hi]; dsimp only; rw [hgd]
  have e3 : tM room now lst L d = if qB room now lst L d.length = 0 then now.set i ⟨now[i].nm, now[i].data ++ d, now[i].old⟩ else now := by unfold tM; rw [hi]; dsimp only; rw [hgd]
  rw [hgd] at d1
  rw [e1] at HF
  rw [e3, e2]
  have HE := aA (aC hil hgd)
  have HD := aA hd
  have hds := pZ now[i].data
  have f1 := hfz (i * 3 + 1)
  have hfb : -12800 ≤ iC room now lst ∧ iC room now lst ≤ 8000 := by
   have h1 := AL hsl
   have h2 := AL fun x hx => (hsm x hx).1
   have h3 := Jv fun x hx => (hsm x hx).2
   unfold iC
   constructor <;> omega
  change Hid (Calls _ _ _ _ fun r w' => r = Ending.returned (.int .i64 (iC room now lst)) ∧ aB [] w w') at HFr
  generalize iC room now lst = fr at *
  obtain ⟨hf1, hf2⟩ := hfb
  have hx1 := hdx.1
  have HBK := aA fun (X : World) (m : Nat) (hm : m ≤ 1000000000) => AJ X m hm
  obtain ⟨dl, hdle⟩ : ∃ dl, dl = d.length := ⟨_, rfl⟩
  rw [← hdle] at hdl hdc
  obtain ⟨k, hk⟩ : ∃ k, k = now[i].data.length := ⟨_, rfl⟩
  rw [← hk] at hx1 hds
  have HKD := aA (aC hdle hk)
  by_cases q1 : 32768 < k + dl
  ·have q1' : (32768 : Int) - (k : Int) < (dl : Int) := by omega
   rw [← hk, ← hdle, aF q1, aE (by decide)]
   generalize bC now[i].data = s1 at *
   clear h hn hi e1 e2 e3 hsm hsl hd hgd hdx hk hdle q1
   go_in
   go_wp2_with fail
   refine HF.out.mono ?_
   rintro r w1 ⟨rfl, rfl⟩
   go_wp2_with fail
   go_ret
   exact ⟨rfl, iW.refl H.out (aB.refl [] _)⟩
  have q1' : ¬ (32768 : Int) - (k : Int) < (dl : Int) := by omega
  have hb1 : bP (k + dl) ≤ 64 := by unfold bP; omega
  have hb2 : bP k ≤ 64 := by unfold bP; omega
  have hkd : (k : Int) + (dl : Int) = ((k + dl : Nat) : Int) := by omega
  rw [← hk, ← hdle, aE q1]
  have HB1 := aA fun X : World => HBK.out X (k + dl) (by omega)
  have HB2 := aA fun X : World => HBK.out X k (by omega)
  have hdl2 : dl ≤ 32768 := by omega
  generalize hbb1 : bP (k + dl) = b1 at *
  generalize hbb2 : bP k = b2 at *
  by_cases q2 : fr < (b1 : Int) - (b2 : Int)
  ·rw [aF q2, aE (by decide)]
   generalize bC now[i].data = s1 at *
   clear h hn hi e1 e2 e3 hsm hsl hd hgd hdx hk hdle q1 hbb1 hbb2 HBK
   rw [show ((k + dl : Nat) : Int) = (k : Int) + (dl : Int) from hkd.symm] at HB1
   clear hkd
   go_in
   go_wp2_with fail
   refine HF.out.mono ?_
   rintro r w1 ⟨rfl, rfl⟩
   go_wp2_with fail
   refine (HB1.out _).mono ?_
   rintro r w1 ⟨rfl, rfl⟩
   go_wp2_with fail
   refine (HB2.out _).mono ?_
   rintro r w1 ⟨rfl, rfl⟩
   go_wp2_with fail
   refine HFr.out.mono ?_
   rintro r w2 ⟨rfl, hu2⟩
   have HU := aA hu2
   clear hu2
   go_wp2_with fail
   go_ret
   exact ⟨rfl, iW.refl (H.out.keep HU.out) HU.out⟩
  rw [aE q2, aF rfl]
  have hcat : Hid (bC now[i].data ++ bC d = bC (now[i].data ++ d)) := aA (QR _ _)
  have hdz := pZ d
  rw [← hdle] at hdz
  have hk8 : (k : Int) ≤ 8388608 := by omega
  have hd8 : (dl : Int) ≤ 8388608 := by omega
  have HX := aA fun (X : World) (u : aB [] w X) => (H.out.keep u).putOld hil (j := 1) (by omega) (x' := ⟨now[i].nm, now[i].data ++ d, now[i].old⟩) (v := .string (bC (now[i].data ++ d))) rfl
  clear h hn hi e1 e2 e3 hsm hsl hd hgd hdx hk hdle q1 hbb1 hbb2 HBK
  rw [show ((k + dl : Nat) : Int) = (k : Int) + (dl : Int) from hkd.symm] at HB1
  clear hkd
  have d1' : w.cell? ⟨g, i * 3 + 1, none⟩ = some (.string (bC now[i].data)) := d1
  have HC := aA (aC c1 (aC d1 f1))
  generalize hs1 : bC now[i].data = s1 at *
  go_in
  go_wp2_with fail
  refine HF.out.mono ?_
  rintro r w1 ⟨rfl, rfl⟩
  go_wp2_with fail
  refine (HB1.out _).mono ?_
  rintro r w1 ⟨rfl, rfl⟩
  go_wp2_with fail
  refine (HB2.out _).mono ?_
  rintro r w1 ⟨rfl, rfl⟩
  go_wp2_with fail
  refine HFr.out.mono ?_
  rintro r w2 ⟨rfl, hu2⟩
  have HU := aA hu2
  have k1 := cN hu2 HC.out.1
  have k2 := cN hu2 HC.out.2.1
  have k3 : w2.frozen? ⟨g, i * 3 + 1, none⟩ = false := by
   have hb := (H.out.keep hu2).now
   obtain ⟨g', e, -, hz, -⟩ := rH hb hil
   cases e
   exact hz _
  have ht := Rd.str ((HD.out.keep hu2).keep (aB.refl [] w2).drew)
  rw [← HKD.out.1] at ht
  clear hu2 c1 d1 f1 d1'
  generalize hs2 : bC d = s2 at *
  go_wp2_with fail
  go_region
  have HRN : Hid (iW w base rp room (.slice (some ⟨g, 0, none⟩) now.length nc) lv (now.set i ⟨now[i].nm, now[i].data ++ d, now[i].old⟩) lst ((w2.setCell ⟨g, i * 3 + 1, none⟩ (.string (s1 ++ s2))).drew)) := aA (by
   obtain ⟨q3, q4⟩ := HX.out w2 HU.out
   rw [← hcat.out] at q3 q4
   exact ⟨_, _, q3.keep ((aB.refl [] _).drew), (HU.out.mono (by simp)).trans ((q4.mono fun k hk _ => mB.2 (.inr (.inl (by rw [aM.1 hk]; rfl)))).drew), fun _ h => .inl h⟩)
  clear ht k1 k2 k3
  generalize (w2.setCell ⟨g, i * 3 + 1, none⟩ (.string (s1 ++ s2))).drew = w3 at *
  go_wp2_with fail
  go_ret
  exact ⟨rfl, HRN.out⟩
theorem RV (l : List RF) : (aP cF l).length = l.length * 3 := gJ TF l
theorem RW {w : World} {A : Option Addr} {l : List RF} (h : hZ cF w A l) (i : Nat) : hZ cF w A (l.take i) := by
 refine ⟨fun q => by rw [h.1 q]; simp, fun ad q j u hu => h.2 ad q j u ?_⟩
 have e : aP cF l = aP cF (l.take i) ++ aP cF (l.drop i) := by rw [← pU, kW]
 rw [e, kQ]
 ·exact hu
 exact (eX.1 hu).1
theorem RX {w : World} {b : Nat} {l : List RF} (h : hZ cF w (some ⟨b, 0, none⟩) l) (i : Nat) (hi : i ≤ l.length) : hZ cF w (some ⟨b, i * 3, none⟩) (l.drop i) := by
 refine ⟨fun q => (nomatch q), fun ad q j u hu => ?_⟩
 cases q
 have e : aP cF l = aP cF (l.take i) ++ aP cF (l.drop i) := by rw [← pU, kW]
 have hl : (aP cF (l.take i)).length = i * 3 := by rw [RV, bX]; omega
 have := h.2 ⟨b, 0, none⟩ rfl (i * 3 + j) u (by rw [e, oN (by omega), hl, Kd]; exact hu)
 rw [qN] at this ⊢
 rwa [iJ] at this
def yE (now : List RF) (nm : Bs) : Nat := match fL now nm with | none => 80 | some _ => 0
def tN (now : List RF) (nm : Bs) : List RF := match fL now nm with | none => now | some i => now.take i ++ now.drop (i + 1)
theorem Jz (h : dX w base rp room nv lv now lst) (hb : base ≤ w.heap.size) (nm : ByteArray) (hl : now.length ≤ 100) :
  Calls Tryz.prog 73 #[.pointer (some ⟨rp, 0, none⟩), .string nm] w fun r w' => r = .returned (.int .i64 (yE now nm.data.toList)) ∧ iW w base rp room nv lv (tN now nm.data.toList) lst w' := by
 have HF := aA (uW h nm)
 obtain ⟨na, nc, rfl⟩ := h.now.slice
 obtain ⟨n, hn⟩ : ∃ n, n = now.length := ⟨_, rfl⟩
 have c1 := aD h.box 1
 simp only [bA, bB, bS] at c1
 obtain ⟨-, hnc, hncm⟩ := rI h.now
 rw [← hn] at c1 hnc hl
 generalize hL : nm.data.toList = L at *
 clear hL
 have H := aA h
 cases hi : fL now L with
 | none =>
  have e1 : fQ now L = -1 := by simp [fQ, hi]
  have e2 : yE now L = 80 := by simp [yE, hi]
  have e3 : tN now L = now := by simp [tN, hi]
  rw [e1] at HF
  rw [e2, e3]
  clear h hn hi e1 e2 e3
  go_in
  go_wp2_with fail
  refine HF.out.mono ?_
  rintro r w1 ⟨rfl, rfl⟩
  go_wp2_with fail
  go_ret
  exact ⟨rfl, iW.refl H.out (aB.refl [] _)⟩
 | some i =>
  have e1 : fQ now L = (i : Int) := by simp [fQ, hi]
  have e2 : yE now L = 0 := by simp [yE, hi]
  have e3 : tN now L = now.take i ++ now.drop (i + 1) := by simp [tN, hi]
  have hil := (yD hi).1
  obtain ⟨g, rfl, -, -, -, -, -⟩ := rH h.now hil
  have hin : (i : Int) < (n : Int) := by omega
  have hi0 : (0 : Int) ≤ (i : Int) := by omega
  have f1 := aZ h.box 1
  have hrl := aH h.box
  rw [e1] at HF
  rw [e2, e3]
  have HS1 : Hid (∀ X, aB [] w X → hZ cF X (some ⟨g, 0, none⟩) (now.take i)) := aA fun X u => RW (aK.src TF (h.keep u).now) i
  obtain ⟨A2, hA2⟩ : ∃ A2 : Option Addr, (if nc = i + 1 then (some ⟨g, 0, none⟩ : Option Addr) else some ⟨g, (i + 1) * 3, none⟩) = A2 := ⟨_, rfl⟩
  have HS2 : Hid (∀ X, aB [] w X → hZ cF X A2 (now.drop (i + 1))) := aA fun X u => by
   rw [← hA2]
   split
   ·rename_i q
    have : now.drop (i + 1) = [] := Ke (by omega)
    rw [this]
    exact ⟨fun _ => rfl, fun ad _ j u hu => by simp [aP] at hu⟩
   exact RX (aK.src TF (h.keep u).now) (i + 1) (by omega)
  have HK : Hid (∀ X, aB [] w X → X.cell? ⟨rp, 1, none⟩ = some (.slice (some ⟨g, 0, none⟩) n nc) ∧ X.frozen? ⟨rp, 1, none⟩ = false) := aA fun X u => ⟨cN u c1, aZ (h.keep u).box 1⟩
  have hl1 : (now.take i).length = i := by rw [bX]; omega
  have hl2 : (now.drop (i + 1)).length = n - (i + 1) := by rw [eD]; omega
  have HLL := aA (aC hl1 hl2)
  have hnci : (i : Int) ≤ (nc : Int) := by omega
  have hi1 : (i : Int) + 1 ≤ (n : Int) := by omega
  have hi10 : (0 : Int) ≤ (i : Int) + 1 := by omega
  clear h hn hi e1 e2 e3 hil hl1 hl2
  go_in
  go_wp2_with fail
  refine HF.out.mono ?_
  rintro r w1 ⟨rfl, rfl⟩
  have k0 : w.drew.cell? ⟨rp, 1, none⟩ = some (.slice (some ⟨g, 0, none⟩) n nc) := c1
  go_wp2_with fail
  have hw1 : IntKind.i64.wrap ((i : Int) + 1) = (i : Int) + 1 := by rw [Bg]; omega
  have hw2 : ((i : Int) + 1).toNat = i + 1 := by omega
  go_region_law (first
   | (refine lA TF (by rfl) _ _ (by rfl) (base := w.heap.size) (l := []) (r := now.take i) (by rfl) (aK.empty TF (aX _ _) (aQ _)) (by rw [HLL.out.1]; rfl) (HS1.out _ (((aB.refl [] w).drew).alloc _)) (AH _) ?_ ?_ ?_ ?_; (rw [HLL.out.1]; simp; omega); (rw [HLL.out.1]; simp; omega); (simp); intro v6 w6 ho6 hg6 _; obtain ⟨a6, c6, m6, hm6, rfl⟩ := ho6.sliceM; have hu6 : aB [] w w6 := (((aB.refl [] w).drew).alloc _).grown hg6 (fun g hg => by cases hg; exact aQ _); obtain ⟨k6, f6⟩ := HK.out _ hu6; clear hm6)
   | (refine lA TF (by rfl) _ _ (by rfl) (base := w.heap.size) (l := now.take i) (r := now.drop (i + 1)) (by rfl) ho6 (by rw [HLL.out.2]; rfl) (HS2.out _ hu6) (AH _) ?_ ?_ ?_ ?_; (rw [HLL.out.1, HLL.out.2]; omega); (rw [HLL.out.1, HLL.out.2]; omega); (exact hu6.size); intro v7 w7 ho7 hg7 _; obtain ⟨a7, c7, m7, hm7, rfl⟩ := ho7.sliceM; have hu7 : aB [] w w7 := hu6.grown hg7 (fun g hg => (ho6.block g hg).1); obtain ⟨k7, f7⟩ := HK.out _ hu7; clear hm7)
   | fail)
  all_goals
   have HRN : Hid (iW w base rp room (.slice (some ⟨g, 0, none⟩) now.length nc) lv (now.take i ++ now.drop (i + 1)) lst (w7.setCell ⟨rp, 1, none⟩ (.slice a7 m7 c7))) := aA (H.out.putNow (hu7.mono (by simp)) (ho7.base hb) (.inr fun g hg => (ho7.block g hg).1))
   clear hw1 hw2 hu7 ho7 k7 f7 hu6 ho6 k6 f6
   generalize w7.setCell ⟨rp, 1, none⟩ (.slice a7 m7 c7) = w9 at *
   go_wp2_with fail
   go_ret
   exact ⟨rfl, HRN.out⟩
end
theorem Dr {w : World} {o : Obj} {k : Nat} (h : k = w.heap.size) : (w.alloc o).heap[k]? = some o := by subst h; exact aX _ _
section
variable {w w' : World} {base rp room : Nat} {nv lv : Value} {now lst : List RF}
end
structure R2 (w0 w : World) (nv : Value) (N : List Bs) (wv : Value) (xs : List Bs) (G : List Nat) : Prop where
 nms : gV w w0.heap.size nv N
 nG : ∀ g, nv.ownBlock = some g → g ∈ G
 was : gV w w0.heap.size wv xs
 wG : ∀ g, wv.ownBlock = some g → g ∈ G
 nw : ∀ g, wv.ownBlock = some g → nv.ownBlock ≠ some g
theorem AM {w : World} {base : Nat} {v : Value} {l : List Bs} (h : gV w base v l) {i : Nat} (hi : i < l.length) : ∃ g cap, v = .slice (some ⟨g, 0, none⟩) l.length cap ∧ l.length ≤ cap ∧ cap ≤ 9223372036854775807 ∧ w.cell? ⟨g, i, none⟩ = some (.string (bC (l.getD i []))) := by
 obtain ⟨a, c, rfl⟩ := h.slice
 obtain ⟨-, h1, h2, h3⟩ := aK.at TT h
 obtain ⟨g, rfl, -, -, h4⟩ := h3 i hi
 refine ⟨g, c, rfl, h1, by unfold maxLen at h2; omega, ?_⟩
 have := h4 0 _ rfl
 rw [jI, kU] at this
 rw [dI, bL hi]
 exact this
theorem wD {w : World} {base : Nat} {a : Option Addr} {n c : Nat} {l : List Bs} (h : gV w base (.slice a n c) l) : n = l.length ∧ n ≤ c ∧ c ≤ 9223372036854775807 := by
 obtain ⟨h0, h1, h2, -⟩ := aK.at TT h
 exact ⟨h0, h1, by unfold maxLen at h2; omega⟩
section
variable {w0 w w' : World} {nv wv : Value} {N xs : List Bs} {G : List Nat}
end
def iP (fs : aG) : List Bs := fs.map (·.1)
def yF (fs : aG) : List Bs := fs.map (·.2.data)
theorem JA {room : Nat} {fs : aG} (h : dC room fs) {i : Nat} (hi : i < fs.length) : ∃ f, bF fs ((iP fs).getD i []) = some f ∧ f.data = (yF fs).getD i [] ∧ ((iP fs).getD i []).length ≤ 40 := by
 have hm := fX hi
 have hg := mW dD h.srt hm
 have e1 : (iP fs).getD i [] = fs[i].1 := by rw [iP, dI, lL, bL hi]; rfl
 have e2 : (yF fs).getD i [] = fs[i].2.data := by rw [yF, dI, lL, bL hi]; rfl
 exact ⟨_, by rw [e1]; exact hg, e2.symm, by rw [e1]; exact (h.name _ hm).2⟩
theorem JB {w : World} {base g n c : Nat} {l : List Bs} (h : gV w base (.slice (some ⟨g, 0, none⟩) n c) l) {i : Nat} (_hi : i < l.length) (s : Bs) : gV (w.setCell ⟨g, i, none⟩ (.string (bC s))) base (.slice (some ⟨g, 0, none⟩) n c) (l.set i s) := by
 obtain ⟨h0, h2⟩ := h
 have e : ∀ l : List Bs, aP cT l = l.map fun x => Value.string (bC x) := fun l => by
  induction l with
  | nil => rfl
  | cons x l ih => rw [dR, ← ih]; rfl
 rw [e] at h0
 refine ⟨by rw [e, dF, jI], ?_⟩
 rw [tU]
 rcases h2 with ⟨hv, -⟩ | ⟨g', cap, cur, hv, hg, hh, r1, r2, r3, r4⟩
 ·cases hv
 simp only [fG, fY, yX] at hv
 obtain ⟨⟨rfl, -⟩, rfl, rfl⟩ := hv
 refine .inr ⟨g, c, cur.setIfInBounds i (.string (bC s)), rfl, hg, by rw [bJ, aF rfl, hh]; rfl, r1, r2, by rw [Kk]; exact r3, ?_⟩
 rw [wO, yV, r4, e, e, List.map_set]
def iX (a b : Bs) : Prop := bQ b a = false
theorem Dz {a b : Bs} (h : bQ a b = true) : iX a b := dD.asymm h
theorem RY {a b c : Bs} (h : iX a b) (g : iX b c) : iX a c := by
 unfold iX at *
 cases hc : bQ c a with
 | false => rfl
 | true =>
  rcases dD.total a b with e | e | e
  ·subst e; rw [hc] at g; cases g
  ·have := dD.trans _ _ _ hc e; rw [this] at g; cases g
  rw [e] at h; cases h
theorem RZ {a b : Bs} (h : iX a b) (g : iX b a) : a = b := by
 rcases dD.total a b with e | e | e
 ·exact e
 ·unfold iX at g; rw [e] at g; cases g
 unfold iX at h; rw [e] at h; cases h
def fB (l : List Bs) (i : Nat) : Bs := l.getD i []
theorem JC (l : List Bs) (i j : Nat) (x : Bs) (hi : i < l.length) : fB (l.set i x) j = if i = j then x else fB l j := by
 unfold fB
 rw [dI, dI, DM]
 by_cases h : i = j
 ·rw [aF h, aF h, aF hi]; rfl
 rw [aE h, aE h]
def AN (l : List Bs) (n : Nat) : Prop := ∀ a b, a < b → b < n → iX (fB l a) (fB l b)
structure rJ (l : List Bs) (i k : Nat) : Prop where
 oth : ∀ a b, a < b → b ≤ i → a ≠ k → b ≠ k → iX (fB l a) (fB l b)
 beh : ∀ b, k < b → b ≤ i → iX (fB l k) (fB l b)
def qC (l : List Bs) (k : Nat) : List Bs := (l.set k (fB l (k - 1))).set (k - 1) (fB l k)
theorem Sa {l : List Bs} {k : Nat} (hk : k < l.length) (h0 : 0 < k) : (qC l k).Perm l := by
 have e1 : fB l (k - 1) = l[k - 1] := by unfold fB; rw [dI, bL (by omega)]; rfl
 have e2 : fB l k = l[k] := by unfold fB; rw [dI, bL hk]; rfl
 unfold qC
 rw [e1, e2]
 exact List.set_set_perm (by omega) (by omega)
theorem rJ.start {l : List Bs} {i : Nat} (h : AN l i) : rJ l i i where
 oth := fun a b hab hb _ hbk => h a b hab (by omega)
 beh := fun b h1 h2 => by omega
theorem rJ.step {l : List Bs} {i k : Nat} (h : rJ l i k) (hk : k ≤ i) (hi : i < l.length) (h0 : 0 < k) (hlt : bQ (fB l k) (fB l (k - 1)) = true) : rJ (qC l k) i (k - 1) := by
 have hg : ∀ j, fB (qC l k) j = if j = k - 1 then fB l k else if j = k then fB l (k - 1) else fB l j := fun j => by
  unfold qC
  rw [JC _ _ _ _ (by rw [tU]; omega), JC _ _ _ _ (by omega)]
  by_cases q : j = k - 1
  ·rw [aF q.symm, aF q]
  rw [aE (fun e => q e.symm), aE q]
  by_cases q2 : j = k
  ·rw [aF q2.symm, aF q2]
  rw [aE (fun e => q2 e.symm), aE q2]
 refine ⟨fun a b hab hb ha hbk => ?_, fun b h1 h2 => ?_⟩
 ·rw [hg, hg, aE ha, aE hbk]
  by_cases q : a = k
  ·rw [aF q, aE (by omega)]
   exact h.oth (k - 1) b (by omega) hb (by omega) (by omega)
  rw [aE q]
  by_cases q2 : b = k
  ·rw [aF q2]
   exact h.oth a (k - 1) (by omega) (by omega) q (by omega)
  rw [aE q2]
  exact h.oth a b hab hb q q2
 rw [hg, hg, aF rfl, aE (by omega)]
 by_cases q : b = k
 ·rw [aF q]; exact Dz hlt
 rw [aE q]; exact h.beh b (by omega) h2
theorem rJ.stop {l : List Bs} {i k : Nat} (h : rJ l i k) (_hk : k ≤ i) (hs : k = 0 ∨ bQ (fB l k) (fB l (k - 1)) = false) : AN l (i + 1) := by
 intro a b hab hb
 by_cases q : a = k
 ·rw [q]; exact h.beh b (by omega) (by omega)
 by_cases q2 : b = k
 ·rw [q2]
  rcases hs with e | e
  ·omega
  have h1 : iX (fB l (k - 1)) (fB l k) := e
  by_cases q3 : a = k - 1
  ·rw [q3]; exact h1
  exact RY (h.oth a (k - 1) (by omega) (by omega) q (by omega)) h1
 exact h.oth a b hab (by omega) q q2
theorem Sb {l : List Bs} (h : AN l l.length) : l.Pairwise iX := by
 rw [List.pairwise_iff_getElem]
 intro a b ha hb hab
 have := h a b hab hb
 unfold fB at this
 rw [dI, dI, bL ha, bL hb] at this
 exact this
theorem JD {l r : List Bs} (hl : l.Pairwise iX) (hr : r.Pairwise iX) (hp : l.Perm r) : l = r :=
 Kg (le := iX) (fun _ _ _ _ h1 h2 => RZ h1 h2) hl hr hp
section
variable {w w' : World} {base rp room : Nat} {nv lv : Value} {now lst : List RF}
theorem Sc (h : dX w base rp room nv lv now lst) (hl : now.length ≤ 100) :
  Calls Tryz.prog 77 #[.pointer (some ⟨rp, 0, none⟩)] w fun r w' => ∃ u, r = .returned u ∧ ∃ l : List Bs, gV w' w.heap.size u l ∧ l.Perm (now.map (·.nm)) ∧ l.Pairwise iX ∧ aB [] w w' := by
 obtain ⟨na, nc, rfl⟩ := h.now.slice
 obtain ⟨n, hn⟩ : ∃ n, n = now.length := ⟨_, rfl⟩
 obtain ⟨-, hnc, hncm⟩ := rI h.now
 rw [← hn] at hnc h hl
 have HC := aA fun i (hi : i < now.length) => rH h.now hi
 rw [← hn] at HC
 have c1 := aD h.box 1
 simp only [bA, bB, bS] at c1
 have HN := aA hn
 clear h hn
 go_in
 go_wp2_with fail
 go_loopg [3, 4] n (fun gh v3 v4 wr => ∃ (i m c : Nat) (a : Option Addr), v3 = .slice a m c ∧ v4 = .int .i64 i ∧ i ≤ n ∧ gh = n - i ∧ Hid (gV wr w.heap.size (.slice a m c) ((now.take i).map (·.nm)) ∧ aB [] w wr))
 case atStart => exact ⟨0, 0, 0, none, rfl, rfl, by omega, rfl, aA ⟨aK.nil _ _, aB.refl [] w⟩⟩
 case round =>
  obtain ⟨i, m, c, a, rfl, rfl, hi, rfl, HS⟩ := hrel
  obtain ⟨W, hW⟩ : ∃ W, W = wr := ⟨_, rfl⟩
  subst hW
  have e1 := cN HS.out.2 c1
  obtain ⟨-, hmc, hcm⟩ := wD HS.out.1
  by_cases hin : i < n
  ·have hin' : (i : Int) < (n : Int) := by omega
   obtain ⟨g, rfl, -, -, d0, -, -⟩ := HC.out i hin
   have e2 := cN HS.out.2 d0
   have hil : i < now.length := by rw [← HN.out]; exact hin
   have hsn : (now.take i).map (·.nm) ++ [(now.getD i RF.nil).nm] = (now.take (i + 1)).map (·.nm) := by
    rw [AK hil, eZ]; rfl
   have hml : ((now.take i).map (·.nm)).length = i := by rw [dF, bX]; omega
   have HO : Hid (∀ X : Obj, gV (W.alloc X) w.heap.size (.slice a m c) ((now.take i).map (·.nm))) := aA fun X => HS.out.1.upd ((aB.refl [] W).alloc X) (by simp)
   have hob := HS.out.1.block
   generalize hLi : (now.take i).map (·.nm) = Li at *
   generalize hLj : (now.take (i + 1)).map (·.nm) = Lj at *
   have HSN := aA (aC hsn (aC hml (aC hLj hob)))
   have hsz := HS.out.2.size
   clear hsn hml d0 hLi hLj hob
   generalize (now.getD i RF.nil).nm = x at *
   go_wp2_with (first
    | (at_builtin; refine fS TT rfl _ _ rfl (base := w.heap.size) (l := Li) (r := [x]) rfl (HO.out _) rfl (iS TT (ty := 9) (aX _ _)) (QW _) ?c1 ?c2 ?c3 ?_)
    | fail)
   case c1 => rw [HSN.out.2.1]; simp; omega
   case c2 => rw [HSN.out.2.1]; simp; omega
   case c3 => simp; omega
   intro v8 w8 ho8 hg8 hn8
   rw [HSN.out.1] at ho8
   obtain ⟨a8, c8, m8, hm8, rfl⟩ := ho8.sliceM
   have hu8 : aB [] w w8 := ((HS.out.2).alloc _).grown hg8 (fun g hg => (HSN.out.2.2.2 g hg).1)
   have H8 := aA (aC ho8 hu8)
   clear ho8 hg8 hn8 hu8 hm8 HO e1 e2
   go_wp2_with fail
   go_roundg (n - (i + 1))
   case measure => omega
   case rel => exact ⟨i + 1, m8, c8, a8, rfl, by go_num, by omega, rfl, by rw [HSN.out.2.2.1]; exact H8⟩
  have hin' : ¬ (i : Int) < (n : Int) := by omega
  have hL : (now.take i).map (·.nm) = now.map (·.nm) := by rw [dY (by rw [← HN.out]; omega)]
  have hO := HS.out.1
  rw [hL] at hO
  have hm : m = n := by
   have := (wD hO).1
   rw [dF, ← HN.out] at this
   exact this
  subst hm
  have H2 := aA (aC hO HS.out.2)
  clear hL hO
  go_wp2_with fail
  go_loopg [5, 6, 7] m (fun gh v5 v6 v7 wr => ∃ (j : Nat) (l : List Bs), v5 = .int .i64 j ∧ 1 ≤ j ∧ (j ≤ m ∨ j = 1) ∧ gh = m + 1 - j ∧ Hid (gV wr w.heap.size (.slice a m c) l ∧ l.Perm (now.map (·.nm)) ∧ AN l j ∧ aB [] w wr))
  case atStart => exact ⟨1, _, rfl, by omega, .inr rfl, by omega, aA ⟨H2.out.1, List.Perm.refl _, (fun a b h1 h2 => by omega), H2.out.2⟩⟩
  case round =>
   obtain ⟨j, l, rfl, hj1, hj2, rfl, HT⟩ := hrel
   have hlm : m = l.length := (wD HT.out.1).1
   have HLM := aA hlm
   clear hlm
   by_cases hjm : j < m
   ·have hjm' : (j : Int) < (m : Int) := by omega
    go_wp2_with fail
    go_loopg [6, 7] (j + 1) (fun gh v6 v7 wr => ∃ (k : Nat) (l : List Bs), v6 = .int .i64 k ∧ k ≤ j ∧ gh = k + 1 ∧ Hid (gV wr w.heap.size (.slice a m c) l ∧ l.Perm (now.map (·.nm)) ∧ rJ l j k ∧ aB [] w wr))
    case atStart => exact ⟨j, l, rfl, by omega, rfl, aA ⟨HT.out.1, HT.out.2.1, rJ.start HT.out.2.2.1, HT.out.2.2.2⟩⟩
    case round =>
     obtain ⟨k, l, rfl, hk, rfl, HV⟩ := hrel
     obtain ⟨W, hW⟩ : ∃ W, W = wr := ⟨_, rfl⟩
     subst hW
     have hlm : m = l.length := (wD HV.out.1).1
     by_cases hk0 : k = 0
     ·subst hk0
      have hg : decide ((0 : Int) < ((0 : Nat) : Int)) = false := rfl
      have HZ := aA (HV.out.2.2.1.stop hk (.inl rfl))
      clear hlm
      go_wp2_with fail
      go_quiet (fail)
      have HU := aA (HV.out.2.2.2.drewN nq)
      have HO := aA (HV.out.1.upd ((aB.refl [] W).drewN nq) (by simp))
      generalize W.drewN nq = W2 at *
      go_wp2_with fail
      go_roundg (m + 1 - (j + 1))
      case measure => omega
      case rel => exact ⟨j + 1, l, by go_num, by omega, by omega, by omega, aA ⟨HO.out, HV.out.2.1, HZ.out, HU.out⟩⟩
     obtain ⟨k', rfl⟩ : ∃ k', k = k' + 1 := ⟨k - 1, by omega⟩
     have hg : decide ((0 : Int) < ((k' + 1 : Nat) : Int)) = true := by rw [decide_eq_true_iff]; omega
     obtain ⟨g, cap, hwv, hx1, hx2, d1⟩ := AM HV.out.1 (i := k' + 1) (by omega)
     obtain ⟨g', cap', hwv', -, -, d2⟩ := AM HV.out.1 (i := k') (by omega)
     rw [← hlm] at hwv hwv' hx1
     obtain ⟨rfl, -, rfl⟩ := Ef hwv
     have hgg : g = g' := by simpa using (Ef hwv').1
     subst hgg
     have hz1 : fB l (k' + 1) = l.getD (k' + 1) [] := rfl
     have hz2 : fB l k' = l.getD k' [] := rfl
     have hbl : Op.bytesLess (bC (l.getD (k' + 1) [])).toList (bC (l.getD k' [])).toList = bQ (fB l (k' + 1)) (fB l k') := by
      unfold bQ; rw [hz1, hz2]; simp [ByteArray.toList_eq, xY]
     have hkj : k' + 1 ≤ j := hk
     have hlen1 : k' + 1 < l.length := by omega
     have hsw : ∀ q, gV (((W.drewN q).setCell ⟨g, k' + 1, none⟩ (.string (bC (l.getD k' [])))).setCell ⟨g, k', none⟩ (.string (bC (l.getD (k' + 1) [])))) w.heap.size (.slice (some ⟨g, 0, none⟩) m c) (qC l (k' + 1)) := fun q => by
      have h0 := HV.out.1.upd ((aB.refl [] W).drewN q) (by simp)
      have h1 := JB h0 hlen1 (fB l k')
      exact JB h1 (i := k') (by rw [tU]; omega) (fB l (k' + 1))
     have HSW := aA hsw
     have f1 : ∀ o, W.frozen? ⟨g, o, none⟩ = false := by
      obtain ⟨-, -, -, h3⟩ := aK.at TT HV.out.1
      obtain ⟨g2, e2, -, hf, -⟩ := h3 k' (by omega)
      cases e2
      exact hf
     have hi1 : ((k' + 1 : Nat) : Int) < (m : Int) := by omega
     have hi2 : (k' : Int) < (m : Int) := by omega
     have hi0 : (0 : Int) ≤ (k' : Int) := by omega
     clear hwv hwv' hsw hlen1 hx1
     cases hlt : bQ (fB l (k' + 1)) (fB l k') with
     | true =>
      rw [hlt] at hbl
      have HZ := aA (HV.out.2.2.1.step hkj (by omega) (by omega) (by simpa using hlt))
      have hjl : j < l.length := by omega
      have hsp : (qC l (k' + 1)).Perm l := Sa (by omega) (by omega)
      have hgb : w.heap.size ≤ g := (HV.out.1.block g rfl).1
      have e2 : W.cell? ⟨g, k', none⟩ = some (.string (bC (l.getD k' []))) := d2
      have HSP := aA hsp
      clear hlm hlt hjl hsp
      have HCE := aA (aC d1 d2)
      generalize hs1 : bC (l.getD (k' + 1) []) = s1 at *
      generalize hs2 : bC (l.getD k' []) = s2 at *
      have HS12 := aA (aC hs1 hs2)
      clear hs1 hs2 e2
      have hw1 : IntKind.i64.wrap (((k' + 1 : Nat) : Int) - 1) = (k' : Int) := by rw [Bg]; omega
      go_wp2_with fail
      go_quiet (fail)
      have k1 : (W.drewN nq).cell? ⟨g, k' + 1, none⟩ = some (.string s1) := cN ((aB.refl [] W).drewN nq) d1
      have k2 : (W.drewN nq).cell? ⟨g, k', none⟩ = some (.string s2) := cN ((aB.refl [] W).drewN nq) d2
      have k3 : ∀ o, (W.drewN nq).frozen? ⟨g, o, none⟩ = false := f1
      have hos := HSW.out nq
      have hu2 : aB [] w (((W.drewN nq).setCell ⟨g, k' + 1, none⟩ (.string s2)).setCell ⟨g, k', none⟩ (.string s1)) := ((HV.out.2.2.2.drewN nq).setCellNew hgb _ _).setCellNew hgb _ _
      have HOS := aA (aC hos hu2)
      clear hos hu2
      have hkk : ((k' + 1 : Nat) : Int) - 1 = (k' : Int) := by omega
      clear hw1 hbl d1 d2 f1 hg HCE
      generalize W.drewN nq = W2 at *
      go_wp2_with fail
      have H9 : Hid (gV ((W2.setCell ⟨g, k' + 1, none⟩ (.string s2)).setCell ⟨g, k', none⟩ (.string s1)) w.heap.size (.slice (some ⟨g, 0, none⟩) m c) (qC l (k' + 1)) ∧ (qC l (k' + 1)).Perm (now.map (·.nm)) ∧ rJ (qC l (k' + 1)) j k' ∧ aB [] w ((W2.setCell ⟨g, k' + 1, none⟩ (.string s2)).setCell ⟨g, k', none⟩ (.string s1))) := aA ⟨HOS.out.1, HSP.out.trans HV.out.2.1, HZ.out, HOS.out.2⟩
      clear k1 k2 k3
      generalize (W2.setCell ⟨g, k' + 1, none⟩ (.string s2)).setCell ⟨g, k', none⟩ (.string s1) = w9 at *
      go_wp2_with fail
      go_roundg (k' + 1)
      case measure => omega
      case rel => exact ⟨k', qC l (k' + 1), by go_num, by omega, rfl, H9⟩
     | false =>
      rw [hlt] at hbl
      have HZ := aA (HV.out.2.2.1.stop hkj (.inr (by simpa using hlt)))
      clear hlm hlt hz1 hz2
      generalize bC (l.getD (k' + 1) []) = s1 at *
      generalize bC (l.getD k' []) = s2 at *
      have hw1 : IntKind.i64.wrap (((k' + 1 : Nat) : Int) - 1) = (k' : Int) := by rw [Bg]; omega
      go_wp2_with fail
      go_quiet (fail)
      have HU := aA (HV.out.2.2.2.drewN nq)
      have HO := aA (HV.out.1.upd ((aB.refl [] W).drewN nq) (by simp))
      clear hw1 hbl d1 d2 f1 hg
      generalize W.drewN nq = W2 at *
      go_wp2_with fail
      go_roundg (m + 1 - (j + 1))
      case measure => omega
      case rel => exact ⟨j + 1, l, by go_num, by omega, by omega, by omega, aA ⟨HO.out, HV.out.2.1, HZ.out, HU.out⟩⟩
   have hjm' : ¬ (j : Int) < (m : Int) := by omega
   go_wp2_with fail
   go_ret
   refine ⟨_, rfl, l, HT.out.1, HT.out.2.1, Sb ?_, HT.out.2.2.2⟩
   have h1 := HT.out.2.2.1
   have h2 := HLM.out
   intro x y hxy hy
   exact h1 x y hxy (by omega)
end
end Go.Proofs.YtgpefiacbipfpaaGreatDoor
