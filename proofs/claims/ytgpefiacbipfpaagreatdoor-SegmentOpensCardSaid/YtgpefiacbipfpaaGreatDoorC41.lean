/- Files as the document has them, and as they are: plain laws. -/
import Derived.Test.YtgpefiacbipfpaaGreatDoorC40
set_option maxRecDepth 100000
set_option maxHeartbeats 8000000
namespace Go.Proofs.YtgpefiacbipfpaaGreatDoor
open Go.RowKit Go.Maps
def mC (last : aG) (p : Bs × bO) : RF := ⟨p.1, p.2.data, uR last p.2⟩
structure yG (fs last : aG) (now lst : List RF) : Prop where
 now : now.Perm (fs.map (mC last))
 lst : lst.Perm (last.map (mC last))
theorem Sd {fs last : aG} {l : List RF} (h : l.Perm (fs.map (mC last))) {nm : Bs} (hg : bF fs nm = none) : fL l nm = none := by
 refine AI.2 fun x hx e => ?_
 obtain ⟨p, hp, rfl⟩ := cV.1 (h.mem_iff.1 hx)
 exact uA.1 hg p hp e
theorem Se {fs last : aG} {l : List RF} (h : l.Perm (fs.map (mC last))) (hs : cP bQ fs) {nm : Bs} {f : bO} (hg : bF fs nm = some f) : ∃ i, fL l nm = some i ∧ l.getD i RF.nil = mC last (nm, f) := by
 cases hi : fL l nm with
 | none =>
  have := AI.1 hi (mC last (nm, f)) (h.mem_iff.2 (cV.2 ⟨_, eU hg, rfl⟩))
  exact absurd rfl this
 | some i =>
  obtain ⟨hil, hnm⟩ := yD hi
  have hm : l.getD i RF.nil ∈ l := by
   rw [dI, bL hil]; exact fX hil
  obtain ⟨p, hp, he⟩ := cV.1 (h.mem_iff.1 hm)
  have hpn : p.1 = nm := by rw [← hnm, ← he]; rfl
  have hg2 := mW dD hs hp
  rw [hpn, hg] at hg2
  cases hg2
  refine ⟨i, rfl, ?_⟩
  rw [← he, ← hpn]
structure DA (l : List RF) : Prop where
 len : l.length ≤ 64
 elt : ∀ x ∈ l, x.data.length ≤ 32768 ∧ x.old ≤ 64
theorem JE {a b : List RF} (h : a.Perm b) : eT a = eT b := (h.map _).sum_nat
theorem Sf {a b : List RF} (h : a.Perm b) : jH a = jH b := (h.map _).sum_nat
theorem DB {room : Nat} {fs last : aG} (h : dC room fs) : eT (fs.map (mC last)) = (bH fs).length := by
 rw [IK h]
 unfold eT
 rw [pQ]
 rfl
theorem Sg (fs last : aG) : jH (fs.map (mC last)) = ((bH fs).filter fun b => decide (b ∈ bH last)).length := by
 induction fs with
 | nil => rfl
 | cons p l ih =>
  unfold jH at ih ⊢
  rw [dR, dR, sM, ih]
  show uR last p.2 + _ = _
  simp only [bH, jT, List.filter_append, bD]
  rfl
theorem Sh {l : Nat → aL} {room k s : Nat} {fs last : aG} {now lst : List RF} (h : eY l room k s fs last) (hs : yG fs last now lst) : iC room now lst = (nP room fs last : Nat) := by
 have h1 := h.count
 have h3 := (List.filter_append_perm (fun b => decide (b ∈ bH last)) (bH fs)).length_eq
 rw [bD] at h3
 unfold iC
 rw [JE hs.lst, JE hs.now, Sf hs.now, DB h.was, DB h.now, Sg]
 omega
section
variable {room : Nat} {fs last : aG} {now lst : List RF}
theorem Si {nm : Bs} {f : bO} (hs : cP bQ fs) (hg : bF fs nm = some f) (last : aG) : (fs.map (mC last)).Perm (mC last (nm, f) :: (dJ fs nm).map (mC last)) := by
 have hp := wX dD hs nm f
 have e : cQ bQ fs nm f = fs := wW dD (sT dD hs nm f) hs fun k => by
  rw [pS dD hs]
  by_cases q : nm = k
  ·rw [aF q, ← q, hg]
  rw [aE q]
 rw [e] at hp
 exact hp.map (mC last)
theorem Sj (hok : dC room fs) (hs : yG fs last now lst) (nm : Bs) (at_ n : Int) : sL now nm at_ n = fW fs nm at_ n ∧ (fW fs nm at_ n = 0 → oI now nm at_ n = oF fs nm at_ n) ∧ (fW fs nm at_ n ≠ 0 → oI now nm at_ n = []) := by
 unfold sL fW oI oF
 cases hg : bF fs nm with
 | none => rw [Sd hs.now hg]; exact ⟨rfl, fun _ => rfl, fun _ => rfl⟩
 | some f =>
  obtain ⟨i, hi, he⟩ := Se hs.now hok.srt hg
  rw [hi]
  dsimp only
  rw [he]
  show (if at_ < 0 ∨ ((f.data.length : Nat) : Int) < at_ ∨ n < 0 then 1 else 0) = _ ∧ _
  refine ⟨rfl, fun hc => ?_, fun hc => ?_⟩
  ·by_cases q : at_ < 0 ∨ ((f.data.length : Nat) : Int) < at_ ∨ n < 0
   ·rw [aF q] at hc; cases hc
   exact aE q
  by_cases q : at_ < 0 ∨ ((f.data.length : Nat) : Int) < at_ ∨ n < 0
  ·exact aF q
  rw [aE q] at hc; exact absurd rfl hc
def yH (fs : aG) (l : List RF) : Prop := (l.map fun x => (x.nm, x.data)).Perm (fs.map fun p => (p.1, p.2.data))
theorem Sk (hok : dC room fs) {p : Bs × bO} (hp : p ∈ fs) : uR fs p.2 = bP p.2.data.length := by
 unfold uR
 rw [wN.2, (hok.ok p hp).blks_len]
 intro b hb
 simpa using nW hp hb
theorem yH.sync (hok : dC room fs) (h : yH fs now) : yG fs fs (now.map oK) (now.map oK) := by
 have h1 := List.Perm.map (fun y : Bs × Bs => (⟨y.1, y.2, bP y.2.length⟩ : RF)) h
 rw [pQ, pQ] at h1
 have e : fs.map ((fun y : Bs × Bs => (⟨y.1, y.2, bP y.2.length⟩ : RF)) ∘ fun p => (p.1, p.2.data)) = fs.map (mC fs) := by
  refine uZ fun p hp => ?_
  show (⟨p.1, p.2.data, _⟩ : RF) = ⟨p.1, p.2.data, _⟩
  rw [Sk hok hp]
 rw [e] at h1
 exact ⟨h1, h1⟩
theorem Sm (hok : dC room fs) {l : List Bs} (hl : l.Pairwise iX) (hp : l.Perm (now.map (·.nm))) (hs : now.Perm (fs.map (mC last))) : l = iP fs := by
 have h1 := hs.map (·.nm)
 rw [pQ] at h1
 refine JD hl ?_ (hp.trans h1)
 unfold iP
 rw [wP]
 exact List.Pairwise.imp (fun h => Dz h) hok.srt
end
section
variable {w0 w w' : World} {v p room : Nat} {c : Nat} {G : List Nat} {P : aG → Prop}
end
theorem Sn {w : World} {base g n c : Nat} {l : Bs} (h : Ow w base (.slice (some ⟨g, 0, none⟩) n c) l) {i : Nat} (_hi : i < l.length) (s : UInt8) : Ow (w.setCell ⟨g, i, none⟩ (.int .u8 s.toNat)) base (.slice (some ⟨g, 0, none⟩) n c) (l.set i s) := by
 obtain ⟨h0, h2⟩ := h
 refine ⟨by rw [uF, dF, jI], ?_⟩
 rw [tU]
 rcases h2 with ⟨hv, -⟩ | ⟨g', cap, cur, hv, hg, hh, r1, r2, r3, r4⟩
 ·cases hv
 simp only [fG, fY, yX] at hv
 obtain ⟨⟨rfl, -⟩, rfl, rfl⟩ := hv
 refine .inr ⟨g, c, cur.setIfInBounds i (.int .u8 s.toNat), rfl, hg, by rw [bJ, aF rfl, hh]; rfl, r1, r2, by rw [Kk]; exact r3, ?_⟩
 rw [wO, yV, r4, uF, uF, List.map_set]
theorem DC {w : World} {base : Nat} {a : Option Addr} {n c : Nat} {l : Bs} (h : Ow w base (.slice a n c) l) : n = l.length ∧ n ≤ c ∧ c ≤ 9223372036854775807 ∧ ∀ i (_ : i < n), ∃ g, a = some ⟨g, 0, none⟩ ∧ base ≤ g ∧ (∀ o, w.frozen? ⟨g, o, none⟩ = false) ∧ ∃ u, w.cell? ⟨g, i, none⟩ = some (.int .u8 u) := by
 obtain ⟨h0, h1, h2, h3⟩ := aK.at T8 h
 refine ⟨h0, h1, by unfold maxLen at h2; omega, fun i hi => ?_⟩
 obtain ⟨g, e, hb, hf, hc⟩ := h3 i (by omega)
 refine ⟨g, e, hb, hf, ((l[i]'(by omega)).toNat : Int), ?_⟩
 have := hc 0 _ rfl
 rw [jI, kU] at this
 exact this
structure JF (w0 : World) (v room : Nat) (fs last : aG) (S T : World → List Nat → Prop) : Prop where
 upd : ∀ {w G}, S w G → aB [] w0 w
 lt : ∀ {w G}, S w G → ∀ i ∈ G, i < w.heap.size
 guardF : ∀ {w w' G F1 G'}, S w G → aB F1 w w' → (∀ i ∈ F1, i ∈ G ∧ w0.heap.size ≤ i) → (∀ b ∈ G', w.heap.size ≤ b ∧ b < w'.heap.size) → S w' (G' ++ G)
 sub : ∀ {w G G'}, S w G → (∀ i ∈ G', i ∈ G) → S w G'
 subT : ∀ {w G G'}, T w G → (∀ i ∈ G', i ∈ G) → T w G'
 guardT : ∀ {w w' G}, T w G → aB [] w w' → T w' G
 ok : ∃ r, dC r fs
 list : ∀ {w G}, S w G → Calls Tryz.prog 75 #[.pointer (some ⟨v, 0, none⟩)] w fun r w' => ∃ u, r = .returned u ∧ gV w' w.heap.size u (fs.map (·.1)) ∧ aB [] w w' ∧ S w' (u.ownBlock.toList ++ G)
 free : ∀ {w G}, S w G → Calls Tryz.prog 78 #[.pointer (some ⟨v, 0, none⟩)] w fun r w' => r = .returned (.int .i64 (nP room fs last)) ∧ S w' G ∧ bT G w w'
 size : ∀ {w G} (nm : ByteArray), nm.size ≤ maxLen → S w G → Calls Tryz.prog 54 #[.pointer (some ⟨v, 0, none⟩), .string nm] w fun r w' => r = .returned (.tuple #[.int .i64 (rE fs nm.data.toList).1, .int .i64 (rE fs nm.data.toList).2]) ∧ S w' G ∧ bT G w w'
 read : ∀ {w G} (nm : ByteArray), nm.size ≤ maxLen → ∀ at_ cnt : Int, S w G → Calls Tryz.prog 56 #[.pointer (some ⟨v, 0, none⟩), .string nm, .int .i64 at_, .int .i64 cnt] w fun r w' =>
   (∃ rv, r = .returned (.tuple #[rv, .int .i64 (fW fs nm.data.toList at_ cnt)]) ∧ (fW fs nm.data.toList at_ cnt = 0 → Ow w' w.heap.size rv (oF fs nm.data.toList at_ cnt)) ∧ (fW fs nm.data.toList at_ cnt ≠ 0 → rv = .slice none 0 0) ∧ S w' (rv.ownBlock.toList ++ G) ∧ bT G w w') ∨
   (r = .returned (.tuple #[.slice none 0 0, .int .i64 2]) ∧ T w' G ∧ bT G w w')
theorem Lv.asks (w0 : World) (v p room : Nat) (fs last : aG) (c : Nat) (hc : c ≤ 1000000) (hok : ∃ r, dC r fs) : JF w0 v room fs last (fun w G => Lv w0 w v p room fs last c G) (fun _ _ => False) where
 upd := fun h => h.upd
 lt := fun h => h.lt
 guardF := fun h u h1 h2 => h.guardF u h1 h2
 sub := fun h hs => h.sub hs
 subT := fun h _ => h
 guardT := fun h _ => h
 ok := hok
 list := fun h => h.list
 free := fun h => h.free
 size := fun nm hs h => h.size nm hs
 read := fun nm hs a n h => (h.read hc nm hs a n).mono fun _ _ q => .inl q
def JG (room : Nat) (fs last : aG) (now lst : List RF) : Prop := (∀ rl : List Bs, rl.Perm (now.map (·.nm)) → rl.Pairwise iX → iP fs = rl) ∧ (nP room fs last : Int) = iC room now lst ∧ ∀ i, i < fs.length → oI now ((iP fs).getD i []) 0 1073741824 = (yF fs).getD i []
def So (w : World) (G : List Nat) (room : Nat) (fs last : aG) (now lst : List RF) (S T : World → List Nat → Prop) (r : Ending) (w' : World) : Prop :=
 (∃ b : Bool, r = .returned (.bool b) ∧ (b = true ↔ JG room fs last now lst) ∧ S w' G ∧ bT G w w') ∨ (r = .returned (.bool false) ∧ T w' G ∧ bT G w w')
theorem Sp {w0 w : World} {v room rp : Nat} {fs last : aG} {S T : World → List Nat → Prop} (hA : JF w0 v room fs last S T) {G : List Nat} (hS : S w G) {nv lv : Value} {now lst : List RF} (hr : dX w w0.heap.size rp room nv lv now lst) (hf : ∀ i ∈ kB rp nv lv, i ∈ G) (hroom : room ≤ 1000) (hsm : DA now) (hsl : DA lst) (_hex : ∃ rl : List Bs, rl.Perm (now.map (·.nm)) ∧ rl.Pairwise iX) :
  Calls Tryz.prog 30 #[.pointer (some ⟨v, 0, none⟩), .pointer (some ⟨rp, 0, none⟩)] w (So w G room fs last now lst S T) := by
 have HA := aA hA
 have HSM := aA (aC hsm hsl)
 have HLi := aA (hA.list hS)
 have HST : Hid (∀ X, bT G w X → dX X w0.heap.size rp room nv lv now lst) := aA fun X s => by
  obtain ⟨F, u, hF⟩ := s
  exact hr.upd u fun i hi => hF i (hf i hi)
 have hbw := (hA.upd hS).size
 clear hA hS hr hf hsm hsl
 go_in
 go_wp2_with fail
 refine HLi.out.mono ?_
 rintro r w1 ⟨u, rfl, hou, hu1, hs1⟩
 have h1 := HST.out _ (.of hu1)
 have hrl := Sc h1 (by have := HSM.out.1.len; omega)
 obtain ⟨ua, uc, rfl⟩ := hou.slice
 obtain ⟨nN, hnN⟩ : ∃ nN, nN = (fs.map (·.1)).length := ⟨_, rfl⟩
 rw [← hnN] at hou hs1 ⊢
 obtain ⟨-, hNc, hcm⟩ := wD hou
 have H1 := aA (aC hou (aC hs1 (aC hu1 hnN)))
 have HRL := aA hrl
 clear hou hu1 hs1 h1 hrl hnN HLi
 go_wp2_with fail
 refine HRL.out.mono ?_
 rintro r w2 ⟨u2, rfl, rl, hrl, hperm, hpair, hu2⟩
 have hou2 := H1.out.1.upd hu2 (by simp)
 have hsame := QX w2 (aK.sl TT hou2) (aK.sl TT hrl)
 have hs2 := HA.out.guardF H1.out.2.1 hu2 (by simp) (G' := []) (by simp)
 have H2 := aA (aC hou2 (aC hs2 (aC (H1.out.2.2.1.trans hu2) (aC hperm hpair))))
 have HSame := aA hsame
 clear hrl hu2 hou2 hsame hs2 hperm hpair HRL
 go_wp2_with fail
 refine HSame.out.mono ?_
 rintro r w3 ⟨rfl, hu3⟩
 have hs3 := HA.out.guardF H2.out.2.1 hu3 (by simp) (G' := []) (by simp)
 have H3 := aA (aC (H2.out.1.upd hu3 (by simp)) (aC hs3 (H2.out.2.2.1.trans hu3)))
 clear hu3 hs3 HSame
 by_cases hnm : fs.map (·.1) = rl
 ·rw [decide_eq_true hnm]
  have HFr := aA (HA.out.free H3.out.2.1)
  go_wp2_with fail
  refine HFr.out.mono ?_
  rintro r w4 ⟨rfl, hs4, hst4⟩
  have hG1 : ∀ i ∈ G, i ∈ [] ++ ([] ++ ((Value.slice ua nN uc).ownBlock.toList ++ G)) := fun i hi => by simp [hi]
  have hst : bT G w w4 := (bT.of H3.out.2.2).trans (hst4.sub hG1)
  have hfr := Jw (HST.out _ hst) hroom (by have := HSM.out.1.len; omega) (by have := HSM.out.2.len; omega) HSM.out.1.elt fun x hx => (HSM.out.2.elt x hx).1
  have how : gV w4 w.heap.size (.slice ua nN uc) (fs.map (·.1)) := hst4.owT H3.out.1 (fun g hg => by simp [hg])
  have H4 := aA (aC hs4 (aC hst (aC how hG1)))
  change Calls _ _ _ w4 fun r w' => r = Ending.returned (.int .i64 (iC room now lst)) ∧ aB [] w4 w' at hfr
  have HF := aA hfr
  have HNM := aA hnm
  clear hs4 hst hfr how hnm hst4 hG1 HFr
  by_cases hfe : (nP room fs last : Int) = iC room now lst
  ·have hz : ((iC room now lst : Int) == iC room now lst) = true := by simp
   have HFE := aA hfe
   rw [hfe]
   clear hfe
   generalize hfr1 : iC room now lst = fr at *
   have HFR := aA hfr1
   clear hfr1
   go_wp2_with fail
   refine HF.out.mono ?_
   rintro r w5 ⟨rfl, hu5⟩
   have H5 := aA (aC (HA.out.guardF H4.out.1 hu5 (by simp) (G' := []) (by simp)) (aC (H4.out.2.1.trans (.of hu5)) (H4.out.2.2.1.upd hu5 (by simp))))
   clear hu5 HF
   generalize hGG : [] ++ ([] ++ ([] ++ ((Value.slice ua nN uc).ownBlock.toList ++ G))) = G1 at *
   have HGG := aA (show (∀ i ∈ G, i ∈ G1) ∧ (∀ g, (Value.slice ua nN uc).ownBlock = some g → g ∈ G1) from by rw [← hGG]; exact ⟨fun i hi => by simp [hi], fun g hg => by simp [hg]⟩)
   clear hGG
   go_wp2_with fail
   clear hz
   go_loopg [7, 8, 9, 10, 11, 12, 13, 14, 15] nN (fun gh v7 v8 v9 v10 v11 v12 v13 v14 v15 wr => ∃ i : Nat, v7 = .int .i64 i ∧ i ≤ nN ∧ gh = nN - i ∧ Hid (S wr G1 ∧ bT G w wr ∧ gV wr w.heap.size (.slice ua nN uc) (fs.map (·.1)) ∧ ∀ j, j < i → oI now ((iP fs).getD j []) 0 1073741824 = (yF fs).getD j []))
   case atStart => exact ⟨0, rfl, by omega, rfl, aA ⟨H5.out.1, H5.out.2.1, H5.out.2.2, fun j hj => by omega⟩⟩
   case round =>
    obtain ⟨i, rfl, hi, rfl, HV⟩ := hrel
    by_cases hin : i < nN
    ·have hin' : (i : Int) < (nN : Int) := by omega
     obtain ⟨rr, hok⟩ := HA.out.ok
     have hil : i < fs.length := by have := H1.out.2.2.2; rw [dF] at this; omega
     obtain ⟨f, hgf, hfd, hn40⟩ := JA hok (i := i) hil
     have hfm : f.data.length ≤ 32768 := (hok.ok _ (eU hgf)).most
     have hnz : (bC ((iP fs).getD i [])).size ≤ maxLen := by rw [pZ]; unfold maxLen; omega
     have hnl : (bC ((iP fs).getD i [])).data.toList = (iP fs).getD i [] := xY _
     obtain ⟨g, cap, hwv, hx1, hx2, d0⟩ := AM HV.out.2.2.1 (i := i) (by rw [dF]; exact hil)
     rw [← H1.out.2.2.2] at hwv
     obtain ⟨rfl, -, rfl⟩ := Ef hwv
     have hsz := HA.out.size (bC ((iP fs).getD i [])) hnz HV.out.1
     rw [hnl] at hsz
     have hsf : rE fs ((iP fs).getD i []) = (f.data.length, 0) := by unfold rE; rw [hgf]
     rw [hsf] at hsz
     have hcR : fW fs ((iP fs).getD i []) 0 (f.data.length : Int) = 0 := by unfold fW; rw [hgf]; dsimp only; rw [aE (by omega)]
     have hdR : oF fs ((iP fs).getD i []) 0 (f.data.length : Int) = f.data := by unfold oF; rw [hgf]; dsimp only; rw [show (0 : Int).toNat = 0 from rfl, tW, dY (by simp)]
     have HSZ := aA hsz
     have HNN := aA (aC hnz (aC hnl (aC hcR (aC hdR hfd))))
     have d0' : wr.cell? ⟨g, i, none⟩ = some (.string (bC ((iP fs).getD i []))) := d0
     have HD0 := aA fun (X : World) (s : bT G1 wr X) => (s.owT HV.out.2.2.1 HGG.out.2)
     clear hwv hx1 d0 hsz hsf hcR hdR hfd hnz hnl hn40 hgf hok hil
     have HAT := aA fun (X : World) (h : gV X w.heap.size (.slice (some ⟨g, 0, none⟩) nN uc) (fs.map (·.1))) => show X.cell? ⟨g, i, none⟩ = some (.string (bC ((iP fs).getD i []))) from by
      obtain ⟨g', cap', e, -, -, hc⟩ := AM h (i := i) (by have := (wD h).1; omega)
      have e2 := (Ef e).1
      cases e2
      exact hc
     generalize hnn : bC ((iP fs).getD i []) = nn at *
     go_wp2_with fail
     refine HSZ.out.mono ?_
     rintro r w6 ⟨rfl, hs6, hst6⟩
     have how6 := HD0.out _ hst6
     have d6 := HAT.out _ how6
     have hrd := HA.out.read nn HNN.out.1 0 (f.data.length : Int) hs6
     rw [HNN.out.2.1, HNN.out.2.2.1, HNN.out.2.2.2.1] at hrd
     have HRd := aA hrd
     have H6 := aA (aC how6 hst6)
     have HLT := aA (HA.out.lt hs6)
     obtain ⟨fl, hfl⟩ : ∃ fl, fl = f.data.length := ⟨_, rfl⟩
     rw [← hfl] at HRd hfm ⊢
     have HFL := aA hfl
     clear hs6 hst6 how6 hrd HSZ hfl d0'
     go_wp2_with fail
     refine HRd.out.mono ?_
     have HQ := aA fun (X : World) (s : bT G w X) => Jp (HST.out X s) nn 0 1073741824 ⟨by omega, by omega⟩ ⟨by omega, by omega⟩ (fun x hx => (HSM.out.1.elt x hx).1)
     rw [HNN.out.2.1] at HQ
     obtain ⟨DQ, hDQ⟩ : ∃ DQ, DQ = oI now ((iP fs).getD i []) 0 1073741824 := ⟨_, rfl⟩
     rw [← hDQ] at HQ
     have HDQ := aA hDQ
     clear hDQ
     rintro r w7 (⟨rv, rfl, ho7, -, hs7, hst7⟩ | ⟨rfl, ht7, hst7⟩)
     ·have hst7w : bT G w w7 := HV.out.2.1.trans ((H6.out.2.sub HGG.out.1).trans (hst7.sub HGG.out.1))
      have ho7' := ho7 (by first | rfl | trivial)
      have how7 := hst7.owT H6.out.1 HGG.out.2
      have d7 := HAT.out _ how7
      have HQ7 := aA (HQ.out w7 hst7w)
      obtain ⟨ba, bc, bm, hbm, rfl⟩ := ho7'.sliceM
      have H7 := aA (aC ho7' (aC hs7 (aC hst7w (aC how7 hbm))))
      obtain ⟨-, hbmc, hbcm, -⟩ := DC ho7'
      clear ho7 ho7' hs7 hst7 hst7w how7 hbm d6 HRd HQ
      go_wp2_with fail
      refine HQ7.out.mono ?_
      rintro r w8 ⟨rfl, rfl⟩
      clear HQ7
      go_upto_region 11 with (fail)
      go_cut [14] (fun v14 wx => ∃ sm : Bool, v14 = .bool sm ∧ w7 = wx ∧ Hid (sm = true ↔ f.data = DQ))
      case first =>
       have htx := Rd.str (Ow.rd H7.out.1)
       have hbe := xZ f.data DQ
       by_cases he : f.data = DQ
       ·rw [decide_eq_true he] at hbe
        have hsz : (bC DQ).size = fl := by rw [pZ, ← he, HFL.out]
        have hz2 : ((fl : Int) == (fl : Int)) = true := by simp
        have HE := aA he
        clear he
        generalize bC f.data = s1 at *
        generalize bC DQ = s2 at *
        go_wp2_with fail
        go_meet
        exact ⟨true, rfl, rfl, aA ⟨fun _ => HE.out, fun _ => rfl⟩⟩
       rw [decide_eq_false he] at hbe
       have HE := aA he
       clear he
       generalize bC f.data = s1 at *
       generalize bC DQ = s2 at *
       go_wp2_with fail
       go_meet
       exact ⟨false, rfl, rfl, aA ⟨(fun q => by cases q), fun q => absurd q HE.out⟩⟩
      case rest =>
       obtain ⟨sm, rfl, rfl, HSm⟩ := hcut
       have hG2 : ∀ i ∈ G1, i ∈ (Value.slice ba bm bc).ownBlock.toList ++ G1 := fun i hi => fM _ hi
       have HG2 := aA hG2
       clear hG2 d7
       go_wp2_with fail
       go_loopg [15] bm (fun gh v15 wr => ∃ k : Nat, v15 = .int .i64 k ∧ k ≤ bm ∧ gh = bm - k ∧ Hid (S wr ((Value.slice ba bm bc).ownBlock.toList ++ G1) ∧ bT G w wr ∧ gV wr w.heap.size (.slice (some ⟨g, 0, none⟩) nN uc) (fs.map (·.1)) ∧ ∃ l' : Bs, Ow wr w6.heap.size (.slice ba bm bc) l' ∧ l'.length = bm))
       case atStart => exact ⟨0, rfl, by omega, rfl, aA ⟨H7.out.2.1, H7.out.2.2.1, H7.out.2.2.2.1, f.data, H7.out.1, H7.out.2.2.2.2.symm⟩⟩
       case round =>
        obtain ⟨k, rfl, hk, rfl, HW⟩ := hrel
        by_cases hkb : k < bm
        ·have hkb' : (k : Int) < (bm : Int) := by omega
         obtain ⟨l', hol, hll⟩ := HW.out.2.2.2
         obtain ⟨-, -, -, hat⟩ := DC hol
         obtain ⟨b, rfl, hbb, hbf, u, hcu⟩ := hat k hkb
         have f1 := hbf k
         have hset := Sn hol (i := k) (by omega) 1
         have hus : aB [b] wr (wr.setCell ⟨b, k, none⟩ (.int .u8 1)) := (aB.refl [b] wr).setCell (by simp) _ _
         have hsb : ∀ i ∈ [b], i ∈ (Value.slice (some ⟨b, 0, none⟩) bm bc).ownBlock.toList ++ G1 ∧ w0.heap.size ≤ i := fun i hi => by
          rw [aM.1 hi]
          exact ⟨iL _ (by simp [Value.ownBlock]), bG hbw (by have := HV.out.2.1.size; have := H6.out.2.size; omega)⟩
         have hbG : b ∉ G1 := fun q => by have := HLT.out b q; omega
         have H9 : Hid (S (wr.setCell ⟨b, k, none⟩ (.int .u8 1)) ((Value.slice (some ⟨b, 0, none⟩) bm bc).ownBlock.toList ++ G1) ∧ bT G w (wr.setCell ⟨b, k, none⟩ (.int .u8 1)) ∧ gV (wr.setCell ⟨b, k, none⟩ (.int .u8 1)) w.heap.size (.slice (some ⟨g, 0, none⟩) nN uc) (fs.map (·.1)) ∧ ∃ l' : Bs, Ow (wr.setCell ⟨b, k, none⟩ (.int .u8 1)) w6.heap.size (.slice (some ⟨b, 0, none⟩) bm bc) l' ∧ l'.length = bm) :=
          aA ⟨by have := HA.out.guardF HW.out.1 hus hsb (G' := []) (by simp); simpa using this, HW.out.2.1.trans ⟨[b], hus, fun i hi q => hbG (by rw [← aM.1 q]; exact HGG.out.1 i hi)⟩, HW.out.2.2.1.upd hus (fun j hj e => hbG (by rw [← aM.1 hj]; exact HGG.out.2 j e)), _, hset, by rw [tU]; exact hll⟩
         clear hset hus hsb hol hll hat hbf
         go_wp2_with fail
         generalize wr.setCell ⟨b, k, none⟩ (.int .u8 1) = w9 at *
         go_wp2_with fail
         go_roundg (bm - (k + 1))
         case measure => omega
         case rel => exact ⟨k + 1, by go_num, by omega, rfl, H9⟩
        have hkb' : ¬ (k : Int) < (bm : Int) := by omega
        cases sm with
        | true =>
         go_wp2_with fail
         go_roundg (nN - (i + 1))
         case measure => omega
         case rel =>
          refine ⟨i + 1, by go_num, by omega, rfl, aA ⟨HA.out.sub HW.out.1 HG2.out, HW.out.2.1, HW.out.2.2.1, fun j hj => ?_⟩⟩
          by_cases q : j = i
          ·rw [q, ← HDQ.out, ← HSm.out.1 (by first | rfl | trivial)]; exact HNN.out.2.2.2.2
          exact HV.out.2.2.2 j (by omega)
        | false =>
         go_wp2_with fail
         go_ret
         refine .inl ⟨false, rfl, ⟨(fun q => by cases q), fun q => ?_⟩, HA.out.sub HW.out.1 fun i hi => HG2.out i (HGG.out.1 i hi), HW.out.2.1⟩
         have h1 := q.2.2 i (by have := H1.out.2.2.2; rw [dF] at this; omega)
         rw [← HDQ.out, ← HNN.out.2.2.2.2] at h1
         exact absurd (HSm.out.2 h1.symm) (by first | exact id | decide)
     have hst7w : bT G w w7 := HV.out.2.1.trans ((H6.out.2.sub HGG.out.1).trans (hst7.sub HGG.out.1))
     have how7 := hst7.owT H6.out.1 HGG.out.2
     have d7 := HAT.out _ how7
     have HQ7 := aA (HQ.out w7 hst7w)
     have H7 := aA (aC (HA.out.subT ht7 HGG.out.1) hst7w)
     clear ht7 hst7 hst7w how7 d6 HRd HQ
     go_wp2_with fail
     refine HQ7.out.mono ?_
     rintro r w8 ⟨rfl, rfl⟩
     clear HQ7
     go_upto_region 11 with (fail)
     go_cut [14] (fun v14 wx => ∃ sm : Bool, v14 = .bool sm ∧ w7 = wx)
     case first =>
      have htx := Rd.str (Rd.nil w7)
      have hbe := xZ [] DQ
      by_cases he : ([] : Bs) = DQ
      ·rw [decide_eq_true he] at hbe
       generalize bC [] = s1 at *
       generalize bC DQ = s2 at *
       go_wp2_with fail
       go_meet
       exact ⟨_, rfl, rfl⟩
      rw [decide_eq_false he] at hbe
      generalize bC [] = s1 at *
      generalize bC DQ = s2 at *
      go_wp2_with fail
      go_meet
      exact ⟨_, rfl, rfl⟩
     case rest =>
      obtain ⟨sm, rfl, rfl⟩ := hcut
      clear d7
      go_wp2_with fail
      go_loopg [15] 0 (fun gh v15 wr => v15 = .int .i64 0 ∧ gh = 0 ∧ w7 = wr)
      case atStart => exact ⟨rfl, rfl, rfl⟩
      case round =>
       obtain ⟨rfl, rfl, rfl⟩ := hrel
       cases sm with
       | true =>
        go_wp2_with fail
        go_ret
        exact .inr ⟨rfl, H7.out⟩
       | false =>
        go_wp2_with fail
        go_ret
        exact .inr ⟨rfl, H7.out⟩
    have hin' : ¬ (i : Int) < (nN : Int) := by omega
    go_wp2_with fail
    go_ret
    refine .inl ⟨true, rfl, ⟨fun _ => ⟨fun rl2 hp2 hs2 => ?_, by rw [HFR.out]; exact HFE.out, fun j hj => HV.out.2.2.2 j ?_⟩, fun _ => rfl⟩, HA.out.sub HV.out.1 HGG.out.1, HV.out.2.1⟩
    ·exact HNM.out.trans (JD H2.out.2.2.2.2 hs2 (H2.out.2.2.2.1.trans hp2.symm))
    have := H1.out.2.2.2; rw [dF] at this; omega
  have hz : ((nP room fs last : Int) == iC room now lst) = false := by simpa using hfe
  have HFE := aA hfe
  clear hfe
  generalize hfr1 : iC room now lst = fr at *
  generalize hfr2 : (nP room fs last : Int) = fq at *
  have HFR := aA (aC hfr1 hfr2)
  clear hfr1 hfr2
  go_wp2_with fail
  refine HF.out.mono ?_
  rintro r w5 ⟨rfl, hu5⟩
  have H5 := aA (aC (HA.out.sub (G' := G) (HA.out.guardF H4.out.1 hu5 (by simp) (G' := []) (by simp)) fun i hi => by simp [hi]) (H4.out.2.1.trans (.of hu5)))
  clear hu5 HF
  go_wp2_with fail
  go_ret
  exact .inl ⟨false, rfl, ⟨(fun q => by cases q), fun q => absurd (show fq = fr by rw [← HFR.out.1, ← HFR.out.2]; exact q.2.1) HFE.out⟩, H5.out⟩
 rw [decide_eq_false hnm]
 have HNM := aA hnm
 go_wp2_with fail
 go_ret
 exact .inl ⟨false, rfl, ⟨(fun q => by cases q), fun q => absurd (q.1 rl H2.out.2.2.2.1 H2.out.2.2.2.2) HNM.out⟩, HA.out.sub (G' := G) H3.out.2.1 (fun i hi => by simp [hi]), .of H3.out.2.2⟩
section
variable {w0 w w' : World} {v p room rp : Nat} {fs last : aG} {c : Nat} {G : List Nat} {dn : Bool} {nv lv : Value} {now lst : List RF} {K : List Nat}
end
end Go.Proofs.YtgpefiacbipfpaaGreatDoor
