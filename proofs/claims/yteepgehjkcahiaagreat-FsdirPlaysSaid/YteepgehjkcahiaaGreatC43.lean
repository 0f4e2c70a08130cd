/- Alike: whether all files are those that they should be. A file system and the document's beside it. One call on both. -/
import Derived.Test.YteepgehjkcahiaaGreatC42
namespace Go.Proofs.YteepgehjkcahiaaGreat
open Go.RowKit Go.Maps
theorem ow_set {w : World} {base g n c : Nat} {l : Bs} (h : Ow w base (.slice (some ⟨g, 0, none⟩) n c) l) {i : Nat} (_hi : i < l.length) (s : UInt8) : Ow (w.setCell ⟨g, i, none⟩ (.int .u8 s.toNat)) base (.slice (some ⟨g, 0, none⟩) n c) (l.set i s) := by
 obtain ⟨h0, h2⟩ := h
 refine ⟨by rw [flat8, List.length_map, Nat.mul_one], ?_⟩
 rw [List.length_set]
 rcases h2 with ⟨hv, -⟩ | ⟨g', cap, cur, hv, hg, hh, r1, r2, r3, r4⟩
 ·cases hv
 ·simp only [Value.slice.injEq, Option.some.injEq, Addr.mk.injEq] at hv
  obtain ⟨⟨rfl, -⟩, rfl, rfl⟩ := hv
  refine .inr ⟨g, c, cur.setIfInBounds i (.int .u8 s.toNat), rfl, hg, by rw [heap_setCell, if_pos rfl, hh]; rfl, r1, r2, by rw [Array.size_setIfInBounds]; exact r3, ?_⟩
  rw [Array.toList_setIfInBounds, List.take_set, r4, flat8, flat8, List.map_set]
theorem ow_at {w : World} {base : Nat} {a : Option Addr} {n c : Nat} {l : Bs} (h : Ow w base (.slice a n c) l) : n = l.length ∧ n ≤ c ∧ c ≤ 9223372036854775807 ∧ ∀ i (_ : i < n), ∃ g, a = some ⟨g, 0, none⟩ ∧ base ≤ g ∧ (∀ o, w.frozen? ⟨g, o, none⟩ = false) ∧ ∃ u, w.cell? ⟨g, i, none⟩ = some (.int .u8 u) := by
 obtain ⟨h0, h1, h2, h3⟩ := OwnG.at T8 h
 refine ⟨h0, h1, by unfold maxLen at h2; omega, fun i hi => ?_⟩
 obtain ⟨g, e, hb, hf, hc⟩ := h3 i (by omega)
 refine ⟨g, e, hb, hf, ((l[i]'(by omega)).toNat : Int), ?_⟩
 have := hc 0 _ rfl
 rw [Nat.mul_one, Nat.add_zero] at this
 exact this
structure Asks (w0 : World) (v room : Nat) (fs last : Files) (S T : World → List Nat → Prop) : Prop where
 upd : ∀ {w G}, S w G → Upd [] w0 w
 lt : ∀ {w G}, S w G → ∀ i ∈ G, i < w.heap.size
 guardF : ∀ {w w' G F1 G'}, S w G → Upd F1 w w' → (∀ i ∈ F1, i ∈ G ∧ w0.heap.size ≤ i) → (∀ b ∈ G', w.heap.size ≤ b ∧ b < w'.heap.size) → S w' (G' ++ G)
 sub : ∀ {w G G'}, S w G → (∀ i ∈ G', i ∈ G) → S w G'
 subT : ∀ {w G G'}, T w G → (∀ i ∈ G', i ∈ G) → T w G'
 guardT : ∀ {w w' G}, T w G → Upd [] w w' → T w' G
 ok : ∃ r, FilesOk r fs
 list : ∀ {w G}, S w G → Calls Tryz.prog 26 #[.pointer (some ⟨v, 0, none⟩)] w fun r w' => ∃ u, r = .returned u ∧ OwT w' w.heap.size u (fs.map (·.1)) ∧ Upd [] w w' ∧ S w' (u.ownBlock.toList ++ G)
 free : ∀ {w G}, S w G → Calls Tryz.prog 17 #[.pointer (some ⟨v, 0, none⟩)] w fun r w' => r = .returned (.int .i64 (freeN room fs last)) ∧ S w' G ∧ Stay G w w'
 size : ∀ {w G} (nm : ByteArray), nm.size ≤ maxLen → S w G → Calls Tryz.prog 24 #[.pointer (some ⟨v, 0, none⟩), .string nm] w fun r w' => r = .returned (.tuple #[.int .i64 (sizeF fs nm.data.toList).1, .int .i64 (sizeF fs nm.data.toList).2]) ∧ S w' G ∧ Stay G w w'
 read : ∀ {w G} (nm : ByteArray), nm.size ≤ maxLen → ∀ at_ cnt : Int, S w G → Calls Tryz.prog 20 #[.pointer (some ⟨v, 0, none⟩), .string nm, .int .i64 at_, .int .i64 cnt] w fun r w' =>
   (∃ rv, r = .returned (.tuple #[rv, .int .i64 (codeR fs nm.data.toList at_ cnt)]) ∧ (codeR fs nm.data.toList at_ cnt = 0 → Ow w' w.heap.size rv (dataR fs nm.data.toList at_ cnt)) ∧ (codeR fs nm.data.toList at_ cnt ≠ 0 → rv = .slice none 0 0) ∧ S w' (rv.ownBlock.toList ++ G) ∧ Stay G w w') ∨
   (r = .returned (.tuple #[.slice none 0 0, .int .i64 2]) ∧ T w' G ∧ Stay G w w')
theorem Lv.asks (w0 : World) (v p room : Nat) (fs last : Files) (c : Nat) (hc : c ≤ 1000000) (hok : ∃ r, FilesOk r fs) : Asks w0 v room fs last (fun w G => Lv w0 w v p room fs last c G) (fun _ _ => False) where
 upd := fun h => h.upd
 lt := fun h => h.lt
 guardF := fun h u h1 h2 => h.guardF u h1 h2
 sub := fun h hs => h.sub hs
 subT := fun h _ => h
 guardT := fun h _ => h
 ok := hok
 list := fun h => h.list
 free := fun h => h.free
 size := fun nm hs h => h.size nm hs
 read := fun nm hs a n h => (h.read hc nm hs a n).mono fun _ _ q => .inl q
theorem LvF.asks (w0 : World) (v p room : Nat) (fs last : Files) (c : Nat) (hc : c ≤ 1000000) (hok : ∃ r, FilesOk r fs) : Asks w0 v room fs last (fun w G => LvF w0 w v p room fs last c G) (fun w G => Fl w0 w v p room (fun f => f = last) c G) where
 upd := fun h => h.upd
 lt := fun h => h.lt
 guardF := fun h u h1 h2 => h.guardF u h1 h2
 sub := fun h hs => h.sub hs
 subT := fun h hs => h.sub hs
 guardT := fun h u => h.keep u
 ok := hok
 list := fun h => h.list
 free := fun h => h.free
 size := fun nm hs h => h.size nm hs
 read := fun nm hs a n h => h.read hc nm hs a n
def Same (room : Nat) (fs last : Files) (now lst : List RF) : Prop := (∀ rl : List Bs, rl.Perm (now.map (·.nm)) → rl.Pairwise leN → namesF fs = rl) ∧ (freeN room fs last : Int) = freeRR room now lst ∧ ∀ i, i < fs.length → dataQ now ((namesF fs).getD i []) 0 1073741824 = (datasF fs).getD i []
def AlikePost (w : World) (G : List Nat) (room : Nat) (fs last : Files) (now lst : List RF) (S T : World → List Nat → Prop) (r : Ending) (w' : World) : Prop :=
 (∃ b : Bool, r = .returned (.bool b) ∧ (b = true ↔ Same room fs last now lst) ∧ S w' G ∧ Stay G w w') ∨ (r = .returned (.bool false) ∧ T w' G ∧ Stay G w w')
set_option maxRecDepth 100000 in
set_option maxHeartbeats 8000000 in
theorem alike_ok {w0 w : World} {v room rp : Nat} {fs last : Files} {S T : World → List Nat → Prop} (hA : Asks w0 v room fs last S T) {G : List Nat} (hS : S w G) {nv lv : Value} {now lst : List RF} (hr : RAt w w0.heap.size rp room nv lv now lst) (hf : ∀ i ∈ rfoot rp nv lv, i ∈ G) (hroom : room ≤ 1000) (hsm : RSm now) (hsl : RSm lst) (_hex : ∃ rl : List Bs, rl.Perm (now.map (·.nm)) ∧ rl.Pairwise leN) :
  Calls Tryz.prog 38 #[.pointer (some ⟨v, 0, none⟩), .pointer (some ⟨rp, 0, none⟩)] w (AlikePost w G room fs last now lst S T) := by
 have HA := Lib.hid hA
 have HSM := Lib.hid (And.intro hsm hsl)
 have HLi := Lib.hid (hA.list hS)
 have HST : Hid (∀ X, Stay G w X → RAt X w0.heap.size rp room nv lv now lst) := Lib.hid fun X s => by
  obtain ⟨F, u, hF⟩ := s
  exact hr.upd u fun i hi => hF i (hf i hi)
 have hbw := (hA.upd hS).size
 clear hA hS hr hf hsm hsl
 go_enter Tryz.func38, Tryz.ntmps38
 go_wp2_with fail
 refine HLi.out.mono ?_
 rintro r w1 ⟨u, rfl, hou, hu1, hs1⟩
 have h1 := HST.out _ (.of hu1)
 have hrl := rlist_ok h1 (by have := HSM.out.1.len; omega)
 obtain ⟨ua, uc, rfl⟩ := hou.slice
 obtain ⟨nN, hnN⟩ : ∃ nN, nN = (fs.map (·.1)).length := ⟨_, rfl⟩
 rw [← hnN] at hou hs1 ⊢
 obtain ⟨-, hNc, hcm⟩ := owT_cap hou
 have H1 := Lib.hid (And.intro hou (And.intro hs1 (And.intro hu1 hnN)))
 have HRL := Lib.hid hrl
 clear hou hu1 hs1 h1 hrl hnN HLi
 go_wp2_with fail
 refine HRL.out.mono ?_
 rintro r w2 ⟨u2, rfl, rl, hrl, hperm, hpair, hu2⟩
 have hou2 := H1.out.1.upd hu2 (by simp)
 have hsame := same_texts w2 (OwnG.sl TT hou2) (OwnG.sl TT hrl)
 have hs2 := HA.out.guardF H1.out.2.1 hu2 (by simp) (G' := []) (by simp)
 have H2 := Lib.hid (And.intro hou2 (And.intro hs2 (And.intro (H1.out.2.2.1.trans hu2) (And.intro hperm hpair))))
 have HSame := Lib.hid hsame
 clear hrl hu2 hou2 hsame hs2 hperm hpair HRL
 go_wp2_with fail
 refine HSame.out.mono ?_
 rintro r w3 ⟨rfl, hu3⟩
 have hs3 := HA.out.guardF H2.out.2.1 hu3 (by simp) (G' := []) (by simp)
 have H3 := Lib.hid (And.intro (H2.out.1.upd hu3 (by simp)) (And.intro hs3 (H2.out.2.2.1.trans hu3)))
 clear hu3 hs3 HSame
 by_cases hnm : fs.map (·.1) = rl
 ·rw [decide_eq_true hnm]
  have HFr := Lib.hid (HA.out.free H3.out.2.1)
  go_wp2_with fail
  refine HFr.out.mono ?_
  rintro r w4 ⟨rfl, hs4, hst4⟩
  have hG1 : ∀ i ∈ G, i ∈ [] ++ ([] ++ ((Value.slice ua nN uc).ownBlock.toList ++ G)) := fun i hi => by simp [hi]
  have hst : Stay G w w4 := (Stay.of H3.out.2.2).trans (hst4.sub hG1)
  have hfr := rfree_ok (HST.out _ hst) hroom (by have := HSM.out.1.len; omega) (by have := HSM.out.2.len; omega) HSM.out.1.elt fun x hx => (HSM.out.2.elt x hx).1
  have how : OwT w4 w.heap.size (.slice ua nN uc) (fs.map (·.1)) := hst4.owT H3.out.1 (fun g hg => by simp [hg])
  have H4 := Lib.hid (And.intro hs4 (And.intro hst (And.intro how hG1)))
  change Calls _ _ _ w4 fun r w' => r = Ending.returned (.int .i64 (freeRR room now lst)) ∧ Upd [] w4 w' at hfr
  have HF := Lib.hid hfr
  have HNM := Lib.hid hnm
  clear hs4 hst hfr how hnm hst4 hG1 HFr
  by_cases hfe : (freeN room fs last : Int) = freeRR room now lst
  ·have hz : ((freeRR room now lst : Int) == freeRR room now lst) = true := by simp
   have HFE := Lib.hid hfe
   rw [hfe]
   clear hfe
   generalize hfr1 : freeRR room now lst = fr at *
   have HFR := Lib.hid hfr1
   clear hfr1
   go_wp2_with fail
   refine HF.out.mono ?_
   rintro r w5 ⟨rfl, hu5⟩
   have H5 := Lib.hid (And.intro (HA.out.guardF H4.out.1 hu5 (by simp) (G' := []) (by simp)) (And.intro (H4.out.2.1.trans (.of hu5)) (H4.out.2.2.1.upd hu5 (by simp))))
   clear hu5 HF
   generalize hGG : [] ++ ([] ++ ([] ++ ((Value.slice ua nN uc).ownBlock.toList ++ G))) = G1 at *
   have HGG := Lib.hid (show (∀ i ∈ G, i ∈ G1) ∧ (∀ g, (Value.slice ua nN uc).ownBlock = some g → g ∈ G1) from by rw [← hGG]; exact ⟨fun i hi => by simp [hi], fun g hg => by simp [hg]⟩)
   clear hGG
   go_wp2_with fail
   clear hz
   go_loopg [7, 8, 9, 10, 11, 12, 13, 14, 15] nN (fun gh v7 v8 v9 v10 v11 v12 v13 v14 v15 wr => ∃ i : Nat, v7 = .int .i64 i ∧ i ≤ nN ∧ gh = nN - i ∧ Hid (S wr G1 ∧ Stay G w wr ∧ OwT wr w.heap.size (.slice ua nN uc) (fs.map (·.1)) ∧ ∀ j, j < i → dataQ now ((namesF fs).getD j []) 0 1073741824 = (datasF fs).getD j []))
   case atStart => exact ⟨0, rfl, by omega, rfl, Lib.hid ⟨H5.out.1, H5.out.2.1, H5.out.2.2, fun j hj => by omega⟩⟩
   case round =>
    obtain ⟨i, rfl, hi, rfl, HV⟩ := hrel
    by_cases hin : i < nN
    ·have hin' : (i : Int) < (nN : Int) := by omega
     obtain ⟨rr, hok⟩ := HA.out.ok
     have hil : i < fs.length := by have := H1.out.2.2.2; rw [List.length_map] at this; omega
     obtain ⟨f, hgf, hfd, hn40⟩ := file_at hok (i := i) hil
     have hfm : f.data.length ≤ 32768 := (hok.ok _ (getA_mem hgf)).most
     have hnz : (strOf ((namesF fs).getD i [])).size ≤ maxLen := by rw [strOf_size]; unfold maxLen; omega
     have hnl : (strOf ((namesF fs).getD i [])).data.toList = (namesF fs).getD i [] := strOf_list _
     obtain ⟨g, cap, hwv, hx1, hx2, d0⟩ := owT_at HV.out.2.2.1 (i := i) (by rw [List.length_map]; exact hil)
     rw [← H1.out.2.2.2] at hwv
     obtain ⟨rfl, -, rfl⟩ := Value.slice.inj hwv
     have hsz := HA.out.size (strOf ((namesF fs).getD i [])) hnz HV.out.1
     rw [hnl] at hsz
     have hsf : sizeF fs ((namesF fs).getD i []) = (f.data.length, 0) := by unfold sizeF; rw [hgf]
     rw [hsf] at hsz
     have hcR : codeR fs ((namesF fs).getD i []) 0 (f.data.length : Int) = 0 := by unfold codeR; rw [hgf]; dsimp only; rw [if_neg (by omega)]
     have hdR : dataR fs ((namesF fs).getD i []) 0 (f.data.length : Int) = f.data := by unfold dataR; rw [hgf]; dsimp only; rw [show (0 : Int).toNat = 0 from rfl, List.drop_zero, List.take_of_length_le (by simp)]
     have HSZ := Lib.hid hsz
     have HNN := Lib.hid (And.intro hnz (And.intro hnl (And.intro hcR (And.intro hdR hfd))))
     have d0' : wr.cell? ⟨g, i, none⟩ = some (.string (strOf ((namesF fs).getD i []))) := d0
     have HD0 := Lib.hid fun (X : World) (s : Stay G1 wr X) => (s.owT HV.out.2.2.1 HGG.out.2)
     clear hwv hx1 d0 hsz hsf hcR hdR hfd hnz hnl hn40 hgf hok hil
     have HAT := Lib.hid fun (X : World) (h : OwT X w.heap.size (.slice (some ⟨g, 0, none⟩) nN uc) (fs.map (·.1))) => show X.cell? ⟨g, i, none⟩ = some (.string (strOf ((namesF fs).getD i []))) from by
      obtain ⟨g', cap', e, -, -, hc⟩ := owT_at h (i := i) (by have := (owT_cap h).1; omega)
      have e2 := (Value.slice.inj e).1
      cases e2
      exact hc
     generalize hnn : strOf ((namesF fs).getD i []) = nn at *
     go_wp2_with fail
     refine HSZ.out.mono ?_
     rintro r w6 ⟨rfl, hs6, hst6⟩
     have how6 := HD0.out _ hst6
     have d6 := HAT.out _ how6
     have hrd := HA.out.read nn HNN.out.1 0 (f.data.length : Int) hs6
     rw [HNN.out.2.1, HNN.out.2.2.1, HNN.out.2.2.2.1] at hrd
     have HRd := Lib.hid hrd
     have H6 := Lib.hid (And.intro how6 hst6)
     have HLT := Lib.hid (HA.out.lt hs6)
     obtain ⟨fl, hfl⟩ : ∃ fl, fl = f.data.length := ⟨_, rfl⟩
     rw [← hfl] at HRd hfm ⊢
     have HFL := Lib.hid hfl
     clear hs6 hst6 how6 hrd HSZ hfl d0'
     go_wp2_with fail
     refine HRd.out.mono ?_
     have HQ := Lib.hid fun (X : World) (s : Stay G w X) => rread_ok (HST.out X s) nn 0 1073741824 ⟨by omega, by omega⟩ ⟨by omega, by omega⟩ (fun x hx => (HSM.out.1.elt x hx).1)
     rw [HNN.out.2.1] at HQ
     obtain ⟨DQ, hDQ⟩ : ∃ DQ, DQ = dataQ now ((namesF fs).getD i []) 0 1073741824 := ⟨_, rfl⟩
     rw [← hDQ] at HQ
     have HDQ := Lib.hid hDQ
     clear hDQ
     rintro r w7 (⟨rv, rfl, ho7, -, hs7, hst7⟩ | ⟨rfl, ht7, hst7⟩)
     ·have hst7w : Stay G w w7 := HV.out.2.1.trans ((H6.out.2.sub HGG.out.1).trans (hst7.sub HGG.out.1))
      have ho7' := ho7 (by first | rfl | trivial)
      have how7 := hst7.owT H6.out.1 HGG.out.2
      have d7 := HAT.out _ how7
      have HQ7 := Lib.hid (HQ.out w7 hst7w)
      obtain ⟨ba, bc, bm, hbm, rfl⟩ := ho7'.sliceM
      have H7 := Lib.hid (And.intro ho7' (And.intro hs7 (And.intro hst7w (And.intro how7 hbm))))
      obtain ⟨-, hbmc, hbcm, -⟩ := ow_at ho7'
      clear ho7 ho7' hs7 hst7 hst7w how7 hbm d6 HRd HQ
      go_wp2_with fail
      refine HQ7.out.mono ?_
      rintro r w8 ⟨rfl, rfl⟩
      clear HQ7
      go_upto_region 11 with (fail)
      go_cut [14] (fun v14 wx => ∃ sm : Bool, v14 = .bool sm ∧ w7 = wx ∧ Hid (sm = true ↔ f.data = DQ))
      case first =>
       have htx := Rd.str (Ow.rd H7.out.1)
       have hbe := strOf_beq f.data DQ
       by_cases he : f.data = DQ
       ·rw [decide_eq_true he] at hbe
        have hsz : (strOf DQ).size = fl := by rw [strOf_size, ← he, HFL.out]
        have hz2 : ((fl : Int) == (fl : Int)) = true := by simp
        have HE := Lib.hid he
        clear he
        generalize strOf f.data = s1 at *
        generalize strOf DQ = s2 at *
        go_wp2_with fail
        go_meet
        exact ⟨true, rfl, rfl, Lib.hid ⟨fun _ => HE.out, fun _ => rfl⟩⟩
       ·rw [decide_eq_false he] at hbe
        have HE := Lib.hid he
        clear he
        generalize strOf f.data = s1 at *
        generalize strOf DQ = s2 at *
        go_wp2_with fail
        go_meet
        exact ⟨false, rfl, rfl, Lib.hid ⟨(fun q => by cases q), fun q => absurd q HE.out⟩⟩
      case rest =>
       obtain ⟨sm, rfl, rfl, HSm⟩ := hcut
       have hG2 : ∀ i ∈ G1, i ∈ (Value.slice ba bm bc).ownBlock.toList ++ G1 := fun i hi => List.mem_append_right _ hi
       have HG2 := Lib.hid hG2
       clear hG2 d7
       go_wp2_with fail
       go_loopg [15] bm (fun gh v15 wr => ∃ k : Nat, v15 = .int .i64 k ∧ k ≤ bm ∧ gh = bm - k ∧ Hid (S wr ((Value.slice ba bm bc).ownBlock.toList ++ G1) ∧ Stay G w wr ∧ OwT wr w.heap.size (.slice (some ⟨g, 0, none⟩) nN uc) (fs.map (·.1)) ∧ ∃ l' : Bs, Ow wr w6.heap.size (.slice ba bm bc) l' ∧ l'.length = bm))
       case atStart => exact ⟨0, rfl, by omega, rfl, Lib.hid ⟨H7.out.2.1, H7.out.2.2.1, H7.out.2.2.2.1, f.data, H7.out.1, H7.out.2.2.2.2.symm⟩⟩
       case round =>
        obtain ⟨k, rfl, hk, rfl, HW⟩ := hrel
        by_cases hkb : k < bm
        ·have hkb' : (k : Int) < (bm : Int) := by omega
         obtain ⟨l', hol, hll⟩ := HW.out.2.2.2
         obtain ⟨-, -, -, hat⟩ := ow_at hol
         obtain ⟨b, rfl, hbb, hbf, u, hcu⟩ := hat k hkb
         have f1 := hbf k
         have hset := ow_set hol (i := k) (by omega) 1
         have hus : Upd [b] wr (wr.setCell ⟨b, k, none⟩ (.int .u8 1)) := (Upd.refl [b] wr).setCell (by simp) _ _
         have hsb : ∀ i ∈ [b], i ∈ (Value.slice (some ⟨b, 0, none⟩) bm bc).ownBlock.toList ++ G1 ∧ w0.heap.size ≤ i := fun i hi => by
          rw [List.mem_singleton.1 hi]
          exact ⟨List.mem_append_left _ (by simp [Value.ownBlock]), Nat.le_trans hbw (by have := HV.out.2.1.size; have := H6.out.2.size; omega)⟩
         have hbG : b ∉ G1 := fun q => by have := HLT.out b q; omega
         have H9 : Hid (S (wr.setCell ⟨b, k, none⟩ (.int .u8 1)) ((Value.slice (some ⟨b, 0, none⟩) bm bc).ownBlock.toList ++ G1) ∧ Stay G w (wr.setCell ⟨b, k, none⟩ (.int .u8 1)) ∧ OwT (wr.setCell ⟨b, k, none⟩ (.int .u8 1)) w.heap.size (.slice (some ⟨g, 0, none⟩) nN uc) (fs.map (·.1)) ∧ ∃ l' : Bs, Ow (wr.setCell ⟨b, k, none⟩ (.int .u8 1)) w6.heap.size (.slice (some ⟨b, 0, none⟩) bm bc) l' ∧ l'.length = bm) :=
          Lib.hid ⟨by have := HA.out.guardF HW.out.1 hus hsb (G' := []) (by simp); simpa using this, HW.out.2.1.trans ⟨[b], hus, fun i hi q => hbG (by rw [← List.mem_singleton.1 q]; exact HGG.out.1 i hi)⟩, HW.out.2.2.1.upd hus (fun j hj e => hbG (by rw [← List.mem_singleton.1 hj]; exact HGG.out.2 j e)), _, hset, by rw [List.length_set]; exact hll⟩
         clear hset hus hsb hol hll hat hbf
         go_wp2_with fail
         generalize wr.setCell ⟨b, k, none⟩ (.int .u8 1) = w9 at *
         go_wp2_with fail
         go_roundg (bm - (k + 1))
         case measure => omega
         case rel => exact ⟨k + 1, by go_num, by omega, rfl, H9⟩
        ·have hkb' : ¬ (k : Int) < (bm : Int) := by omega
         cases sm with
         | true =>
          go_wp2_with fail
          go_roundg (nN - (i + 1))
          case measure => omega
          case rel =>
           refine ⟨i + 1, by go_num, by omega, rfl, Lib.hid ⟨HA.out.sub HW.out.1 HG2.out, HW.out.2.1, HW.out.2.2.1, fun j hj => ?_⟩⟩
           by_cases q : j = i
           ·rw [q, ← HDQ.out, ← HSm.out.1 (by first | rfl | trivial)]; exact HNN.out.2.2.2.2
           ·exact HV.out.2.2.2 j (by omega)
         | false =>
          go_wp2_with fail
          go_ret
          refine .inl ⟨false, rfl, ⟨(fun q => by cases q), fun q => ?_⟩, HA.out.sub HW.out.1 fun i hi => HG2.out i (HGG.out.1 i hi), HW.out.2.1⟩
          have h1 := q.2.2 i (by have := H1.out.2.2.2; rw [List.length_map] at this; omega)
          rw [← HDQ.out, ← HNN.out.2.2.2.2] at h1
          exact absurd (HSm.out.2 h1.symm) (by first | exact id | decide)
     ·have hst7w : Stay G w w7 := HV.out.2.1.trans ((H6.out.2.sub HGG.out.1).trans (hst7.sub HGG.out.1))
      have how7 := hst7.owT H6.out.1 HGG.out.2
      have d7 := HAT.out _ how7
      have HQ7 := Lib.hid (HQ.out w7 hst7w)
      have H7 := Lib.hid (And.intro (HA.out.subT ht7 HGG.out.1) hst7w)
      clear ht7 hst7 hst7w how7 d6 HRd HQ
      go_wp2_with fail
      refine HQ7.out.mono ?_
      rintro r w8 ⟨rfl, rfl⟩
      clear HQ7
      go_upto_region 11 with (fail)
      go_cut [14] (fun v14 wx => ∃ sm : Bool, v14 = .bool sm ∧ w7 = wx)
      case first =>
       have htx := Rd.str (Rd.nil w7)
       have hbe := strOf_beq [] DQ
       by_cases he : ([] : Bs) = DQ
       ·rw [decide_eq_true he] at hbe
        generalize strOf [] = s1 at *
        generalize strOf DQ = s2 at *
        go_wp2_with fail
        go_meet
        exact ⟨_, rfl, rfl⟩
       ·rw [decide_eq_false he] at hbe
        generalize strOf [] = s1 at *
        generalize strOf DQ = s2 at *
        go_wp2_with fail
        go_meet
        exact ⟨_, rfl, rfl⟩
      case rest =>
       obtain ⟨sm, rfl, rfl⟩ := hcut
       clear d7
       go_wp2_with fail
       go_loopg [15] 0 (fun gh v15 wr => v15 = .int .i64 0 ∧ gh = 0 ∧ w7 = wr)
       case atStart => exact ⟨rfl, rfl, rfl⟩
       case round =>
        obtain ⟨rfl, rfl, rfl⟩ := hrel
        cases sm with
        | true =>
         go_wp2_with fail
         go_ret
         exact .inr ⟨rfl, H7.out⟩
        | false =>
         go_wp2_with fail
         go_ret
         exact .inr ⟨rfl, H7.out⟩
    ·have hin' : ¬ (i : Int) < (nN : Int) := by omega
     go_wp2_with fail
     go_ret
     refine .inl ⟨true, rfl, ⟨fun _ => ⟨fun rl2 hp2 hs2 => ?_, by rw [HFR.out]; exact HFE.out, fun j hj => HV.out.2.2.2 j ?_⟩, fun _ => rfl⟩, HA.out.sub HV.out.1 HGG.out.1, HV.out.2.1⟩
     ·exact HNM.out.trans (srt_same H2.out.2.2.2.2 hs2 (H2.out.2.2.2.1.trans hp2.symm))
     ·have := H1.out.2.2.2; rw [List.length_map] at this; omega
  ·have hz : ((freeN room fs last : Int) == freeRR room now lst) = false := by simpa using hfe
   have HFE := Lib.hid hfe
   clear hfe
   generalize hfr1 : freeRR room now lst = fr at *
   generalize hfr2 : (freeN room fs last : Int) = fq at *
   have HFR := Lib.hid (And.intro hfr1 hfr2)
   clear hfr1 hfr2
   go_wp2_with fail
   refine HF.out.mono ?_
   rintro r w5 ⟨rfl, hu5⟩
   have H5 := Lib.hid (And.intro (HA.out.sub (G' := G) (HA.out.guardF H4.out.1 hu5 (by simp) (G' := []) (by simp)) fun i hi => by simp [hi]) (H4.out.2.1.trans (.of hu5)))
   clear hu5 HF
   go_wp2_with fail
   go_ret
   exact .inl ⟨false, rfl, ⟨(fun q => by cases q), fun q => absurd (show fq = fr by rw [← HFR.out.1, ← HFR.out.2]; exact q.2.1) HFE.out⟩, H5.out⟩
 ·rw [decide_eq_false hnm]
  have HNM := Lib.hid hnm
  go_wp2_with fail
  go_ret
  exact .inl ⟨false, rfl, ⟨(fun q => by cases q), fun q => absurd (q.1 rl H2.out.2.2.2.1 H2.out.2.2.2.2) HNM.out⟩, HA.out.sub (G' := G) H3.out.2.1 (fun i hi => by simp [hi]), .of H3.out.2.2⟩
end Go.Proofs.YteepgehjkcahiaaGreat

namespace Go.Proofs.YteepgehjkcahiaaGreat
open Go.RowKit Go.Maps
def Zt (w0 w : World) (v p room : Nat) (fs last : Files) (c : Nat) (G : List Nat) (dn : Bool) : Prop := if dn = true then Fl w0 w v p room (fun f => f = last) c G else LvF w0 w v p room fs last c G
section
variable {w0 w w' : World} {v p room rp : Nat} {fs last : Files} {c : Nat} {G : List Nat} {dn : Bool} {nv lv : Value} {now lst : List RF} {K : List Nat}
theorem Zt.guardF (h : Zt w0 w v p room fs last c G dn) {F1 : List Nat} (u : Upd F1 w w') (h1 : ∀ i ∈ F1, i ∈ G ∧ w0.heap.size ≤ i) {G' : List Nat} (hg : ∀ b ∈ G', w.heap.size ≤ b ∧ b < w'.heap.size) : Zt w0 w' v p room fs last c (G' ++ G) dn := by
 cases dn with
 | true => exact Fl.guardF h u h1 hg
 | false => exact LvF.guardF h u h1 hg
theorem Zt.lt (h : Zt w0 w v p room fs last c G dn) : ∀ i ∈ G, i < w.heap.size := by
 cases dn with
 | true => exact Fl.lt h
 | false => exact LvF.lt h
theorem Zt.upd (h : Zt w0 w v p room fs last c G dn) : Upd [] w0 w := by
 cases dn with
 | true => exact Fl.upd h
 | false => exact LvF.upd h
structure RS (w0 w : World) (v p room rp : Nat) (fs last : Files) (now lst : List RF) (nv lv : Value) (c : Nat) (dn : Bool) (K : List Nat) : Prop where
 z : ∃ G, Zt w0 w v p room fs last c G dn ∧ (∀ i ∈ rfoot rp nv lv, i ∈ G) ∧ ∀ i ∈ K, i ∈ G
 r : RAt w w0.heap.size rp room nv lv now lst
 k : ∀ i ∈ K, i ∉ rfoot rp nv lv
theorem RS.upd (h : RS w0 w v p room rp fs last now lst nv lv c dn K) : Upd [] w0 w := by
 obtain ⟨G, hz, -⟩ := h.z
 exact hz.upd
theorem RS.lt (h : RS w0 w v p room rp fs last now lst nv lv c dn K) : ∀ i ∈ K, i < w.heap.size := by
 obtain ⟨G, hz, -, hk⟩ := h.z
 exact fun i hi => hz.lt i (hk i hi)
theorem RS.sub {K' : List Nat} (h : RS w0 w v p room rp fs last now lst nv lv c dn K) (hs : ∀ i ∈ K', i ∈ K) : RS w0 w v p room rp fs last now lst nv lv c dn K' := by
 obtain ⟨G, hz, h1, h2⟩ := h.z
 exact ⟨⟨G, hz, h1, fun i hi => h2 i (hs i hi)⟩, h.r, fun i hi => h.k i (hs i hi)⟩
theorem RS.guardF (h : RS w0 w v p room rp fs last now lst nv lv c dn K) {F1 : List Nat} (u : Upd F1 w w') (h1 : ∀ i ∈ F1, i ∈ K ∧ w0.heap.size ≤ i) {K' : List Nat} (hg : ∀ b ∈ K', w.heap.size ≤ b ∧ b < w'.heap.size) : RS w0 w' v p room rp fs last now lst nv lv c dn (K' ++ K) := by
 obtain ⟨G, hz, h2, h3⟩ := h.z
 refine ⟨⟨K' ++ G, hz.guardF u (fun i hi => ⟨h3 i (h1 i hi).1, (h1 i hi).2⟩) hg, fun i hi => List.mem_append_right _ (h2 i hi), fun i hi => ?_⟩, h.r.upd u fun i hi q => h.k i (h1 i q).1 hi, fun i hi q => ?_⟩
 ·rcases List.mem_append.1 hi with e | e
  ·exact List.mem_append_left _ e
  ·exact List.mem_append_right _ (h3 i e)
 ·rcases List.mem_append.1 hi with e | e
  ·have := (hg i e).1; have := (h.r.lt i q).2; omega
  ·exact h.k i e q
theorem RS.vstep {fs' last' : Files} {c' : Nat} {dn' : Bool} (hr : RAt w w0.heap.size rp room nv lv now lst) (hk : ∀ i ∈ K, i ∉ rfoot rp nv lv) (hf : ∀ i ∈ rfoot rp nv lv, i ∈ G) (hK : ∀ i ∈ K, i ∈ G) (hz : Zt w0 w' v p room fs' last' c' G dn') (hs : Stay G w w') : RS w0 w' v p room rp fs' last' now lst nv lv c' dn' K ∧ Stay K w w' := by
 refine ⟨⟨⟨G, hz, hf, hK⟩, ?_, hk⟩, hs.sub hK⟩
 obtain ⟨F, u, hF⟩ := hs
 exact hr.upd u fun i hi => hF i (hf i hi)
theorem RS.rstep (h : RS w0 w v p room rp fs last now lst nv lv c dn K) {now' lst' : List RF} (hn : RNext w w0.heap.size rp room nv lv now' lst' w') : ∃ nv' lv', RS w0 w' v p room rp fs last now' lst' nv' lv' c dn K ∧ Stay K w w' := by
 obtain ⟨G, hz, h2, h3⟩ := h.z
 obtain ⟨nv', lv', q1, q2, q3⟩ := hn
 have hlt := hz.lt
 refine ⟨nv', lv', ⟨⟨(rfoot rp nv' lv').filter (fun i => decide (w.heap.size ≤ i)) ++ G, hz.guardF q2 (fun i hi => ⟨h2 i hi, (h.r.lt i hi).1⟩) fun b hb => ?_, fun i hi => ?_, fun i hi => List.mem_append_right _ (h3 i hi)⟩, q1, fun i hi q => ?_⟩, ⟨_, q2, h.k⟩⟩
 ·obtain ⟨q4, q5⟩ := List.mem_filter.1 hb
  exact ⟨by simpa using q5, (q1.lt b q4).2⟩
 ·rcases q3 i hi with e | e
  ·exact List.mem_append_right _ (h2 i e)
  ·exact List.mem_append_left _ (List.mem_filter.2 ⟨hi, by simpa using e⟩)
 ·rcases q3 i q with e | e
  ·exact h.k i hi e
  ·have := hlt i (h3 i hi); omega
theorem RS.inv (h : RS w0 w v p room rp fs last now lst nv lv c false K) : ∃ (l : Nat → Cell) (k s : Nat), FsInv l room k s fs last := by
 obtain ⟨G, hz, -⟩ := h.z
 exact LvF.inv hz
theorem RS.down (h : RS w0 w v p room rp fs last now lst nv lv c dn K) : Calls Tryz.prog 29 #[.pointer (some ⟨p, 0, none⟩)] w fun r w' => r = .returned (.bool dn) ∧ w = w' := by
 obtain ⟨G, hz, -⟩ := h.z
 cases dn with
 | true => exact (Fl.down hz).mono fun r w' ⟨a, b⟩ => ⟨a, b.symm⟩
 | false => exact (LvF.down hz).mono fun r w' ⟨a, b⟩ => ⟨a, b.symm⟩
theorem RS.create (h : RS w0 w v p room rp fs last now lst nv lv c false K) (nm : ByteArray) (hs : nm.size ≤ maxLen) :
  Calls Tryz.prog 15 #[.pointer (some ⟨v, 0, none⟩), .string nm] w fun r w' => r = .returned (.int .i64 (codeC false fs nm.data.toList)) ∧ RS w0 w' v p room rp (crtF fs nm.data.toList) last now lst nv lv c false K ∧ Stay K w w' := by
 obtain ⟨G, hz, h2, h3⟩ := h.z
 exact (LvF.create hz nm hs).mono fun r w' ⟨e, hl, hst⟩ => ⟨e, RS.vstep h.r h.k h2 h3 (dn' := false) hl hst⟩
theorem RS.remove (h : RS w0 w v p room rp fs last now lst nv lv c false K) (nm : ByteArray) (hs : nm.size ≤ maxLen) :
  Calls Tryz.prog 19 #[.pointer (some ⟨v, 0, none⟩), .string nm] w fun r w' => r = .returned (.int .i64 (codeF false fs nm.data.toList)) ∧ RS w0 w' v p room rp (delA fs nm.data.toList) last now lst nv lv c false K ∧ Stay K w w' := by
 obtain ⟨G, hz, h2, h3⟩ := h.z
 exact (LvF.remove hz nm hs).mono fun r w' ⟨e, hl, hst⟩ => ⟨e, RS.vstep h.r h.k h2 h3 (dn' := false) hl hst⟩
theorem RS.rename (h : RS w0 w v p room rp fs last now lst nv lv c false K) (a b : ByteArray) (hs : a.size ≤ maxLen) (ht : b.size ≤ maxLen) :
  Calls Tryz.prog 21 #[.pointer (some ⟨v, 0, none⟩), .string a, .string b] w fun r w' => r = .returned (.int .i64 (codeN false fs a.data.toList b.data.toList)) ∧ RS w0 w' v p room rp (renF fs a.data.toList b.data.toList) last now lst nv lv c false K ∧ Stay K w w' := by
 obtain ⟨G, hz, h2, h3⟩ := h.z
 exact (LvF.rename hz a b hs ht).mono fun r w' ⟨e, hl, hst⟩ => ⟨e, RS.vstep h.r h.k h2 h3 (dn' := false) hl hst⟩
theorem RS.size (h : RS w0 w v p room rp fs last now lst nv lv c false K) (nm : ByteArray) (hs : nm.size ≤ maxLen) :
  Calls Tryz.prog 24 #[.pointer (some ⟨v, 0, none⟩), .string nm] w fun r w' => r = .returned (.tuple #[.int .i64 (sizeF fs nm.data.toList).1, .int .i64 (sizeF fs nm.data.toList).2]) ∧ RS w0 w' v p room rp fs last now lst nv lv c false K ∧ Stay K w w' := by
 obtain ⟨G, hz, h2, h3⟩ := h.z
 exact (LvF.size hz nm hs).mono fun r w' ⟨e, hl, hst⟩ => ⟨e, RS.vstep h.r h.k h2 h3 (dn' := false) hl hst⟩
theorem RS.reset (h : RS w0 w v p room rp fs last now lst nv lv c false K) :
  Calls Tryz.prog 32 #[.pointer (some ⟨v, 0, none⟩)] w fun r w' => r = .returned (.tuple #[]) ∧ RS w0 w' v p room rp last last now lst nv lv c false K ∧ Stay K w w' := by
 obtain ⟨G, hz, h2, h3⟩ := h.z
 exact (LvF.reset hz).mono fun r w' ⟨e, hl, hst⟩ => ⟨e, RS.vstep h.r h.k h2 h3 (dn' := false) hl hst⟩
theorem RS.fuse (h : RS w0 w v p room rp fs last now lst nv lv c false K) (n : Int) (hn : In64 n) :
  Calls Tryz.prog 28 #[.pointer (some ⟨p, 0, none⟩), .int .i64 n] w fun r w' => r = .returned (.int .i64 0) ∧ RS w0 w' v p room rp fs last now lst nv lv c false K ∧ Stay K w w' := by
 obtain ⟨G, hz, h2, h3⟩ := h.z
 exact (LvF.fuse hz n hn).mono fun r w' ⟨e, hl, hst, _⟩ => ⟨e, RS.vstep h.r h.k h2 h3 (dn' := false) hl hst⟩
theorem RS.append (h : RS w0 w v p room rp fs last now lst nv lv c false K) (hc : c ≤ 1000000) (nm : ByteArray) (hs : nm.size ≤ maxLen) {dv : Value} {d : Bs} (hd : Rd w dv d) (hdo : ∀ g, dv.ownBlock = some g → g ∈ K) (hdl : d.length ≤ 140737488355328) :
  Calls Tryz.prog 16 #[.pointer (some ⟨v, 0, none⟩), .string nm, dv] w fun r w' => ∃ dn : Bool, r = .returned (.int .i64 (if dn = true then 2 else codeP room fs last nm.data.toList d.length : Nat)) ∧ RS w0 w' v p room rp (apdF room fs last nm.data.toList d) last now lst nv lv (c + 1) dn K ∧ Stay K w w' := by
 obtain ⟨G, hz, h2, h3⟩ := h.z
 refine (LvF.append hz hc nm hs hd (fun _ g hg => .inl (h3 g (hdo g hg))) hdl).mono fun r w' q => ?_
 rcases q with ⟨e, hl, hst⟩ | ⟨e, hl, hst⟩
 ·exact ⟨false, e, RS.vstep h.r h.k h2 h3 (dn' := false) hl hst⟩
 ·exact ⟨true, e, RS.vstep h.r h.k h2 h3 (dn' := true) hl hst⟩
theorem RS.read (h : RS w0 w v p room rp fs last now lst nv lv c false K) (hc : c ≤ 1000000) (nm : ByteArray) (hs : nm.size ≤ maxLen) (at_ cnt : Int) :
  Calls Tryz.prog 20 #[.pointer (some ⟨v, 0, none⟩), .string nm, .int .i64 at_, .int .i64 cnt] w fun r w' => ∃ (dn : Bool) (rv : Value), r = .returned (.tuple #[rv, .int .i64 (if dn = true then 2 else codeR fs nm.data.toList at_ cnt : Nat)]) ∧
   (∃ D : Bs, Rd w' rv D ∧ (dn = false → codeR fs nm.data.toList at_ cnt = 0 → D = dataR fs nm.data.toList at_ cnt) ∧ (dn = false → codeR fs nm.data.toList at_ cnt ≠ 0 → D = [])) ∧ RS w0 w' v p room rp fs last now lst nv lv c dn (rv.ownBlock.toList ++ K) ∧ Stay K w w' := by
 obtain ⟨G, hz, h2, h3⟩ := h.z
 refine (LvF.read hz hc nm hs at_ cnt).mono fun r w' q => ?_
 rcases q with ⟨rv, e, ho, hn, hl, hst⟩ | ⟨e, hl, hst⟩
 ·have hkk : ∀ i ∈ rv.ownBlock.toList ++ K, i ∉ rfoot rp nv lv := fun i hi => by
   rcases List.mem_append.1 hi with q | q
   ·intro q2
    by_cases hc : codeR fs nm.data.toList at_ cnt = 0
    ·have := ((ho hc).block i (by simpa using q)).1; have := (h.r.lt i q2).2; omega
    ·rw [hn hc] at q; simp [Value.ownBlock] at q
   ·exact h.k i q
  refine ⟨false, rv, e, ?_, ⟨⟨_, hl, fun i hi => List.mem_append_right _ (h2 i hi), fun i hi => ?_⟩, ?_, hkk⟩, hst.sub h3⟩
  ·by_cases hc : codeR fs nm.data.toList at_ cnt = 0
   ·exact ⟨_, (ho hc).rd, fun _ _ => rfl, fun _ q => absurd hc q⟩
   ·rw [hn hc]; exact ⟨[], Rd.nil _, fun _ q => absurd q hc, fun _ _ => rfl⟩
  ·rcases List.mem_append.1 hi with q | q
   ·exact List.mem_append_left _ q
   ·exact List.mem_append_right _ (h3 i q)
  ·obtain ⟨F, u, hF⟩ := hst
   exact h.r.upd u fun i hi => hF i (h2 i hi)
 ·refine ⟨true, _, e, ⟨[], Rd.nil _, (fun q => by cases q), (fun q => by cases q)⟩, ?_⟩
  have := RS.vstep h.r h.k h2 h3 (dn' := true) (fs' := fs) hl hst
  simpa [Value.ownBlock] using this
theorem RS.sync (h : RS w0 w v p room rp fs last now lst nv lv c false K) (hc : c ≤ 1000000) :
  Calls Tryz.prog 18 #[.pointer (some ⟨v, 0, none⟩)] w fun r w' => (r = .returned (.int .i64 0) ∧ RS w0 w' v p room rp fs fs now lst nv lv (c + 1) false K ∧ Stay K w w') ∨
   (r = .returned (.int .i64 2) ∧ ∃ G, Fl w0 w' v p room (fun f => f = last ∨ f = fs) (c + 1) G ∧ RAt w' w0.heap.size rp room nv lv now lst ∧ (∀ i ∈ rfoot rp nv lv, i ∈ G) ∧ (∀ i ∈ K, i ∈ G) ∧ Stay K w w') := by
 obtain ⟨G, hz, h2, h3⟩ := h.z
 refine (LvF.sync hz hc).mono fun r w' q => ?_
 rcases q with ⟨e, hl, hst⟩ | ⟨e, hl, hst⟩
 ·exact .inl ⟨e, RS.vstep h.r h.k h2 h3 (dn' := false) hl hst⟩
 ·refine .inr ⟨e, G, hl, ?_, h2, h3, hst.sub h3⟩
  obtain ⟨F, u, hF⟩ := hst
  exact h.r.upd u fun i hi => hF i (h2 i hi)
end
end Go.Proofs.YteepgehjkcahiaaGreat

namespace Go.Proofs.YteepgehjkcahiaaGreat
open Go.RowKit Go.Maps
theorem sim_same {l : Nat → Cell} {room k s : Nat} {fs last : Files} {now lst : List RF} (h : FsInv l room k s fs last) (hs : Sim fs last now lst) : Same room fs last now lst := by
 refine ⟨fun rl hp hr => (sim_names h.now hr hp hs.now).symm, (sim_free h hs).symm, fun i hi => ?_⟩
 obtain ⟨f, hg, hd, -⟩ := file_at h.now hi
 have hm := (h.now.ok _ (getA_mem hg)).most
 have hc : codeR fs ((namesF fs).getD i []) 0 1073741824 = 0 := by unfold codeR; rw [hg]; dsimp only; rw [if_neg (by omega)]
 rw [(sim_read h.now hs _ 0 1073741824).2.1 hc]
 unfold dataR
 rw [hg]
 dsimp only
 rw [show (0 : Int).toNat = 0 from rfl, List.drop_zero, List.take_of_length_le (by simp only at hm; omega), hd]
theorem sim_ex {fs last : Files} {now : List RF} {room : Nat} (hok : FilesOk room fs) (h : now.Perm (fs.map (rfO last))) : ∃ rl : List Bs, rl.Perm (now.map (·.nm)) ∧ rl.Pairwise leN := by
 have h1 := h.map (·.nm)
 rw [List.map_map] at h1
 refine ⟨namesF fs, h1.symm, ?_⟩
 unfold namesF
 rw [List.pairwise_map]
 exact List.Pairwise.imp (fun h => leN_of_lt h) hok.srt
set_option maxRecDepth 100000 in
set_option maxHeartbeats 16000000 in
theorem do_ok {w0 w : World} {v p room rp : Nat} {fs last : Files} {now lst : List RF} {nv lv : Value} {c : Nat} {K : List Nat} (h : RS w0 w v p room rp fs last now lst nv lv c false K) (hsim : Sim fs last now lst) (hc : c ≤ 900000) (hroom : room ≤ 1000) (x : CallR) (hrd : Rd w0 x.dv x.d) (hok : CallOk w0 x) {pa qa : Option Addr} {pl pc ql qc : Nat} (hdv : x.dv = .slice pa pl pc) (hpv : x.pv = .slice qa ql qc) :
  Calls Tryz.prog 40 #[.pointer (some ⟨p, 0, none⟩), .pointer (some ⟨v, 0, none⟩), .pointer (some ⟨rp, 0, none⟩), aggC x] w fun r w' => r = .returned (.bool true) ∧ ∃ (dn : Bool) (fs' : Files) (now' : List RF) (nv' lv' : Value) (c' : Nat), RS w0 w' v p room rp fs' last now' lst nv' lv' c' dn K ∧ (dn = false → Sim fs' last now' lst) ∧ c' ≤ c + 1 ∧ Stay K w w' := by
 obtain ⟨il, ik, is, hinv⟩ := h.inv
 have hbw := h.upd.size
 obtain ⟨kind, nm, dst, dv, d, at_, n, pv, pk⟩ := x
 dsimp only at hrd hdv hpv
 subst hdv hpv
 have hua : Upd [] w (w.alloc (boxC ⟨kind, nm, dst, .slice pa pl pc, d, at_, n, .slice qa ql qc, pk⟩)) := (Upd.refl [] w).alloc _
 have h0 := h.guardF hua (by simp) (K' := [w.heap.size]) (by intro b hb; obtain rfl := List.mem_singleton.1 hb; exact ⟨Nat.le_refl _, by simp⟩)
 have H0 : Hid (RS w0 (w.alloc (boxC ⟨kind, nm, dst, .slice pa pl pc, d, at_, n, .slice qa ql qc, pk⟩)) v p room rp fs last now lst nv lv c false (w.heap.size :: K) ∧ (w.alloc (boxC ⟨kind, nm, dst, .slice pa pl pc, d, at_, n, .slice qa ql qc, pk⟩)).heap[w.heap.size]? = some (boxC ⟨kind, nm, dst, .slice pa pl pc, d, at_, n, .slice qa ql qc, pk⟩) ∧ Stay K w (w.alloc (boxC ⟨kind, nm, dst, .slice pa pl pc, d, at_, n, .slice qa ql qc, pk⟩))) := Lib.hid ⟨h0, heap_top _ _, .of hua⟩
 have hn1 : nm.size ≤ maxLen := by have := hok.nm; dsimp only at this; unfold maxLen; omega
 have hn2 : dst.size ≤ maxLen := by have := hok.dst; dsimp only at this; unfold maxLen; omega
 have hsmall := sim_small hsim.now hinv.now
 have hsmall2 := sim_small hsim.lst hinv.was
 have HSIM := Lib.hid hsim
 have HINV := Lib.hid hinv
 have HN1 := Lib.hid hn1
 have HN2 := Lib.hid hn2
 have HSM := Lib.hid hsmall
 have HSL := Lib.hid hsmall2
 have HOK := Lib.hid hok
 have HRD := Lib.hid hrd
 clear h hua h0 hsim hinv hn1 hn2 hsmall hsmall2 hok hrd hbw
 unfold aggC
 dsimp only
 go_enter Tryz.func40, Tryz.ntmps40
 go_upto_block 0 with fail
 obtain ⟨wb, hwb⟩ : ∃ wb, wb = w.alloc (boxC ⟨kind, nm, dst, .slice pa pl pc, d, at_, n, .slice qa ql qc, pk⟩) := ⟨_, rfl⟩
 rw [← hwb] at H0 ⊢
 clear hwb
 have hKs : ∀ i ∈ K, i ∈ w.heap.size :: K := fun i hi => List.mem_cons_of_mem _ hi
 have HKS := Lib.hid hKs
 clear hKs
 go_cut [9, 10, 11] (fun v9 v10 v11 wx => ∃ (dn sm : Bool) (e f : Nat) (fs' : Files) (now' : List RF) (nv' lv' : Value) (c' : Nat), v9 = .int .i64 e ∧ v10 = .int .i64 f ∧ v11 = .bool sm ∧ c' ≤ c + 1 ∧ Hid ((dn = true → e = 2) ∧ (dn = false → e = f ∧ sm = true)) ∧ Hid (RS w0 wx v p room rp fs' last now' lst nv' lv' c' dn K ∧ (dn = false → Sim fs' last now' lst) ∧ Stay K w wx))
 case first =>
  obtain ⟨b0, b1, b2, b3, b4, b5, b6⟩ := boxC_at H0.out.2.1
  dsimp only at b0 b1 b2 b3 b4 b5 b6
  by_cases k1 : kind = 1
  ·subst k1
   have HC := Lib.hid (H0.out.1.create nm HN1.out)
   go_wp2_with fail
   refine HC.out.mono ?_
   rintro r w1 ⟨rfl, hs1, hst1⟩
   obtain ⟨e0, e1, e2, e3, e4, e5, e6⟩ := boxC_at ((hst1.block (lt_of_blk H0.out.2.1) (by simp)).trans H0.out.2.1)
   dsimp only at e0 e1 e2 e3 e4 e5 e6
   have hr1 := rcreate_ok hs1.r hs1.upd.size nm HN1.out (by have := HSM.out.len; omega)
   have HR := Lib.hid hr1
   have H1 := Lib.hid (And.intro hs1 (H0.out.2.2.trans (hst1.sub HKS.out)))
   clear hr1 hs1 hst1 HC b0 b1 b2 b3 b4 b5 b6
   go_wp2_with fail
   refine HR.out.mono ?_
   rintro r w2 ⟨rfl, hn2⟩
   obtain ⟨nv2, lv2, hs2, hst2⟩ := H1.out.1.rstep hn2
   have H2 := Lib.hid (And.intro (hs2.sub HKS.out) (H1.out.2.trans (hst2.sub HKS.out)))
   clear hs2 hst2 hn2 HR e0 e1 e2 e3 e4 e5 e6
   go_wp2_with fail
   go_meet
   exact ⟨false, true, _, _, _, _, nv2, lv2, c, rfl, rfl, rfl, by omega, Lib.hid ⟨(fun q => by cases q), fun _ => ⟨(sim_codeC HINV.out.now HSIM.out _).symm, rfl⟩⟩, Lib.hid ⟨H2.out.1, (fun _ => sim_create HINV.out.now HSIM.out _), H2.out.2⟩⟩
  by_cases k6 : kind = 6
  ·subst k6
   have HC := Lib.hid (H0.out.1.remove nm HN1.out)
   go_wp2_with fail
   refine HC.out.mono ?_
   rintro r w1 ⟨rfl, hs1, hst1⟩
   obtain ⟨e0, e1, e2, e3, e4, e5, e6⟩ := boxC_at ((hst1.block (lt_of_blk H0.out.2.1) (by simp)).trans H0.out.2.1)
   dsimp only at e0 e1 e2 e3 e4 e5 e6
   have hr1 := rremove_ok hs1.r hs1.upd.size nm (by have := HSM.out.len; omega)
   have HR := Lib.hid hr1
   have H1 := Lib.hid (And.intro hs1 (H0.out.2.2.trans (hst1.sub HKS.out)))
   clear hr1 hs1 hst1 HC b0 b1 b2 b3 b4 b5 b6
   go_wp2_with fail
   refine HR.out.mono ?_
   rintro r w2 ⟨rfl, hn2⟩
   obtain ⟨nv2, lv2, hs2, hst2⟩ := H1.out.1.rstep hn2
   have H2 := Lib.hid (And.intro (hs2.sub HKS.out) (H1.out.2.trans (hst2.sub HKS.out)))
   clear hs2 hst2 hn2 HR e0 e1 e2 e3 e4 e5 e6
   go_wp2_with fail
   go_meet
   exact ⟨false, true, _, _, _, _, nv2, lv2, c, rfl, rfl, rfl, by omega, Lib.hid ⟨(fun q => by cases q), fun _ => ⟨(sim_codeM HINV.out.now HSIM.out _).symm, rfl⟩⟩, Lib.hid ⟨H2.out.1, (fun _ => sim_remove HINV.out.now HSIM.out _), H2.out.2⟩⟩
  by_cases k5 : kind = 5
  ·subst k5
   have HC := Lib.hid (H0.out.1.rename nm dst HN1.out HN2.out)
   go_wp2_with fail
   refine HC.out.mono ?_
   rintro r w1 ⟨rfl, hs1, hst1⟩
   obtain ⟨e0, e1, e2, e3, e4, e5, e6⟩ := boxC_at ((hst1.block (lt_of_blk H0.out.2.1) (by simp)).trans H0.out.2.1)
   dsimp only at e0 e1 e2 e3 e4 e5 e6
   have hr1 := rrename_ok hs1.r hs1.upd.size nm dst HN2.out (by have := HSM.out.len; omega) (fun q1 q2 => sim_ren_some HINV.out.now HSIM.out q1 q2)
   have HR := Lib.hid hr1
   have H1 := Lib.hid (And.intro hs1 (H0.out.2.2.trans (hst1.sub HKS.out)))
   clear hr1 hs1 hst1 HC b0 b1 b2 b3 b4 b5 b6
   go_wp2_with fail
   refine HR.out.mono ?_
   rintro r w2 ⟨rfl, hn2⟩
   obtain ⟨nv2, lv2, hs2, hst2⟩ := H1.out.1.rstep hn2
   have H2 := Lib.hid (And.intro (hs2.sub HKS.out) (H1.out.2.trans (hst2.sub HKS.out)))
   clear hs2 hst2 hn2 HR e0 e1 e2 e3 e4 e5 e6
   go_wp2_with fail
   go_meet
   exact ⟨false, true, _, _, _, _, nv2, lv2, c, rfl, rfl, rfl, by omega, Lib.hid ⟨(fun q => by cases q), fun _ => ⟨(sim_codeN HINV.out.now HSIM.out _ _).symm, rfl⟩⟩, Lib.hid ⟨H2.out.1, (fun _ => sim_rename HINV.out.now HSIM.out _ _), H2.out.2⟩⟩
  by_cases k4 : kind = 4
  ·subst k4
   have HC := Lib.hid (H0.out.1.size nm HN1.out)
   go_wp2_with fail
   refine HC.out.mono ?_
   rintro r w1 ⟨rfl, hs1, hst1⟩
   obtain ⟨e0, e1, e2, e3, e4, e5, e6⟩ := boxC_at ((hst1.block (lt_of_blk H0.out.2.1) (by simp)).trans H0.out.2.1)
   dsimp only at e0 e1 e2 e3 e4 e5 e6
   have hr1 := rsize_ok hs1.r nm (fun x hx => (HSM.out.elt x hx).1)
   rw [sim_size HINV.out.now HSIM.out] at hr1
   have HR := Lib.hid hr1
   have H1 := Lib.hid (And.intro (hs1.sub HKS.out) (H0.out.2.2.trans (hst1.sub HKS.out)))
   clear hr1 hs1 hst1 HC b0 b1 b2 b3 b4 b5 b6
   go_wp2_with fail
   refine HR.out.mono ?_
   rintro r w2 ⟨rfl, rfl⟩
   have hzz : (((sizeF fs nm.data.toList).1 : Int) == ((sizeF fs nm.data.toList).1 : Int)) = true := by simp
   clear HR e0 e1 e2 e3 e4 e5 e6
   go_wp2_with fail
   go_meet
   exact ⟨false, true, _, _, fs, now, nv, lv, c, rfl, rfl, rfl, by omega, Lib.hid ⟨(fun q => by cases q), fun _ => ⟨rfl, rfl⟩⟩, Lib.hid ⟨H1.out.1, (fun _ => HSIM.out), H1.out.2⟩⟩
  by_cases k3 : kind = 3
  ·subst k3
   have HC := Lib.hid (H0.out.1.read (by omega) nm HN1.out at_ n)
   go_wp2_with fail
   refine HC.out.mono ?_
   rintro r w1 ⟨dn, rv, rfl, ⟨D, hD, hd1, hd2⟩, hs1, hst1⟩
   obtain ⟨e0, e1, e2, e3, e4, e5, e6⟩ := boxC_at ((hst1.block (lt_of_blk H0.out.2.1) (by simp)).trans H0.out.2.1)
   dsimp only at e0 e1 e2 e3 e4 e5 e6
   have hr1 := rread_ok hs1.r nm at_ n HOK.out.at_ HOK.out.n (fun x hx => (HSM.out.elt x hx).1)
   obtain ⟨sr1, sr2, sr3⟩ := sim_read HINV.out.now HSIM.out nm.data.toList at_ n
   obtain ⟨e, he⟩ : ∃ e : Nat, e = (if dn = true then 2 else codeR fs nm.data.toList at_ n) := ⟨_, rfl⟩
   obtain ⟨f, hf⟩ : ∃ f : Nat, f = codeQ now nm.data.toList at_ n := ⟨_, rfl⟩
   obtain ⟨DQ, hq⟩ : ∃ DQ : Bs, DQ = dataQ now nm.data.toList at_ n := ⟨_, rfl⟩
   rw [← hf, ← hq] at hr1
   rw [← he]
   have hDQ : dn = false → D = DQ := fun q => by
    by_cases hc0 : codeR fs nm.data.toList at_ n = 0
    ·rw [hd1 q hc0, hq, sr2 hc0]
    ·rw [hd2 q hc0, hq, sr3 hc0]
   have HEF : Hid ((dn = true → e = 2) ∧ (dn = false → e = f)) := Lib.hid ⟨fun q => by rw [he, if_pos q], fun q => by rw [he, q, if_neg Bool.false_ne_true, hf, sr1]⟩
   have HDQ := Lib.hid hDQ
   have HR := Lib.hid hr1
   have HRV := Lib.hid hD
   have H1 := Lib.hid (And.intro (hs1.sub (K' := K) fun i hi => List.mem_append_right _ (HKS.out i hi)) (H0.out.2.2.trans (hst1.sub HKS.out)))
   clear hr1 hs1 hst1 HC b0 b1 b2 b3 b4 b5 b6 he hf hq hDQ hd1 hd2 sr1 sr2 sr3 hD
   go_wp2_with fail
   refine HR.out.mono ?_
   rintro r w2 ⟨rfl, rfl⟩
   have htx := Rd.str HRV.out
   have hbe := strOf_beq D DQ
   have HDn := Lib.hid H1.out.1.down
   clear HR e0 e1 e2 e3 e4 e5 e6
   by_cases hdd : D = DQ
   ·rw [decide_eq_true hdd] at hbe
    clear hdd
    generalize strOf D = s1 at *
    generalize strOf DQ = s2 at *
    go_wp2_with fail
    go_meet
    exact ⟨dn, true, e, f, fs, now, nv, lv, c, rfl, rfl, rfl, by omega, Lib.hid ⟨HEF.out.1, fun q => ⟨HEF.out.2 q, rfl⟩⟩, Lib.hid ⟨H1.out.1, (fun _ => HSIM.out), H1.out.2⟩⟩
   ·rw [decide_eq_false hdd] at hbe
    have HND := Lib.hid hdd
    clear hdd
    generalize strOf D = s1 at *
    generalize strOf DQ = s2 at *
    go_wp2_with fail
    refine HDn.out.mono ?_
    rintro r w3 ⟨rfl, rfl⟩
    go_wp2_with fail
    go_meet
    exact ⟨dn, dn, e, f, fs, now, nv, lv, c, rfl, rfl, rfl, by omega, Lib.hid ⟨HEF.out.1, fun q => absurd (HDQ.out q) HND.out⟩, Lib.hid ⟨H1.out.1, (fun _ => HSIM.out), H1.out.2⟩⟩
  by_cases k7 : kind = 7
  ·subst k7
   obtain ⟨G, hz, h2, h3⟩ := H0.out.1.z
   have hal := alike_ok (LvF.asks w0 v p room fs last c (by omega) ⟨_, HINV.out.now⟩) (show LvF w0 wb v p room fs last c G from hz) H0.out.1.r h2 hroom HSM.out HSL.out (sim_ex HINV.out.now HSIM.out.now)
   have HAl := Lib.hid hal
   have HG := Lib.hid (And.intro h2 (fun i hi => h3 i (HKS.out i hi)))
   clear hal hz h2 h3 b1 b2 b3 b4 b5 b6
   go_wp2_with fail
   refine HAl.out.mono ?_
   rintro r w1 (⟨b, rfl, hiff, hs1, hst1⟩ | ⟨rfl, ht1, hst1⟩)
   ·obtain rfl : b = true := hiff.2 (sim_same HINV.out HSIM.out)
    have H1 := Lib.hid (RS.vstep H0.out.1.r (K := K) (fun i hi => H0.out.1.k i (HKS.out i hi)) HG.out.1 HG.out.2 (dn' := false) hs1 hst1)
    clear hiff hs1 hst1 HAl
    go_wp2_with fail
    go_ret
    exact ⟨rfl, false, fs, now, nv, lv, c, H1.out.1, (fun _ => HSIM.out), by omega, H0.out.2.2.trans H1.out.2⟩
   ·have H1 := Lib.hid (RS.vstep H0.out.1.r (K := K) (fun i hi => H0.out.1.k i (HKS.out i hi)) HG.out.1 HG.out.2 (dn' := true) (fs' := fs) ht1 hst1)
    have HDn := Lib.hid H1.out.1.down
    clear ht1 hst1 HAl
    go_wp2_with fail
    refine HDn.out.mono ?_
    rintro r w3 ⟨rfl, rfl⟩
    go_wp2_with fail
    go_ret
    exact ⟨rfl, true, fs, now, nv, lv, c, H1.out.1, (fun q => by cases q), by omega, H0.out.2.2.trans H1.out.2⟩
  by_cases k2 : kind = 2
  ·subst k2
   have hby := bytes_ok wb ⟨2, nm, dst, .slice pa pl pc, d, at_, n, .slice qa ql qc, pk⟩ (HRD.out.keep H0.out.1.upd) HOK.out.d HOK.out.n
   dsimp only [aggC] at hby
   have HBy := Lib.hid hby
   clear hby
   go_wp2_with fail
   refine HBy.out.mono ?_
   rintro r w1 ⟨rv, rfl, lb, hob, hlb, hu1⟩
   obtain ⟨ba, bc, bm, hbm, rfl⟩ := hob.sliceM
   obtain ⟨-, hbmc, hbcm, -⟩ := ow_at hob
   have hs1 := H0.out.1.guardF hu1 (by simp) (K' := (Value.slice ba bm bc).ownBlock.toList) (fun b hb => hob.block b (by simpa using hb))
   have hx1 := (hu1.block _ (lt_of_blk H0.out.2.1) (by simp)).trans H0.out.2.1
   obtain ⟨e0, e1, e2, e3, e4, e5, e6⟩ := boxC_at hx1
   dsimp only at e0 e1 e2 e3 e4 e5 e6
   have HAp := Lib.hid (hs1.append (by omega) nm HN1.out hob.rd (fun g hg => List.mem_append_left _ (by simp [hg])) hlb)
   have H1 := Lib.hid (And.intro hob (And.intro hlb (And.intro hx1 (And.intro hu1 (And.intro hbm H0.out.1.lt)))))
   clear hob hlb hu1 hs1 hx1 hbm HBy b0 b1 b2 b3 b4 b5 b6
   go_wp2_with fail
   refine HAp.out.mono ?_
   rintro r w2 ⟨dn, rfl, hs2, hst2⟩
   have ho2 := hst2.ow H1.out.1 (fun g hg => List.mem_append_left _ (by simp [hg]))
   have hx2 := (hst2.block (lt_of_blk H1.out.2.2.1) (List.mem_append_right _ (by simp))).trans H1.out.2.2.1
   obtain ⟨f0, f1, f2, f3, f4, f5, f6⟩ := boxC_at hx2
   dsimp only at f0 f1 f2 f3 f4 f5 f6
   have hr2 := rappend_ok hs2.r nm ho2.rd H1.out.2.1 hroom (by have := HSM.out.len; omega) (by have := HSL.out.len; omega) HSM.out.elt (fun x hx => (HSL.out.elt x hx).1)
   rw [sim_codeA HINV.out HSIM.out] at hr2
   have hsi := sim_append HINV.out HSIM.out nm.data.toList lb
   obtain ⟨cd, hcd⟩ : ∃ cd : Nat, cd = codeP room fs last nm.data.toList lb.length := ⟨_, rfl⟩
   rw [← hcd] at hr2 ⊢
   obtain ⟨e, he⟩ : ∃ e : Nat, e = (if dn = true then 2 else cd) := ⟨_, rfl⟩
   rw [← he]
   have HEF : Hid ((dn = true → e = 2) ∧ (dn = false → e = cd)) := Lib.hid ⟨fun q => by rw [he, if_pos q], fun q => by rw [he, q, if_neg Bool.false_ne_true]⟩
   have HR := Lib.hid hr2
   have H2 := Lib.hid (And.intro hs2 (And.intro ho2 (And.intro hst2 hsi)))
   clear hs2 hst2 ho2 hx2 hr2 hsi HAp e0 e1 e2 e3 e4 e5 e6 he hcd
   go_wp2_with fail
   refine HR.out.mono ?_
   rintro r w3 ⟨rfl, hn3⟩
   obtain ⟨nv3, lv3, hs3, hst3⟩ := H2.out.1.rstep hn3
   have ho3 := hst3.ow H2.out.2.1 (fun g hg => List.mem_append_left _ (by simp [hg]))
   have hKm : ∀ i ∈ K, i ∈ (Value.slice ba bm bc).ownBlock.toList ++ w.heap.size :: K := fun i hi => List.mem_append_right _ (HKS.out i hi)
   have H3 := Lib.hid (And.intro hs3 (And.intro ho3 (And.intro (((H0.out.2.2.trans (.of H1.out.2.2.2.1)).trans (H2.out.2.2.1.sub hKm)).trans (hst3.sub hKm)) hKm)))
   clear hs3 hst3 ho3 hKm hn3 HR f0 f1 f2 f3 f4 f5 f6
   go_wp2_with fail
   go_loopg [13] bm (fun gh v13 wr => ∃ k : Nat, v13 = .int .i64 k ∧ k ≤ bm ∧ gh = bm - k ∧ Hid (RS w0 wr v p room rp (apdF room fs last nm.data.toList lb) last (appR room now lst nm.data.toList lb) lst nv3 lv3 (c + 1) dn ((Value.slice ba bm bc).ownBlock.toList ++ w.heap.size :: K) ∧ Stay K w wr ∧ ∃ l' : Bs, Ow wr wb.heap.size (.slice ba bm bc) l' ∧ l'.length = bm))
   case atStart => exact ⟨0, rfl, by omega, rfl, Lib.hid ⟨H3.out.1, H3.out.2.2.1, lb, H3.out.2.1, H1.out.2.2.2.2.1.symm⟩⟩
   case round =>
    obtain ⟨k, rfl, hk, rfl, HW⟩ := hrel
    by_cases hkb : k < bm
    ·have hkb' : (k : Int) < (bm : Int) := by omega
     obtain ⟨l', hol, hll⟩ := HW.out.2.2
     obtain ⟨-, -, -, hat⟩ := ow_at hol
     obtain ⟨b, rfl, hbb, hbf, u, hcu⟩ := hat k hkb
     have hz1 := hbf k
     have hset := ow_set hol (i := k) (by omega) 9
     have hus : Upd [b] wr (wr.setCell ⟨b, k, none⟩ (.int .u8 9)) := (Upd.refl [b] wr).setCell (by simp) _ _
     have hsb : ∀ i ∈ [b], i ∈ (Value.slice (some ⟨b, 0, none⟩) bm bc).ownBlock.toList ++ w.heap.size :: K ∧ w0.heap.size ≤ i := fun i hi => by
      rw [List.mem_singleton.1 hi]
      exact ⟨List.mem_append_left _ (by simp [Value.ownBlock]), by have := H0.out.1.upd.size; omega⟩
     have hbK : b ∉ K := fun q => by have := H1.out.2.2.2.2.2 b (HKS.out b q); omega
     have H9 : Hid (RS w0 (wr.setCell ⟨b, k, none⟩ (.int .u8 9)) v p room rp (apdF room fs last nm.data.toList lb) last (appR room now lst nm.data.toList lb) lst nv3 lv3 (c + 1) dn ((Value.slice (some ⟨b, 0, none⟩) bm bc).ownBlock.toList ++ w.heap.size :: K) ∧ Stay K w (wr.setCell ⟨b, k, none⟩ (.int .u8 9)) ∧ ∃ l' : Bs, Ow (wr.setCell ⟨b, k, none⟩ (.int .u8 9)) wb.heap.size (.slice (some ⟨b, 0, none⟩) bm bc) l' ∧ l'.length = bm) :=
      Lib.hid ⟨by have := HW.out.1.guardF hus hsb (K' := []) (by simp); simpa using this, HW.out.2.1.trans ⟨[b], hus, fun i hi q => hbK (by rw [← List.mem_singleton.1 q]; exact hi)⟩, _, hset, by rw [List.length_set]; exact hll⟩
     clear hset hus hsb hol hll hat hbf
     go_wp2_with fail
     generalize wr.setCell ⟨b, k, none⟩ (.int .u8 9) = w9 at *
     go_wp2_with fail
     go_roundg (bm - (k + 1))
     case measure => omega
     case rel => exact ⟨k + 1, by go_num, by omega, rfl, H9⟩
    ·have hkb' : ¬ (k : Int) < (bm : Int) := by omega
     go_wp2_with fail
     go_meet
     exact ⟨dn, true, e, cd, _, _, nv3, lv3, c + 1, rfl, rfl, rfl, by omega, Lib.hid ⟨HEF.out.1, fun q => ⟨HEF.out.2 q, rfl⟩⟩, Lib.hid ⟨HW.out.1.sub H3.out.2.2.2, (fun _ => H2.out.2.2.2), HW.out.2.1⟩⟩
  have g1 : (kind == 1) = false := by simpa using k1
  have g2 : (kind == 2) = false := by simpa using k2
  have g3 : (kind == 3) = false := by simpa using k3
  have g4 : (kind == 4) = false := by simpa using k4
  have g5 : (kind == 5) = false := by simpa using k5
  have g6 : (kind == 6) = false := by simpa using k6
  have g7 : (kind == 7) = false := by simpa using k7
  clear b1 b2 b3 b4 b5 b6 k1 k2 k3 k4 k5 k6 k7
  go_wp2_with fail
  go_meet
  exact ⟨false, true, 0, 0, fs, now, nv, lv, c, rfl, rfl, rfl, by omega, Lib.hid ⟨(fun q => by cases q), fun _ => ⟨rfl, rfl⟩⟩, Lib.hid ⟨H0.out.1.sub HKS.out, (fun _ => HSIM.out), H0.out.2.2⟩⟩
 case rest =>
  obtain ⟨dn, sm, e, f, fs', now', nv', lv', c', rfl, rfl, rfl, hc', HE, HS⟩ := hcut
  have HD := Lib.hid HS.out.1.down
  go_wp2_with fail
  refine HD.out.mono ?_
  rintro r w9 ⟨rfl, rfl⟩
  cases dn with
  | true =>
   have he : (e : Int) = 2 := by have := HE.out.1 rfl; omega
   have he2 : ((e : Int) == 2) = true := by rw [he]; rfl
   clear he
   go_wp2_with fail
   go_ret
   exact ⟨rfl, true, fs', now', nv', lv', c', HS.out.1, (fun q => by cases q), hc', HS.out.2.2⟩
  | false =>
   obtain ⟨rfl, rfl⟩ := HE.out.2 rfl
   have he2 : ((e : Int) == (e : Int)) = true := by simp
   go_wp2_with fail
   go_ret
   exact ⟨rfl, false, fs', now', nv', lv', c', HS.out.1, (fun _ => HS.out.2.1 (by first | rfl | trivial)), hc', HS.out.2.2⟩
end Go.Proofs.YteepgehjkcahiaaGreat
