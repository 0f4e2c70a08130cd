/- The document's files: Append, Remove, Rename. The document's files: Copy. FsdirAgain's plain part: two rows of texts of the law's own; files by their place. -/
import Derived.Test.YteepgehjkcahiaaGreatC40
import Derived.Test.YteepgehjkcahiaaGreatC39
namespace Go.Proofs.YteepgehjkcahiaaGreat
open Go.RowKit Go.Maps
def freeRR (room : Nat) (now lst : List RF) : Int := (room : Int) - sumB2 lst - sumB2 now + sumO now
def codeAR (room : Nat) (now lst : List RF) (nm : Bs) (k : Nat) : Nat := match idxR now nm with | none => 80 | some i => if 32768 < (now.getD i RF.nil).data.length + k then 84 else if freeRR room now lst < ((blocksN ((now.getD i RF.nil).data.length + k) : Nat) : Int) - (blocksN (now.getD i RF.nil).data.length : Nat) then 85 else 0
def appR (room : Nat) (now lst : List RF) (nm d : Bs) : List RF := match idxR now nm with | none => now | some i => if codeAR room now lst nm d.length = 0 then now.set i ⟨(now.getD i RF.nil).nm, (now.getD i RF.nil).data ++ d, (now.getD i RF.nil).old⟩ else now
section
variable {w w' : World} {base rp room : Nat} {nv lv : Value} {now lst : List RF}
set_option maxRecDepth 100000 in
set_option maxHeartbeats 4000000 in
theorem rappend_ok (h : RAt w base rp room nv lv now lst) (nm : ByteArray) {dv : Value} {d : Bs} (hd : Rd w dv d) (hdl : d.length ≤ 140737488355328) (hr : room ≤ 1000) (hl : now.length ≤ 100) (hll : lst.length ≤ 100) (hsm : ∀ x ∈ now, x.data.length ≤ 32768 ∧ x.old ≤ 64) (hsl : ∀ x ∈ lst, x.data.length ≤ 32768) :
  Calls Tryz.prog 77 #[.pointer (some ⟨rp, 0, none⟩), .string nm, dv] w fun r w' => r = .returned (.int .i64 (codeAR room now lst nm.data.toList d.length)) ∧ RNext w base rp room nv lv (appR room now lst nm.data.toList d) lst w' := by
 have HF := Lib.hid (rfind_ok h nm)
 have HFr := Lib.hid (rfree_ok h hr hl hll hsm hsl)
 obtain ⟨na, nc, rfl⟩ := h.now.slice
 obtain ⟨n, hn⟩ : ∃ n, n = now.length := ⟨_, rfl⟩
 have c1 := cell_blk h.box 1
 simp only [List.getElem?_toArray, List.getElem?_cons_zero, List.getElem?_cons_succ] at c1
 obtain ⟨-, hnc, hncm⟩ := owF_len h.now
 rw [← hn] at c1 hnc
 generalize hL : nm.data.toList = L at *
 clear hL
 have H := Lib.hid h
 obtain ⟨da, dc, rfl, hdc, hdcm, -⟩ := hd.slice
 cases hi : idxR now L with
 | none =>
  have e1 : findR now L = -1 := by simp [findR, hi]
  have e2 : codeAR room now lst L d.length = 80 := by simp [codeAR, hi]
  have e3 : appR room now lst L d = now := by simp [appR, hi]
  rw [e1] at HF
  rw [e2, e3]
  clear h hn hi e1 e2 e3 hsm hsl hd
  go_enter Tryz.func77, Tryz.ntmps77
  go_wp2_with fail
  refine HF.out.mono ?_
  rintro r w1 ⟨rfl, rfl⟩
  go_wp2_with fail
  go_ret
  exact ⟨rfl, RNext.refl H.out (Upd.refl [] _)⟩
 | some i =>
  have e1 : findR now L = (i : Int) := by simp [findR, hi]
  have hil := (idxR_lt hi).1
  obtain ⟨g, rfl, -, hfz, -, d1, -⟩ := owF_at h.now hil
  have hin : (i : Int) < (n : Int) := by omega
  have hi0 : (0 : Int) ≤ (i : Int) := by omega
  have hgd : now.getD i RF.nil = now[i] := by rw [List.getD_eq_getElem?_getD, List.getElem?_eq_getElem hil]; rfl
  have hdx := hsm _ (List.getElem_mem hil)
  have e2 : codeAR room now lst L d.length = (if 32768 < now[i].data.length + d.length then 84 else if freeRR room now lst < ((blocksN (now[i].data.length + d.length) : Nat) : Int) - (blocksN now[i].data.length : Nat) then 85 else 0) := by unfold codeAR; rw [hi]; dsimp only; rw [hgd]
  have e3 : appR room now lst L d = if codeAR room now lst L d.length = 0 then now.set i ⟨now[i].nm, now[i].data ++ d, now[i].old⟩ else now := by unfold appR; rw [hi]; dsimp only; rw [hgd]
  rw [hgd] at d1
  rw [e1] at HF
  rw [e3, e2]
  have HE := Lib.hid (And.intro hil hgd)
  have HD := Lib.hid hd
  have hds := strOf_size now[i].data
  have f1 := hfz (i * 3 + 1)
  have hfb : -12800 ≤ freeRR room now lst ∧ freeRR room now lst ≤ 8000 := by
   have h1 := sumB2_le hsl
   have h2 := sumB2_le fun x hx => (hsm x hx).1
   have h3 := sumO_le fun x hx => (hsm x hx).2
   unfold freeRR
   constructor <;> omega
  change Hid (Calls _ _ _ _ fun r w' => r = Ending.returned (.int .i64 (freeRR room now lst)) ∧ Upd [] w w') at HFr
  generalize freeRR room now lst = fr at *
  obtain ⟨hf1, hf2⟩ := hfb
  have hx1 := hdx.1
  have HBK := Lib.hid fun (X : World) (m : Nat) (hm : m ≤ 1000000000) => rblocks_ok X m hm
  obtain ⟨dl, hdle⟩ : ∃ dl, dl = d.length := ⟨_, rfl⟩
  rw [← hdle] at hdl hdc
  obtain ⟨k, hk⟩ : ∃ k, k = now[i].data.length := ⟨_, rfl⟩
  rw [← hk] at hx1 hds
  have HKD := Lib.hid (And.intro hdle hk)
  by_cases q1 : 32768 < k + dl
  ·have q1' : (32768 : Int) - (k : Int) < (dl : Int) := by omega
   rw [← hk, ← hdle, if_pos q1, if_neg (by decide)]
   generalize strOf now[i].data = s1 at *
   clear h hn hi e1 e2 e3 hsm hsl hd hgd hdx hk hdle q1
   go_enter Tryz.func77, Tryz.ntmps77
   go_wp2_with fail
   refine HF.out.mono ?_
   rintro r w1 ⟨rfl, rfl⟩
   go_wp2_with fail
   go_ret
   exact ⟨rfl, RNext.refl H.out (Upd.refl [] _)⟩
  ·have q1' : ¬ (32768 : Int) - (k : Int) < (dl : Int) := by omega
   have hb1 : blocksN (k + dl) ≤ 64 := by unfold blocksN; omega
   have hb2 : blocksN k ≤ 64 := by unfold blocksN; omega
   have hkd : (k : Int) + (dl : Int) = ((k + dl : Nat) : Int) := by omega
   rw [← hk, ← hdle, if_neg q1]
   have HB1 := Lib.hid fun X : World => HBK.out X (k + dl) (by omega)
   have HB2 := Lib.hid fun X : World => HBK.out X k (by omega)
   have hdl2 : dl ≤ 32768 := by omega
   generalize hbb1 : blocksN (k + dl) = b1 at *
   generalize hbb2 : blocksN k = b2 at *
   by_cases q2 : fr < (b1 : Int) - (b2 : Int)
   ·rw [if_pos q2, if_neg (by decide)]
    generalize strOf now[i].data = s1 at *
    clear h hn hi e1 e2 e3 hsm hsl hd hgd hdx hk hdle q1 hbb1 hbb2 HBK
    rw [show ((k + dl : Nat) : Int) = (k : Int) + (dl : Int) from hkd.symm] at HB1
    clear hkd
    go_enter Tryz.func77, Tryz.ntmps77
    go_wp2_with fail
    refine HF.out.mono ?_
    rintro r w1 ⟨rfl, rfl⟩
    go_wp2_with fail
    refine (HB1.out _).mono ?_
    rintro r w1 ⟨rfl, rfl⟩
    go_wp2_with fail
    refine (HB2.out _).mono ?_
    rintro r w1 ⟨rfl, rfl⟩
    go_wp2_with fail
    refine HFr.out.mono ?_
    rintro r w2 ⟨rfl, hu2⟩
    have HU := Lib.hid hu2
    clear hu2
    go_wp2_with fail
    go_ret
    exact ⟨rfl, RNext.refl (H.out.keep HU.out) HU.out⟩
   ·rw [if_neg q2, if_pos rfl]
    have hcat : Hid (strOf now[i].data ++ strOf d = strOf (now[i].data ++ d)) := Lib.hid (strOf_append _ _)
    have hdz := strOf_size d
    rw [← hdle] at hdz
    have hk8 : (k : Int) ≤ 8388608 := by omega
    have hd8 : (dl : Int) ≤ 8388608 := by omega
    have HX := Lib.hid fun (X : World) (u : Upd [] w X) => (H.out.keep u).putOld hil (j := 1) (by omega) (x' := ⟨now[i].nm, now[i].data ++ d, now[i].old⟩) (v := .string (strOf (now[i].data ++ d))) rfl
    clear h hn hi e1 e2 e3 hsm hsl hd hgd hdx hk hdle q1 hbb1 hbb2 HBK
    rw [show ((k + dl : Nat) : Int) = (k : Int) + (dl : Int) from hkd.symm] at HB1
    clear hkd
    have d1' : w.cell? ⟨g, i * 3 + 1, none⟩ = some (.string (strOf now[i].data)) := d1
    have HC := Lib.hid (And.intro c1 (And.intro d1 f1))
    generalize hs1 : strOf now[i].data = s1 at *
    go_enter Tryz.func77, Tryz.ntmps77
    go_wp2_with fail
    refine HF.out.mono ?_
    rintro r w1 ⟨rfl, rfl⟩
    go_wp2_with fail
    refine (HB1.out _).mono ?_
    rintro r w1 ⟨rfl, rfl⟩
    go_wp2_with fail
    refine (HB2.out _).mono ?_
    rintro r w1 ⟨rfl, rfl⟩
    go_wp2_with fail
    refine HFr.out.mono ?_
    rintro r w2 ⟨rfl, hu2⟩
    have HU := Lib.hid hu2
    have k1 := held1 hu2 HC.out.1
    have k2 := held1 hu2 HC.out.2.1
    have k3 : w2.frozen? ⟨g, i * 3 + 1, none⟩ = false := by
     have hb := (H.out.keep hu2).now
     obtain ⟨g', e, -, hz, -⟩ := owF_at hb hil
     cases e
     exact hz _
    have ht := Rd.str ((HD.out.keep hu2).keep (Upd.refl [] w2).drew)
    rw [← HKD.out.1] at ht
    clear hu2 c1 d1 f1 d1'
    generalize hs2 : strOf d = s2 at *
    go_wp2_with fail
    go_region
    have HRN : Hid (RNext w base rp room (.slice (some ⟨g, 0, none⟩) now.length nc) lv (now.set i ⟨now[i].nm, now[i].data ++ d, now[i].old⟩) lst ((w2.setCell ⟨g, i * 3 + 1, none⟩ (.string (s1 ++ s2))).drew)) := Lib.hid (by
     obtain ⟨q3, q4⟩ := HX.out w2 HU.out
     rw [← hcat.out] at q3 q4
     exact ⟨_, _, q3.keep ((Upd.refl [] _).drew), (HU.out.mono (by simp)).trans ((q4.mono fun k hk _ => mem_rfoot.2 (.inr (.inl (by rw [List.mem_singleton.1 hk]; rfl)))).drew), fun _ h => .inl h⟩)
    clear ht k1 k2 k3
    generalize (w2.setCell ⟨g, i * 3 + 1, none⟩ (.string (s1 ++ s2))).drew = w3 at *
    go_wp2_with fail
    go_ret
    exact ⟨rfl, HRN.out⟩
theorem flatF_len (l : List RF) : (flatG cF l).length = l.length * 3 := flatG_len TF l
theorem src_take {w : World} {A : Option Addr} {l : List RF} (h : SrcG cF w A l) (i : Nat) : SrcG cF w A (l.take i) := by
 refine ⟨fun q => by rw [h.1 q]; simp, fun ad q j u hu => h.2 ad q j u ?_⟩
 have e : flatG cF l = flatG cF (l.take i) ++ flatG cF (l.drop i) := by rw [← flatG_app, List.take_append_drop]
 rw [e, List.getElem?_append_left]
 ·exact hu
 ·exact (List.getElem?_eq_some_iff.1 hu).1
theorem src_drop {w : World} {b : Nat} {l : List RF} (h : SrcG cF w (some ⟨b, 0, none⟩) l) (i : Nat) (hi : i ≤ l.length) : SrcG cF w (some ⟨b, i * 3, none⟩) (l.drop i) := by
 refine ⟨fun q => (nomatch q), fun ad q j u hu => ?_⟩
 cases q
 have e : flatG cF l = flatG cF (l.take i) ++ flatG cF (l.drop i) := by rw [← flatG_app, List.take_append_drop]
 have hl : (flatG cF (l.take i)).length = i * 3 := by rw [flatF_len, List.length_take]; omega
 have := h.2 ⟨b, 0, none⟩ rfl (i * 3 + j) u (by rw [e, List.getElem?_append_right (by omega), hl, Nat.add_sub_cancel_left]; exact hu)
 rw [add_plainG] at this ⊢
 rwa [Nat.zero_add] at this
def codeMR (now : List RF) (nm : Bs) : Nat := match idxR now nm with | none => 80 | some _ => 0
def rmvR (now : List RF) (nm : Bs) : List RF := match idxR now nm with | none => now | some i => now.take i ++ now.drop (i + 1)
set_option maxRecDepth 100000 in
set_option maxHeartbeats 4000000 in
theorem rremove_ok (h : RAt w base rp room nv lv now lst) (hb : base ≤ w.heap.size) (nm : ByteArray) (hl : now.length ≤ 100) :
  Calls Tryz.prog 80 #[.pointer (some ⟨rp, 0, none⟩), .string nm] w fun r w' => r = .returned (.int .i64 (codeMR now nm.data.toList)) ∧ RNext w base rp room nv lv (rmvR now nm.data.toList) lst w' := by
 have HF := Lib.hid (rfind_ok h nm)
 obtain ⟨na, nc, rfl⟩ := h.now.slice
 obtain ⟨n, hn⟩ : ∃ n, n = now.length := ⟨_, rfl⟩
 have c1 := cell_blk h.box 1
 simp only [List.getElem?_toArray, List.getElem?_cons_zero, List.getElem?_cons_succ] at c1
 obtain ⟨-, hnc, hncm⟩ := owF_len h.now
 rw [← hn] at c1 hnc hl
 generalize hL : nm.data.toList = L at *
 clear hL
 have H := Lib.hid h
 cases hi : idxR now L with
 | none =>
  have e1 : findR now L = -1 := by simp [findR, hi]
  have e2 : codeMR now L = 80 := by simp [codeMR, hi]
  have e3 : rmvR now L = now := by simp [rmvR, hi]
  rw [e1] at HF
  rw [e2, e3]
  clear h hn hi e1 e2 e3
  go_enter Tryz.func80, Tryz.ntmps80
  go_wp2_with fail
  refine HF.out.mono ?_
  rintro r w1 ⟨rfl, rfl⟩
  go_wp2_with fail
  go_ret
  exact ⟨rfl, RNext.refl H.out (Upd.refl [] _)⟩
 | some i =>
  have e1 : findR now L = (i : Int) := by simp [findR, hi]
  have e2 : codeMR now L = 0 := by simp [codeMR, hi]
  have e3 : rmvR now L = now.take i ++ now.drop (i + 1) := by simp [rmvR, hi]
  have hil := (idxR_lt hi).1
  obtain ⟨g, rfl, -, -, -, -, -⟩ := owF_at h.now hil
  have hin : (i : Int) < (n : Int) := by omega
  have hi0 : (0 : Int) ≤ (i : Int) := by omega
  have f1 := frozen_blk h.box 1
  have hrl := lt_of_blk h.box
  rw [e1] at HF
  rw [e2, e3]
  have HS1 : Hid (∀ X, Upd [] w X → SrcG cF X (some ⟨g, 0, none⟩) (now.take i)) := Lib.hid fun X u => src_take (OwnG.src TF (h.keep u).now) i
  obtain ⟨A2, hA2⟩ : ∃ A2 : Option Addr, (if nc = i + 1 then (some ⟨g, 0, none⟩ : Option Addr) else some ⟨g, (i + 1) * 3, none⟩) = A2 := ⟨_, rfl⟩
  have HS2 : Hid (∀ X, Upd [] w X → SrcG cF X A2 (now.drop (i + 1))) := Lib.hid fun X u => by
   rw [← hA2]
   split
   ·rename_i q
    have : now.drop (i + 1) = [] := List.drop_eq_nil_of_le (by omega)
    rw [this]
    exact ⟨fun _ => rfl, fun ad _ j u hu => by simp [flatG] at hu⟩
   ·exact src_drop (OwnG.src TF (h.keep u).now) (i + 1) (by omega)
  have HK : Hid (∀ X, Upd [] w X → X.cell? ⟨rp, 1, none⟩ = some (.slice (some ⟨g, 0, none⟩) n nc) ∧ X.frozen? ⟨rp, 1, none⟩ = false) := Lib.hid fun X u => ⟨held1 u c1, frozen_blk (h.keep u).box 1⟩
  have hl1 : (now.take i).length = i := by rw [List.length_take]; omega
  have hl2 : (now.drop (i + 1)).length = n - (i + 1) := by rw [List.length_drop]; omega
  have HLL := Lib.hid (And.intro hl1 hl2)
  have hnci : (i : Int) ≤ (nc : Int) := by omega
  have hi1 : (i : Int) + 1 ≤ (n : Int) := by omega
  have hi10 : (0 : Int) ≤ (i : Int) + 1 := by omega
  clear h hn hi e1 e2 e3 hil hl1 hl2
  go_enter Tryz.func80, Tryz.ntmps80
  go_wp2_with fail
  refine HF.out.mono ?_
  rintro r w1 ⟨rfl, rfl⟩
  have k0 : w.drew.cell? ⟨rp, 1, none⟩ = some (.slice (some ⟨g, 0, none⟩) n nc) := c1
  go_wp2_with fail
  have hw1 : IntKind.i64.wrap ((i : Int) + 1) = (i : Int) + 1 := by rw [IntKind.wrap_i64]; omega
  have hw2 : ((i : Int) + 1).toNat = i + 1 := by omega
  go_region_law (first
   | (refine step_append_G TF (by rfl) _ _ (by rfl) (base := w.heap.size) (l := []) (r := now.take i) (by rfl) (OwnG.empty TF (heap_top _ _) (Nat.le_refl _)) (by rw [HLL.out.1]; rfl) (HS1.out _ (((Upd.refl [] w).drew).alloc _)) (oneF _) ?_ ?_ ?_ ?_; (rw [HLL.out.1]; simp; omega); (rw [HLL.out.1]; simp; omega); (simp); intro v6 w6 ho6 hg6 _; obtain ⟨a6, c6, m6, hm6, rfl⟩ := ho6.sliceM; have hu6 : Upd [] w w6 := (((Upd.refl [] w).drew).alloc _).grown hg6 (fun g hg => by cases hg; exact Nat.le_refl _); obtain ⟨k6, f6⟩ := HK.out _ hu6; clear hm6)
   | (refine step_append_G TF (by rfl) _ _ (by rfl) (base := w.heap.size) (l := now.take i) (r := now.drop (i + 1)) (by rfl) ho6 (by rw [HLL.out.2]; rfl) (HS2.out _ hu6) (oneF _) ?_ ?_ ?_ ?_; (rw [HLL.out.1, HLL.out.2]; omega); (rw [HLL.out.1, HLL.out.2]; omega); (exact hu6.size); intro v7 w7 ho7 hg7 _; obtain ⟨a7, c7, m7, hm7, rfl⟩ := ho7.sliceM; have hu7 : Upd [] w w7 := hu6.grown hg7 (fun g hg => (ho6.block g hg).1); obtain ⟨k7, f7⟩ := HK.out _ hu7; clear hm7)
   | fail)
  all_goals
   have HRN : Hid (RNext w base rp room (.slice (some ⟨g, 0, none⟩) now.length nc) lv (now.take i ++ now.drop (i + 1)) lst (w7.setCell ⟨rp, 1, none⟩ (.slice a7 m7 c7))) := Lib.hid (H.out.putNow (hu7.mono (by simp)) (ho7.base hb) (.inr fun g hg => (ho7.block g hg).1))
   clear hw1 hw2 hu7 ho7 k7 f7 hu6 ho6 k6 f6
   generalize w7.setCell ⟨rp, 1, none⟩ (.slice a7 m7 c7) = w9 at *
   go_wp2_with fail
   go_ret
   exact ⟨rfl, HRN.out⟩
def codeNR (now : List RF) (a b : Bs) : Nat := match idxR now a with | none => 80 | some _ => if 1 ≤ b.length ∧ b.length ≤ 40 then 0 else 82
def renR (now : List RF) (a b : Bs) : List RF := if codeNR now a b ≠ 0 ∨ a = b then now else match idxR (rmvR now b) a with | none => rmvR now b | some i => (rmvR now b).set i ⟨b, ((rmvR now b).getD i RF.nil).data, ((rmvR now b).getD i RF.nil).old⟩
set_option maxRecDepth 100000 in
set_option maxHeartbeats 4000000 in
theorem rrename_ok (h : RAt w base rp room nv lv now lst) (hb : base ≤ w.heap.size) (a b : ByteArray) (hs : b.size ≤ maxLen) (hl : now.length ≤ 100) (hnd : a.data.toList ≠ b.data.toList → (idxR now a.data.toList).isSome → (idxR (rmvR now b.data.toList) a.data.toList).isSome) :
  Calls Tryz.prog 79 #[.pointer (some ⟨rp, 0, none⟩), .string a, .string b] w fun r w' => r = .returned (.int .i64 (codeNR now a.data.toList b.data.toList)) ∧ RNext w base rp room nv lv (renR now a.data.toList b.data.toList) lst w' := by
 have HF := Lib.hid (rfind_ok h a)
 have HNm := Lib.hid (rnamed_ok w b hs)
 have HR := Lib.hid (rremove_ok h hb b hl)
 have HF2 := Lib.hid fun (X : World) (nv' lv' : Value) (now' : List RF) (h : RAt X base rp room nv' lv' now' lst) => rfind_ok h a
 have hbe := strOf_beq a.data.toList b.data.toList
 rw [← strOf_eq rfl, ← strOf_eq rfl] at hbe
 have hbs : b = strOf b.data.toList := strOf_eq rfl
 have HBS := Lib.hid hbs
 clear hbs
 generalize hA : a.data.toList = A at *
 generalize hB : b.data.toList = B at *
 clear hA hB
 have H := Lib.hid h
 cases hi : idxR now A with
 | none =>
  have e1 : findR now A = -1 := by simp [findR, hi]
  have e2 : codeNR now A B = 80 := by simp [codeNR, hi]
  have e3 : renR now A B = now := by simp [renR, e2]
  rw [e1] at HF
  rw [e2, e3]
  clear h hi e1 e2 e3 hnd hbe
  go_enter Tryz.func79, Tryz.ntmps79
  go_wp2_with fail
  refine HF.out.mono ?_
  rintro r w1 ⟨rfl, rfl⟩
  go_wp2_with fail
  refine HNm.out.mono ?_
  rintro r w1 ⟨rfl, rfl⟩
  go_wp2_with fail
  go_ret
  exact ⟨rfl, RNext.refl H.out (Upd.refl [] _)⟩
 | some i =>
  have e1 : findR now A = (i : Int) := by simp [findR, hi]
  have hi0 : (0 : Int) ≤ (i : Int) := by omega
  rw [e1] at HF
  by_cases h1 : 1 ≤ B.length ∧ B.length ≤ 40
  ·rw [decide_eq_true h1] at HNm
   have e2 : codeNR now A B = 0 := by simp [codeNR, hi, h1]
   by_cases hab : A = B
   ·have e3 : renR now A B = now := by simp [renR, hab]
    rw [e2, e3]
    rw [decide_eq_true hab] at hbe
    clear h hi e1 e2 e3 hnd hab h1
    go_enter Tryz.func79, Tryz.ntmps79
    go_wp2_with fail
    refine HF.out.mono ?_
    rintro r w1 ⟨rfl, rfl⟩
    go_wp2_with fail
    refine HNm.out.mono ?_
    rintro r w1 ⟨rfl, rfl⟩
    go_wp2_with fail
    go_ret
    exact ⟨rfl, RNext.refl H.out (Upd.refl [] _)⟩
   ·rw [decide_eq_false hab] at hbe
    obtain ⟨j, hj⟩ := Option.isSome_iff_exists.1 (hnd hab (by rw [hi]; rfl))
    have e3 : renR now A B = (rmvR now B).set j ⟨B, ((rmvR now B).getD j RF.nil).data, ((rmvR now B).getD j RF.nil).old⟩ := by simp only [renR, e2, hab, hj]; rfl
    have e4 : findR (rmvR now B) A = (j : Int) := by simp [findR, hj]
    have hjl := (idxR_lt hj).1
    rw [e2, e3]
    have hj0 : (0 : Int) ≤ (j : Int) := by omega
    generalize rmvR now B = now2 at *
    have hgd : now2.getD j RF.nil = now2[j] := by rw [List.getD_eq_getElem?_getD, List.getElem?_eq_getElem hjl]; rfl
    rw [hgd]
    have HE := Lib.hid (And.intro e4 hjl)
    have HX := Lib.hid fun (X : World) (g n c : Nat) (lv' : Value) (h : RAt X base rp room (.slice (some ⟨g, 0, none⟩) n c) lv' now2 lst) => h.putOld hjl (j := 0) (by omega) (x' := ⟨B, now2[j].data, now2[j].old⟩) (v := .string (strOf B)) rfl
    clear h hi e1 e2 e3 hnd hab h1 e4 hgd
    go_enter Tryz.func79, Tryz.ntmps79
    go_wp2_with fail
    refine HF.out.mono ?_
    rintro r w1 ⟨rfl, rfl⟩
    go_wp2_with fail
    refine HNm.out.mono ?_
    rintro r w1 ⟨rfl, rfl⟩
    go_wp2_with fail
    refine HR.out.mono ?_
    rintro r W ⟨rfl, nv2, lv2, h2, hu2, hf2⟩
    obtain ⟨na, nc, rfl⟩ := h2.now.slice
    obtain ⟨n, hn⟩ : ∃ n, n = now2.length := ⟨_, rfl⟩
    obtain ⟨-, hnc, hncm⟩ := owF_len h2.now
    rw [← hn] at hnc h2 hf2
    obtain ⟨g, rfl, -, hfz, d0, -, -⟩ := owF_at h2.now hjl
    have c1 := cell_blk h2.box 1
    simp only [List.getElem?_toArray, List.getElem?_cons_zero, List.getElem?_cons_succ] at c1
    have hjn : (j : Int) < (n : Int) := by omega
    have HFn := HF2.out W.drew _ _ _ (h2.keep (Upd.refl [] W).drew)
    rw [HE.out.1] at HFn
    have HFN := Lib.hid HFn
    obtain ⟨q1, q2⟩ := HX.out W g n nc lv2 h2
    rw [← HBS.out] at q1 q2
    have HQ : Hid (RNext w base rp room nv lv (now2.set j ⟨B, now2[j].data, now2[j].old⟩) lst ((W.setCell ⟨g, j * 3, none⟩ (.string b)).drew)) := Lib.hid ⟨_, _, q1.keep ((Upd.refl [] _).drew), (hu2.next q2 fun k hk hlt => (hf2 k (mem_rfoot.2 (.inr (.inl (by rw [List.mem_singleton.1 hk]; rfl))))).elim id fun h => by omega).drew, hf2⟩
    have f0 := hfz (j * 3)
    have e0 : W.drew.cell? ⟨g, j * 3, none⟩ = some (.string (strOf (now2.getD j RF.nil).nm)) := d0
    have hgrp : g ≠ rp := fun e => h2.n1 (by rw [e]; rfl)
    have hS0 : W.drew.cell? ⟨rp, 1, none⟩ = some (.slice (some ⟨g, 0, none⟩) n nc) ∧ W.drew.frozen? ⟨g, j * 3, none⟩ = false := ⟨c1, f0⟩
    have hSt : ∀ v, (W.drew.setCell ⟨g, j * 3, none⟩ v).cell? ⟨rp, 1, none⟩ = some (.slice (some ⟨g, 0, none⟩) n nc) ∧ (W.drew.setCell ⟨g, j * 3, none⟩ v).frozen? ⟨g, j * 3, none⟩ = false := fun v =>
     ⟨(World.cell?_setCell_other _ _ _ _ (fun e => hgrp (congrArg Addr.block e))).trans c1, (World.frozen?_setCell _ _ _ _).trans f0⟩
    clear q1 q2 hfz d0 h2 hu2 hf2 hn HFn HX
    generalize strOf (now2.getD j RF.nil).nm = s0 at *
    go_wp2_with fail
    go_region_held3 (fun X => X.cell? ⟨rp, 1, none⟩ = some (.slice (some ⟨g, 0, none⟩) n nc) ∧ X.frozen? ⟨g, j * 3, none⟩ = false)
     (first
      | (with_reducible exact hS0)
      | (exact hSt _))
     (first
      | (go_at_call 122; (with_reducible refine HFN.out.mono ?_); rintro e w6 ⟨rfl, rfl⟩))
    clear hS0 hSt e0 f0 c1
    generalize (W.setCell ⟨g, j * 3, none⟩ (.string b)).drew = w9 at *
    go_wp2_with fail
    go_ret
    exact ⟨rfl, HQ.out⟩
  ·rw [decide_eq_false h1] at HNm
   have e2 : codeNR now A B = 82 := by simp [codeNR, hi, h1]
   have e3 : renR now A B = now := by simp [renR, e2]
   rw [e2, e3]
   clear h hi e1 e2 e3 hnd hbe h1
   go_enter Tryz.func79, Tryz.ntmps79
   go_wp2_with fail
   refine HF.out.mono ?_
   rintro r w1 ⟨rfl, rfl⟩
   go_wp2_with fail
   refine HNm.out.mono ?_
   rintro r w1 ⟨rfl, rfl⟩
   go_wp2_with fail
   go_ret
   exact ⟨rfl, RNext.refl H.out (Upd.refl [] _)⟩
end
end Go.Proofs.YteepgehjkcahiaaGreat

namespace Go.Proofs.YteepgehjkcahiaaGreat
open Go.RowKit Go.Maps
theorem ht1 {w : World} {o : Obj} {k : Nat} (h : k = w.heap.size) : (w.alloc o).heap[k]? = some o := by subst h; exact heap_top _ _
theorem rows_apart {w7 X w6 : World} {base B1 : Nat} {v7 v6 : Value} {l7 : List RF} (ho7 : OwF w7 base v7 l7) (hX : Upd [] w7 X) (hg6 : X.grownBy w6 (some B1)) (hn6 : v6.ownBlock = some B1 ∨ ∀ g, v6.ownBlock = some g → X.heap.size ≤ g) (hB : v7.ownBlock ≠ some B1) : OwF w6 base v7 l7 ∧ (∀ g, v6.ownBlock = some g → v7.ownBlock ≠ some g) := by
 have hF : ∀ j ∈ (some B1).toList, v7.ownBlock ≠ some j := fun j hj e => by
  have q : j = B1 := by simpa using hj
  rw [q] at e
  exact hB e
 refine ⟨(ho7.upd hX (by simp)).upd (Upd.of_grown hg6) hF, fun g hg e => ?_⟩
 rcases hn6 with q | q
 ·rw [q] at hg; cases hg; exact hB e
 ·have := q g hg; have := (ho7.block g e).2; have := hX.size; omega
section
variable {w w' : World} {base rp room : Nat} {nv lv : Value} {now lst : List RF}
set_option maxRecDepth 100000 in
set_option maxHeartbeats 8000000 in
theorem rcopy_ok (h : RAt w base rp room nv lv now lst) (hb : base ≤ w.heap.size) (hl : now.length ≤ 100) (hll : lst.length ≤ 100) :
  Calls Tryz.prog 35 #[.pointer (some ⟨rp, 0, none⟩)] w fun r w' => ∃ rp' : Nat, r = .returned (.pointer (some ⟨rp', 0, none⟩)) ∧ ∃ nv' lv', RAt w' base rp' room nv' lv' now lst ∧ Upd [] w w' ∧ ∀ i ∈ rfoot rp' nv' lv', w.heap.size ≤ i := by
 obtain ⟨na, nc, rfl⟩ := h.now.slice
 obtain ⟨la, lc, rfl⟩ := h.lst.slice
 obtain ⟨n, hn⟩ : ∃ n, n = now.length := ⟨_, rfl⟩
 obtain ⟨m, hm⟩ : ∃ m, m = lst.length := ⟨_, rfl⟩
 obtain ⟨-, hnc, hncm⟩ := owF_len h.now
 obtain ⟨-, hlc, hlcm⟩ := owF_len h.lst
 rw [← hn] at hnc h hl
 rw [← hm] at hlc h hll
 have c0 : w.drew.cell? ⟨rp, 0, none⟩ = some (.int .i64 room) := cell_blk h.box 0
 have c1 : w.drew.cell? ⟨rp, 1, none⟩ = some (.slice na n nc) := cell_blk h.box 1
 have c2 : w.drew.cell? ⟨rp, 2, none⟩ = some (.slice la m lc) := cell_blk h.box 2
 have HK : Hid (∀ X, Upd [] w X → X.cell? ⟨rp, 0, none⟩ = some (.int .i64 room) ∧ X.cell? ⟨rp, 1, none⟩ = some (.slice na n nc) ∧ X.cell? ⟨rp, 2, none⟩ = some (.slice la m lc)) := Lib.hid fun X u => ⟨held1 u c0, held1 u c1, held1 u c2⟩
 have HS1 : Hid (∀ X, Upd [] w X → SrcG cF X na now) := Lib.hid fun X u => OwnG.src TF (h.keep u).now
 have HS2 : Hid (∀ X, Upd [] w X → SrcG cF X la lst) := Lib.hid fun X u => OwnG.src TF (h.keep u).lst
 have HN := Lib.hid (And.intro hn hm)
 have hS0 := HK.out _ (Upd.refl [] w).drew
 clear h hn hm
 go_enter Tryz.func35, Tryz.ntmps35
 go_wp2_with fail
 go_region_held3 (fun X => X.cell? ⟨rp, 0, none⟩ = some (.int .i64 room) ∧ X.cell? ⟨rp, 1, none⟩ = some (.slice na n nc) ∧ X.cell? ⟨rp, 2, none⟩ = some (.slice la m lc))
  (first
   | (with_reducible exact hS0)
   | (exact HK.out _ (by first | exact (Upd.refl [] w).drew | exact ((Upd.refl [] w).alloc _).drew | exact (((Upd.refl [] w).alloc _).alloc _).drew | exact ((Upd.refl [] w).drew).alloc _ | exact (((Upd.refl [] w).drew).alloc _).alloc _ | exact hu6 | exact hu7 | exact hu6.alloc _ | exact hu7.alloc _ | exact (hu6.alloc _).alloc _ | exact (hu7.alloc _).alloc _)))
  (first
  | (refine step_append_G TF (by rfl) _ _ (by rfl) (base := w.heap.size) (l := []) (r := now) (by rfl) (OwnG.empty TF ?_ ?_) (by rw [← HN.out.1]; rfl) (HS1.out _ ?_) (oneF _) ?_ ?_ ?_ ?_
     ; (try simp only [heap_drew])
     ; (first
      | (refine ht1 ?_; (first | rfl | (focus (simp; done))))
      | (refine (Upd.block (Upd.alloc (Upd.refl [] _) _) _ ?_ ?_).trans (ht1 ?_); (first | omega | (focus (simp; done)) | (focus (simp; omega))); (first | (focus (simp; done)) | (focus (simp [Value.ownBlock]; done)) | (focus (simp [Value.ownBlock]; omega))); (first | rfl | (focus (simp; done))))
      | (refine (Upd.block (Upd.of_grown hg7) _ ?_ ?_).trans (ht1 ?_); (first | omega | (focus (simp; done)) | (focus (simp; omega))); (first | (focus (simp; done)) | (focus (simp [Value.ownBlock]; done)) | (focus (simp [Value.ownBlock]; omega))); (first | rfl | (focus (simp; done))))
      | (refine (Upd.block (Upd.of_grown hg7) _ ?_ ?_).trans ((Upd.block (Upd.alloc (Upd.refl [] _) _) _ ?_ ?_).trans (ht1 ?_)); (first | omega | (focus (simp; done)) | (focus (simp; omega))); (first | (focus (simp; done)) | (focus (simp [Value.ownBlock]; done)) | (focus (simp [Value.ownBlock]; omega))); (first | omega | (focus (simp; done)) | (focus (simp; omega))); (first | (focus (simp; done)) | (focus (simp [Value.ownBlock]; done)) | (focus (simp [Value.ownBlock]; omega))); (first | rfl | (focus (simp; done)))))
     ; (first | exact Nat.le_refl _ | exact Nat.le_succ _ | exact (((Upd.refl [] w).drew).alloc _).size | exact hu7.size)
     ; (first | exact ((Upd.refl [] w).alloc _).drew | exact (((Upd.refl [] w).alloc _).alloc _).drew | exact ((Upd.refl [] w).drew).alloc _ | exact (((Upd.refl [] w).drew).alloc _).alloc _ | exact hu7 | exact hu7.alloc _)
     ; (rw [← HN.out.1, List.length_nil]; omega)
     ; (rw [← HN.out.1, List.length_nil]; omega)
     ; (first | exact (((Upd.refl [] w).drew).alloc _).size | exact ((((Upd.refl [] w).drew).alloc _).alloc _).size | exact hu7.size | exact (hu7.alloc _).size)
     ; intro v6 w6 ho6 hg6 hn6
     ; have hu6 : Upd [] w w6 := Upd.grown (by first | exact ((Upd.refl [] w).alloc _).drew | exact (((Upd.refl [] w).alloc _).alloc _).drew | exact ((Upd.refl [] w).drew).alloc _ | exact (((Upd.refl [] w).drew).alloc _).alloc _ | exact hu7 | exact hu7.alloc _) hg6 (fun g hg => by cases hg; first | exact Nat.le_refl _ | exact Nat.le_succ _ | exact (((Upd.refl [] w).drew).alloc _).size | exact hu7.size)
     ; obtain ⟨a6, c6, m6, hm6, rfl⟩ := ho6.sliceM
     ; clear hm6)
  | (refine step_append_G TF (by rfl) _ _ (by rfl) (base := w.heap.size) (l := []) (r := lst) (by rfl) (OwnG.empty TF ?_ ?_) (by rw [← HN.out.2]; rfl) (HS2.out _ ?_) (oneF _) ?_ ?_ ?_ ?_
     ; (try simp only [heap_drew])
     ; (first
      | (refine ht1 ?_; (first | rfl | (focus (simp; done))))
      | (refine (Upd.block (Upd.alloc (Upd.refl [] _) _) _ ?_ ?_).trans (ht1 ?_); (first | omega | (focus (simp; done)) | (focus (simp; omega))); (first | (focus (simp; done)) | (focus (simp [Value.ownBlock]; done)) | (focus (simp [Value.ownBlock]; omega))); (first | rfl | (focus (simp; done))))
      | (refine (Upd.block (Upd.of_grown hg6) _ ?_ ?_).trans (ht1 ?_); (first | omega | (focus (simp; done)) | (focus (simp; omega))); (first | (focus (simp; done)) | (focus (simp [Value.ownBlock]; done)) | (focus (simp [Value.ownBlock]; omega))); (first | rfl | (focus (simp; done))))
      | (refine (Upd.block (Upd.of_grown hg6) _ ?_ ?_).trans ((Upd.block (Upd.alloc (Upd.refl [] _) _) _ ?_ ?_).trans (ht1 ?_)); (first | omega | (focus (simp; done)) | (focus (simp; omega))); (first | (focus (simp; done)) | (focus (simp [Value.ownBlock]; done)) | (focus (simp [Value.ownBlock]; omega))); (first | omega | (focus (simp; done)) | (focus (simp; omega))); (first | (focus (simp; done)) | (focus (simp [Value.ownBlock]; done)) | (focus (simp [Value.ownBlock]; omega))); (first | rfl | (focus (simp; done)))))
     ; (first | exact Nat.le_refl _ | exact Nat.le_succ _ | exact (((Upd.refl [] w).drew).alloc _).size | exact hu6.size)
     ; (first | exact ((Upd.refl [] w).alloc _).drew | exact (((Upd.refl [] w).alloc _).alloc _).drew | exact ((Upd.refl [] w).drew).alloc _ | exact (((Upd.refl [] w).drew).alloc _).alloc _ | exact hu6 | exact hu6.alloc _)
     ; (rw [← HN.out.2, List.length_nil]; omega)
     ; (rw [← HN.out.2, List.length_nil]; omega)
     ; (first | exact (((Upd.refl [] w).drew).alloc _).size | exact ((((Upd.refl [] w).drew).alloc _).alloc _).size | exact hu6.size | exact (hu6.alloc _).size)
     ; intro v7 w7 ho7 hg7 hn7
     ; have hu7 : Upd [] w w7 := Upd.grown (by first | exact ((Upd.refl [] w).alloc _).drew | exact (((Upd.refl [] w).alloc _).alloc _).drew | exact ((Upd.refl [] w).drew).alloc _ | exact (((Upd.refl [] w).drew).alloc _).alloc _ | exact hu6 | exact hu6.alloc _) hg7 (fun g hg => by cases hg; first | exact Nat.le_refl _ | exact Nat.le_succ _ | exact (((Upd.refl [] w).drew).alloc _).size | exact hu6.size)
     ; obtain ⟨a7, c7, m7, hm7, rfl⟩ := ho7.sliceM
     ; clear hm7))
 all_goals
  have hap : OwF w7 w.heap.size (.slice a6 m6 c6) now ∧ (∀ g, (Value.slice a7 m7 c7).ownBlock = some g → (Value.slice a6 m6 c6).ownBlock ≠ some g) := by
   first
    | (exact rows_apart (B1 := w6.heap.size) (X := w6.alloc (.cells #[] 120)) ho6 ((Upd.refl [] w6).alloc (.cells #[] 120)) hg7 hn7 (fun e => Nat.lt_irrefl _ (ho6.block w6.heap.size e).2))
    | (refine rows_apart ho6 (Upd.refl [] w6) hg7 hn7 (fun e => ?_); rcases hn6 with q | q; (have q2 := q.symm.trans e; simp [Value.ownBlock] at q2); (have := q _ e; simp only [heap_drew, World.size_alloc] at this; omega))
  have hua : Upd [] w7 (w7.alloc (boxR room (.slice a6 m6 c6) (.slice a7 m7 c7))) := (Upd.refl [] w7).alloc _
  have hlt6 := fun g hg => hap.1.block g hg
  have hlt7 := fun g hg => ho7.block g hg
  have HR : Hid (RAt (w7.alloc (boxR room (.slice a6 m6 c6) (.slice a7 m7 c7))) base w7.heap.size room (.slice a6 m6 c6) (.slice a7 m7 c7) now lst ∧ Upd [] w (w7.alloc (boxR room (.slice a6 m6 c6) (.slice a7 m7 c7))) ∧ ∀ i ∈ rfoot w7.heap.size (.slice a6 m6 c6) (.slice a7 m7 c7), w.heap.size ≤ i) := by
   refine Lib.hid ⟨⟨heap_top _ _, (hap.1.base hb).upd hua (by simp), (ho7.base hb).upd hua (by simp), Nat.le_trans hb hu7.size, fun e => ?_, fun e => ?_, fun g hg e => hap.2 g e hg⟩, hu7.alloc _, fun i hi => ?_⟩
   ·have := (hlt6 _ e).2; omega
   ·have := (hlt7 _ e).2; omega
   ·rcases mem_rfoot.1 hi with e | e | e
    ·rw [e]; exact hu7.size
    ·exact (hlt6 _ e).1
    ·exact (hlt7 _ e).1
  clear hap hua hlt6 hlt7 hu7 ho7 hg7 hn7 hu6 ho6 hg6 hn6
  go_wp2_with fail
  go_ret
  exact ⟨_, rfl, _, _, HR.out⟩
end
end Go.Proofs.YteepgehjkcahiaaGreat

namespace Go.Proofs.YteepgehjkcahiaaGreat
open Go.RowKit Go.Maps
structure R2 (w0 w : World) (nv : Value) (N : List Bs) (wv : Value) (xs : List Bs) (G : List Nat) : Prop where
 nms : OwT w w0.heap.size nv N
 nG : ∀ g, nv.ownBlock = some g → g ∈ G
 was : OwT w w0.heap.size wv xs
 wG : ∀ g, wv.ownBlock = some g → g ∈ G
 nw : ∀ g, wv.ownBlock = some g → nv.ownBlock ≠ some g
theorem owT_at {w : World} {base : Nat} {v : Value} {l : List Bs} (h : OwT w base v l) {i : Nat} (hi : i < l.length) : ∃ g cap, v = .slice (some ⟨g, 0, none⟩) l.length cap ∧ l.length ≤ cap ∧ cap ≤ 9223372036854775807 ∧ w.cell? ⟨g, i, none⟩ = some (.string (strOf (l.getD i []))) := by
 obtain ⟨a, c, rfl⟩ := h.slice
 obtain ⟨-, h1, h2, h3⟩ := OwnG.at TT h
 obtain ⟨g, rfl, -, -, h4⟩ := h3 i hi
 refine ⟨g, c, rfl, h1, by unfold maxLen at h2; omega, ?_⟩
 have := h4 0 _ rfl
 rw [Nat.mul_one, Nat.add_zero] at this
 rw [List.getD_eq_getElem?_getD, List.getElem?_eq_getElem hi]
 exact this
theorem owT_cap {w : World} {base : Nat} {a : Option Addr} {n c : Nat} {l : List Bs} (h : OwT w base (.slice a n c) l) : n = l.length ∧ n ≤ c ∧ c ≤ 9223372036854775807 := by
 obtain ⟨h0, h1, h2, -⟩ := OwnG.at TT h
 exact ⟨h0, h1, by unfold maxLen at h2; omega⟩
section
variable {w0 w w' : World} {nv wv : Value} {N xs : List Bs} {G : List Nat}
end
def namesF (fs : Files) : List Bs := fs.map (·.1)
def datasF (fs : Files) : List Bs := fs.map (·.2.data)
theorem file_at {room : Nat} {fs : Files} (h : FilesOk room fs) {i : Nat} (hi : i < fs.length) : ∃ f, getA fs ((namesF fs).getD i []) = some f ∧ f.data = (datasF fs).getD i [] ∧ ((namesF fs).getD i []).length ≤ 40 := by
 have hm := List.getElem_mem hi
 have hg := getA_of_mem ordN h.srt hm
 have e1 : (namesF fs).getD i [] = fs[i].1 := by rw [namesF, List.getD_eq_getElem?_getD, List.getElem?_map, List.getElem?_eq_getElem hi]; rfl
 have e2 : (datasF fs).getD i [] = fs[i].2.data := by rw [datasF, List.getD_eq_getElem?_getD, List.getElem?_map, List.getElem?_eq_getElem hi]; rfl
 exact ⟨_, by rw [e1]; exact hg, e2.symm, by rw [e1]; exact (h.name _ hm).2⟩
end Go.Proofs.YteepgehjkcahiaaGreat
