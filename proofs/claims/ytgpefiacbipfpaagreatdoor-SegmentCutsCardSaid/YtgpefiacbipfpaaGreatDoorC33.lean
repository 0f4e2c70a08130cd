/- Segment: a torn segment is made whole (cut). Segment: a log in memory; both its rows grow. Segment: a log is opened (Open). Segment: what an Append lays ahead of its calls: its frames, and their bytes. -/
import Derived.Deep.DeepCutAuto
import Derived.Test.YtgpefiacbipfpaaGreatDoorC32
namespace Go.Proofs.YtgpefiacbipfpaaGreatDoor
open Go.RowKit Go.Maps
structure SegU (w0 w : World) (v p room : Nat) (m : Nat → Option Bs) (U c : Nat) (G : List Nat) : Prop where
 ex : ∃ fs last, Lv w0 w v p room fs last c G ∧ SegM fs m ∧ (allBlks last).length ≤ U ∧ 1 ≤ room
theorem nodup_len {α : Type} [DecidableEq α] : ∀ (l k : List α), l.Nodup → (∀ x ∈ l, x ∈ k) → l.length ≤ k.length := by
 intro l
 induction l with
 | nil => intro k _ _; simp
 | cons x l ih =>
  intro k hn hs
  rw [List.nodup_cons] at hn
  have hx := hs x (by simp)
  have := ih (k.erase x) hn.2 fun y hy => by
   have h1 := hs y (List.mem_cons_of_mem _ hy)
   exact (List.mem_erase_of_ne (fun e => hn.1 (by rw [← e]; exact hy))).2 h1
  rw [List.length_erase_of_mem hx] at this
  have := List.length_pos_of_mem hx
  simp
  omega
theorem blksM {room : Nat} {fs : Files} {m : Nat → Option Bs} (hok : FilesOk room fs) (h : SegM fs m) {k n : Nat} (hm : ∀ j y, j < 100 → m j = some y → j < n ∧ y.length ≤ 512 * k) : (allBlks fs).length ≤ k * n := by
 have hlen := h.len hok.srt n fun j hj hj2 => by
  cases hmj : m j with
  | none => rfl
  | some y => have := (hm j y hj2 hmj).1; omega
 have hk : ∀ q ∈ fs, q.2.data.length ≤ 512 * k := fun q hq => by
  have hgq := getA_of_mem ordN hok.srt hq
  obtain ⟨j, hj, e⟩ := h.only q.1 (by rw [hgq]; simp)
  have := h.at_ j hj
  rw [← e, hgq] at this
  exact (hm j _ hj this.symm).2
 have := blks_le hok hk
 exact Nat.le_trans this (Nat.mul_le_mul_left _ hlen)
section
variable {w0 w w' : World} {v p room c U : Nat} {m ml : Nat → Option Bs} {G : List Nat}
theorem SegV.u (h : SegV w0 w v p room m ml c G) (h1 : 1 ≤ room) {k n : Nat} (hm : ∀ j y, j < 100 → m j = some y → j < n ∧ y.length ≤ 512 * k) : SegU w0 w v p room m (k * n) c G := by
 obtain ⟨fs, last, h2, h3, h4, h5⟩ := h.ex
 obtain ⟨l, kk, s, hi⟩ := h2.inv
 exact ⟨fs, last, h2, h3, Nat.le_trans (nodup_len _ _ hi.was.nodup h5) (blksM hi.now h3 hm), h1⟩
theorem SegU.keep (h : SegU w0 w v p room m U c G) (u : Upd [] w w') : SegU w0 w' v p room m U c G := by
 obtain ⟨fs, last, h1, h2⟩ := h.ex
 exact ⟨fs, last, h1.keep u, h2⟩
theorem SegU.ext {k : Nat → Option Bs} (h : SegU w0 w v p room m U c G) (e : ∀ i, i < 100 → m i = k i) : SegU w0 w v p room k U c G := by
 obtain ⟨fs, last, h1, h2, h3⟩ := h.ex
 exact ⟨fs, last, h1, h2.ext e, h3⟩
theorem SegU.remove (h : SegU w0 w v p room m U c G) {i : Nat} (hi : i < 100) :
  Calls Tryz.prog 116 #[.pointer (some ⟨v, 0, none⟩), .string (nmS i)] w fun r w' => r = .returned (.int .i64 (if (m i).isSome = true then 0 else 80 : Nat)) ∧ SegU w0 w' v p room (setM m i none) U c G ∧ Stay G w w' := by
 obtain ⟨fs, last, h1, h2, h3, h4⟩ := h.ex
 refine (h1.remove h4 (nmS i) (nmS_size i)).mono fun r w' ⟨e, hl, hst⟩ => ⟨?_, ⟨_, last, hl, h2.del hi, h3, h4⟩, hst⟩
 rw [e]
 unfold codeF
 rw [nmS_list, if_neg Bool.false_ne_true]
 have := h2.at_ i hi
 cases hg : getA fs (nameS i) with
 | none => rw [hg] at this; rw [← this]; rfl
 | some f => rw [hg] at this; rw [← this]; rfl
theorem SegU.create (h : SegU w0 w v p room m U c G) {i : Nat} (hm : ∀ j, i ≤ j → j < 100 → m j = none) (hi : i < 64) :
  Calls Tryz.prog 11 #[.pointer (some ⟨v, 0, none⟩), .string (nmS i)] w fun r w' => r = .returned (.int .i64 0) ∧ SegU w0 w' v p room (setM m i (some [])) U c G ∧ Stay G w w' := by
 obtain ⟨fs, last, h1, h2, h3, h4⟩ := h.ex
 obtain ⟨l, k, s, hi'⟩ := h1.inv
 have hg := h2.none (i := i) (by omega) (hm i (Nat.le_refl _) (by omega))
 have hl := h2.len hi'.now.srt i hm
 have hc : codeC false fs (nmS i).data.toList = 0 := by
  have := nameS_len i
  unfold codeC
  rw [nmS_list, if_neg Bool.false_ne_true, if_neg (by omega), if_neg (by rw [hg]; simp), if_neg (by omega)]
 refine (h1.create (nmS i) (nmS_size i)).mono fun r w' ⟨e, hl', hst⟩ => ⟨by rw [e, hc]; rfl, ⟨_, last, hl', ?_, h3, h4⟩, hst⟩
 unfold crtF
 rw [if_pos hc]
 exact h2.put hi'.now.srt (by omega) emptyF
theorem SegU.append (h : SegU w0 w v p room m U c G) (hc : c ≤ 1000000) {i n k : Nat} (hi : i < 100) {x : Bs} (hx : m i = some x) {dv : Value} {d : Bs} (hd : Rd w dv d) (hdo : d ≠ [] → ∀ g, dv.ownBlock = some g → g ∈ G ∨ g < w0.heap.size) (hm : ∀ j y, j < 100 → m j = some y → j < n ∧ y.length ≤ 512 * k) (hb : U + k * n + (d.length / 512 + 1) ≤ room) (hxd : x.length + d.length ≤ 32768) :
  Calls Tryz.prog 13 #[.pointer (some ⟨v, 0, none⟩), .string (nmS i), dv] w fun r w' => r = .returned (.int .i64 0) ∧ SegU w0 w' v p room (setM m i (some (x ++ d))) U (c + 1) G ∧ Stay G w w' := by
 obtain ⟨fs, last, h1, h2, h3, h4⟩ := h.ex
 obtain ⟨l, kk, s, hi'⟩ := h1.inv
 obtain ⟨f, hg, rfl⟩ := h2.get hi hx
 have hn := need_le f d.length
 have hfree := free_all hi'
 have hbl := blksM hi'.now h2 hm
 have hcode : codeP room fs last (nmS i).data.toList d.length = 0 := by
  unfold codeP
  rw [nmS_list, hg]
  dsimp only
  rw [if_neg (by omega), if_neg (by omega)]
 refine (h1.append hc (nmS i) (nmS_size i) hd hdo (by omega)).mono fun r w' ⟨e, hl', hst⟩ => ⟨by rw [e, hcode]; rfl, ⟨_, last, hl', ?_, h3, h4⟩, hst⟩
 unfold apdF
 rw [if_pos hcode]
 unfold appF
 rw [nmS_list, hg]
 exact h2.put hi'.now.srt hi (growF room fs last f d)
theorem SegU.sync (h : SegU w0 w v p room m U c G) (hc : c ≤ 1000000) :
  Calls Tryz.prog 14 #[.pointer (some ⟨v, 0, none⟩)] w fun r w' => r = .returned (.int .i64 0) ∧ SegV w0 w' v p room m m (c + 1) G ∧ Stay G w w' := by
 obtain ⟨fs, last, h1, h2, h3, h4⟩ := h.ex
 exact (h1.sync hc).mono fun r w' ⟨e, hl', hst⟩ => ⟨e, ⟨_, _, hl', h2, h2, fun b hb => hb⟩, hst⟩
end
theorem SegV.ext2 {w0 w : World} {v p room c : Nat} {G : List Nat} {m k : Nat → Option Bs} (h : SegV w0 w v p room m m c G) (hm : ∀ i, m i = k i) : SegV w0 w v p room k k c G := by
 obtain rfl : m = k := funext hm
 exact h
def cutM (ds : List Bs) (n k : Nat) : Nat → Option Bs := fun i => if n ≤ i ∧ i < k then none else ds[i]?
theorem cutM_at (ds : List Bs) {n k i : Nat} (h : ¬ (n ≤ i ∧ i < k)) : cutM ds n k i = ds[i]? := by unfold cutM; rw [if_neg h]
theorem cutM_step (ds : List Bs) (n k : Nat) (h : n ≤ k) : setM (cutM ds n k) k none = cutM ds n (k + 1) := by
 funext i
 unfold setM cutM
 by_cases e : i = k
 ·rw [if_pos e, if_pos (by omega)]
 ·rw [if_neg e]
  by_cases h1 : n ≤ i ∧ i < k
  ·rw [if_pos h1, if_pos (by omega)]
  ·rw [if_neg h1, if_neg (by omega)]
theorem cutM_end (ds : List Bs) (n k : Nat) (hk : ds.length ≤ k) (b : Bs) (hn : n ≤ ds.length) : ∀ i, setM (setM (setM (cutM ds (n + 1) k) n none) n (some [])) n (some ([] ++ b)) i = rowM (ds.take n ++ [b]) i := by
 intro i
 have hl : (ds.take n).length = n := by rw [List.length_take]; omega
 unfold setM cutM rowM
 by_cases e : i = n
 ·rw [if_pos e, e, List.getElem?_append_right (by omega), hl, Nat.sub_self]; rfl
 ·rw [if_neg e, if_neg e, if_neg e]
  by_cases h1 : n + 1 ≤ i ∧ i < k
  ·rw [if_pos h1, List.getElem?_eq_none (by rw [List.length_append, hl]; simp; omega)]
  ·rw [if_neg h1]
   by_cases h2 : i < n
   ·rw [List.getElem?_append_left (by omega), List.getElem?_take_of_lt h2]
   ·rw [List.getElem?_eq_none (by omega), List.getElem?_eq_none (by rw [List.length_append, hl]; simp; omega)]
set_option maxRecDepth 100000 in
set_option maxHeartbeats 4000000 in
theorem cut_ok {w0 w : World} {v p room c U : Nat} {G : List Nat} {ds : List Bs} (h : SegU w0 w v p room (rowM ds) U c G) (hc : c ≤ 900000) {l n : Nat} (hl : w.cell? ⟨l, 0, none⟩ = some (.pointer (some ⟨v, 0, none⟩))) (hG : l ∈ G) (hn : n < ds.length) (hds : ds.length ≤ 60) {ba : Option Addr} {bl bc : Nat} {b : Bs} (hb : Rd w (.slice ba bl bc) b) (hbo : b ≠ [] → ∀ g, (Value.slice ba bl bc).ownBlock = some g → g ∈ G) {k : Nat} (hk : ∀ d ∈ ds, d.length ≤ 512 * k) (hbk : b.length ≤ 32768) (hroom : U + k * ds.length + (b.length / 512 + 1) ≤ room) :
  Calls Tryz.prog 58 #[.pointer (some ⟨l, 0, none⟩), .int .i64 n, .slice ba bl bc] w fun e w' => e = .returned (.int .i64 0) ∧ SegV w0 w' v p room (rowM (ds.take n ++ [b])) (rowM (ds.take n ++ [b])) (c + 2) G ∧ Stay G w w' := by
 have HBX : Hid (∀ X, Stay G w X → X.cell? ⟨l, 0, none⟩ = some (.pointer (some ⟨v, 0, none⟩))) := Lib.hid fun X s => (World.cell?_of_block (s.block (World.block_lt_of_cell? _ _ hl) hG)).trans hl
 have HRB : Hid (∀ X, Stay G w X → Rd X (.slice ba bl bc) b) := Lib.hid fun X s => by
  obtain ⟨F, u, hF⟩ := s
  exact hb.upd1 u fun hd g hg => hF g (hbo hd g hg)
 have HDS := Lib.hid (And.intro hk (And.intro hbo hbk))
 have H0 := Lib.hid h
 clear h hb hbo hk hbk
 go_enter Tryz.func58, Tryz.ntmps58
 go_wp2_with fail
 go_loopg [7, 8] (61 - (n + 1)) (fun gh v7 v8 wr => ∃ kk : Nat, v7 = .int .i64 kk ∧ n + 1 ≤ kk ∧ kk ≤ ds.length ∧ gh = 61 - kk ∧ Hid (SegU w0 wr v p room (cutM ds (n + 1) kk) U c G ∧ Stay G w wr))
 case atStart =>
  refine ⟨n + 1, by go_num, Nat.le_refl _, by omega, by omega, Lib.hid ⟨H0.out.ext fun i _ => ?_, .of (Upd.refl [] w)⟩⟩
  unfold cutM rowM
  rw [if_neg (by omega)]
 case round =>
  obtain ⟨kk, rfl, hk1, hk2, rfl, HS⟩ := hrel
  have hcl := HBX.out _ HS.out.2
  have HN := Lib.hid fun X : World => sname_ok X kk (by omega)
  obtain ⟨E, hE⟩ : ∃ E : Nat, E = if ((cutM ds (n + 1) kk) kk).isSome = true then 0 else 80 := ⟨_, rfl⟩
  have HR := Lib.hid fun (X : World) (u : Upd [] wr X) => (HS.out.1.keep u).remove (i := kk) (by omega)
  rw [← hE] at HR
  have HE := Lib.hid hE
  clear hE
  have hT : Stay G wr wr.drew := .of (Upd.refl [] wr).drew
  go_upto_region 3 with (fail)
  go_region_held3 (fun X => X.cell? ⟨l, 0, none⟩ = some (.pointer (some ⟨v, 0, none⟩)))
   (first
    | (with_reducible exact held1 (Upd.refl [] wr).drew hcl)
    | (with_reducible exact hq7))
   (first
    | (go_at_call 55; (with_reducible refine (HN.out _).mono ?_); rintro e w6 ⟨rfl, rfl⟩)
    | (go_at_call 116; (with_reducible refine (HR.out _ ?_).mono ?_); (exact (Upd.refl [] wr).drew); rintro e w7 ⟨rfl, hs7, hst7⟩; have hq7 := HBX.out _ (HS.out.2.trans (hT.trans hst7))))
  by_cases hkl : kk < ds.length
  ·have hE0 : E = 0 := by
    rw [HE.out, cutM_at ds (by omega), List.getElem?_eq_getElem hkl]; rfl
   subst hE0
   rw [cutM_step _ _ _ hk1] at hs7
   have H7 := Lib.hid (And.intro hs7 (HS.out.2.trans (hT.trans hst7)))
   clear hs7 hst7 hq7 hcl
   go_wp2_with fail
   go_roundg (61 - (kk + 1))
   case measure => omega
   case rel => exact ⟨kk + 1, by go_num, by omega, by omega, rfl, H7⟩
  ·have hE0 : E = 80 := by
    rw [HE.out, cutM_at ds (by omega), List.getElem?_eq_none (by omega)]; rfl
   subst hE0
   rw [cutM_step _ _ _ hk1] at hs7
   have H7 := Lib.hid (And.intro hs7 (HS.out.2.trans (hT.trans hst7)))
   obtain rfl : kk = ds.length := by omega
   have hcl := hq7
   have HN := Lib.hid fun X : World => sname_ok X n (by omega)
   have HR := Lib.hid fun (X : World) (u : Upd [] w7 X) => (H7.out.1.keep u).remove (i := n) (by omega)
   have hE1 : ((cutM ds (n + 1) (ds.length + 1)) n).isSome = true := by
    unfold cutM
    rw [if_neg (by omega), List.getElem?_eq_getElem hn]; rfl
   rw [if_pos hE1] at HR
   have hT : Stay G w7 w7.drew := .of (Upd.refl [] w7).drew
   clear hs7 hst7 hq7 hE1
   go_upto_region 7 with (fail)
   go_region_held3 (fun X => X.cell? ⟨l, 0, none⟩ = some (.pointer (some ⟨v, 0, none⟩)))
    (first
     | (with_reducible exact held1 (Upd.refl [] w7).drew hcl)
     | (with_reducible exact hq7))
    (first
     | (go_at_call 55; (with_reducible refine (HN.out _).mono ?_); rintro e w6 ⟨rfl, rfl⟩)
     | (go_at_call 116; (with_reducible refine (HR.out _ ?_).mono ?_); (exact (Upd.refl [] w7).drew); rintro e w8 ⟨rfl, hs7, hst7⟩; have hq7 := HBX.out _ (H7.out.2.trans (hT.trans hst7))))
   have H8 := Lib.hid (And.intro hs7 (H7.out.2.trans (hT.trans hst7)))
   have hcl := hq7
   have HR := Lib.hid fun (X : World) (u : Upd [] w8 X) => (H8.out.1.keep u).create (i := n) (fun j hj hj2 => by
    unfold setM cutM
    by_cases e : j = n
    ·rw [if_pos e]
    ·rw [if_neg e]
     by_cases h1 : n + 1 ≤ j ∧ j < ds.length + 1
     ·rw [if_pos h1]
     ·rw [if_neg h1, List.getElem?_eq_none (by omega)]) (by omega)
   have hT : Stay G w8 w8.drew := .of (Upd.refl [] w8).drew
   clear hs7 hst7 hq7
   go_upto_region 10 with (fail)
   go_region_held3 (fun X => X.cell? ⟨l, 0, none⟩ = some (.pointer (some ⟨v, 0, none⟩)))
    (first
     | (with_reducible exact held1 (Upd.refl [] w8).drew hcl)
     | (with_reducible exact hq7))
    (first
     | (go_at_call 55; (with_reducible refine (HN.out _).mono ?_); rintro e w6 ⟨rfl, rfl⟩)
     | (go_at_call 11; (with_reducible refine (HR.out _ ?_).mono ?_); (exact (Upd.refl [] w8).drew); rintro e w9 ⟨rfl, hs7, hst7⟩; have hq7 := HBX.out _ (H8.out.2.trans (hT.trans hst7))))
   have H9 := Lib.hid (And.intro hs7 (H8.out.2.trans (hT.trans hst7)))
   have hcl := hq7
   have HR := Lib.hid fun (X : World) (u : Upd [] w9 X) => (H9.out.1.keep u).append (i := n) (n := n + 1) (k := k) (x := []) (by omega) (by omega) (by unfold setM; rw [if_pos rfl]) ((HRB.out _ H9.out.2).keep u) (fun hd g hg => .inl (HDS.out.2.1 hd g hg)) (fun j y hj hy => by
    unfold setM cutM at hy
    by_cases e : j = n
    ·rw [if_pos e] at hy
     cases hy
     exact ⟨by omega, by simp⟩
    ·rw [if_neg e, if_neg e] at hy
     by_cases h1 : n + 1 ≤ j ∧ j < ds.length + 1
     ·rw [if_pos h1] at hy; cases hy
     ·rw [if_neg h1] at hy
      obtain ⟨h2, h3⟩ := List.getElem?_eq_some_iff.1 hy
      exact ⟨by omega, HDS.out.1 y (by rw [← h3]; exact List.getElem_mem h2)⟩) (by have : k * (n + 1) ≤ k * ds.length := Nat.mul_le_mul_left _ hn; omega) (by have := HDS.out.2.2; simp; omega)
   have hT : Stay G w9 w9.drew := .of (Upd.refl [] w9).drew
   clear hs7 hst7 hq7
   go_upto_region 13 with (fail)
   go_region_held3 (fun X => X.cell? ⟨l, 0, none⟩ = some (.pointer (some ⟨v, 0, none⟩)))
    (first
     | (with_reducible exact held1 (Upd.refl [] w9).drew hcl)
     | (with_reducible exact hq7))
    (first
     | (go_at_call 55; (with_reducible refine (HN.out _).mono ?_); rintro e w6 ⟨rfl, rfl⟩)
     | (go_at_call 13; (with_reducible refine (HR.out _ ?_).mono ?_); (exact (Upd.refl [] w9).drew); rintro e w10 ⟨rfl, hs7, hst7⟩; have hq7 := HBX.out _ (H9.out.2.trans (hT.trans hst7))))
   have H10 := Lib.hid (And.intro hs7 (H9.out.2.trans (hT.trans hst7)))
   have hcl := hq7
   have HSy := Lib.hid (H10.out.1.sync (by omega))
   clear hs7 hst7 hq7
   go_wp2_with fail
   refine HSy.out.mono ?_
   rintro e w11 ⟨rfl, hs11, hst11⟩
   have hs12 := hs11.ext2 (cutM_end ds n (ds.length + 1) (by omega) b (by omega))
   have H11 := Lib.hid (And.intro hs12 (H10.out.2.trans hst11))
   clear hs11 hst11 hs12
   go_wp2_with fail
   go_ret
   exact ⟨rfl, H11.out⟩
end Go.Proofs.YtgpefiacbipfpaaGreatDoor

namespace Go.Proofs.YtgpefiacbipfpaaGreatDoor
open Go.RowKit Go.Maps
abbrev boxSg (v : Nat) (fv sv : Value) : Obj := .cells #[.pointer (some ⟨v, 0, none⟩), fv, sv] 104 (0, 0)
structure LogS (w : World) (base l v : Nat) (fv sv : Value) (L : List FrR) (sz : List Nat) : Prop where
 box : w.heap[l]? = some (boxSg v fv sv)
 fr : FrsS w base fv L
 sz : OwI w base sv sz
 low : base ≤ l
 s1 : l ∉ ffoot fv L
 s2 : sv.ownBlock ≠ some l
 s3 : ∀ g, sv.ownBlock = some g → g ∉ ffoot fv L
def lfoot (l : Nat) (fv sv : Value) (L : List FrR) : List Nat := l :: (sv.ownBlock.toList ++ ffoot fv L)
theorem mem_lfoot {l i : Nat} {fv sv : Value} {L : List FrR} : i ∈ lfoot l fv sv L ↔ i = l ∨ sv.ownBlock = some i ∨ i ∈ ffoot fv L := by simp [lfoot]
theorem Upd.grownIn {F : List Nat} {w a b : World} {row : Option Nat} (h : Upd F w a) (hg : a.grownBy b row) (hr : ∀ k, row = some k → k ∈ F ∨ w.heap.size ≤ k) : Upd F w b :=
 h.next (Upd.ofGrown hg) fun k hk hlt => by
  rcases hr k (by simpa using hk) with q | q
  ·exact q
  ·omega
section
variable {w w' : World} {base l v : Nat} {fv sv : Value} {L : List FrR} {sz : List Nat}
theorem LogS.upd (h : LogS w base l v fv sv L sz) {F : List Nat} (u : Upd F w w') (hF : ∀ i ∈ lfoot l fv sv L, i ∉ F) : LogS w' base l v fv sv L sz :=
 ⟨(u.block l (lt_of_blk h.box) (hF _ (mem_lfoot.2 (.inl rfl)))).trans h.box, h.fr.upd u fun i hi => hF i (mem_lfoot.2 (.inr (.inr hi))), h.sz.upd u fun j hj e => hF j (mem_lfoot.2 (.inr (.inl e))) hj, h.low, h.s1, h.s2, h.s3⟩
theorem LogS.keep (h : LogS w base l v fv sv L sz) (u : Upd [] w w') : LogS w' base l v fv sv L sz := h.upd u (by simp)
theorem LogS.lt (h : LogS w base l v fv sv L sz) : ∀ i ∈ lfoot l fv sv L, base ≤ i ∧ i < w.heap.size := fun i hi => by
 rcases mem_lfoot.1 hi with rfl | e | e
 ·exact ⟨h.low, lt_of_blk h.box⟩
 ·exact h.sz.block i e
 ·exact h.fr.lt i e
theorem LogS.stay (h : LogS w base l v fv sv L sz) {G : List Nat} (s : Stay G w w') (hG : ∀ i ∈ lfoot l fv sv L, i ∈ G) : LogS w' base l v fv sv L sz := by
 obtain ⟨F, u, hF⟩ := s
 exact h.upd u fun i hi => hF i (hG i hi)
end
structure MoreL (w : World) (base l : Nat) (fv sv : Value) (L1 : List FrR) : Prop where
 rd : ∀ x ∈ L1, Rd w x.dv x.d
 sep : ∀ x ∈ L1, x.d ≠ [] → ∀ g, x.dv.ownBlock = some g → base ≤ g ∧ fv.ownBlock ≠ some g ∧ sv.ownBlock ≠ some g ∧ g ≠ l
structure BothL (w W : World) (base l : Nat) (fv sv FV SV : Value) (L : List FrR) (sz : List Nat) : Prop where
 fr : FrsS W base FV L
 sz : OwI W base SV sz
 s1 : l ∉ ffoot FV L
 s2 : SV.ownBlock ≠ some l
 s3 : ∀ g, SV.ownBlock = some g → g ∉ ffoot FV L
 up : Upd (fv.ownBlock.toList ++ sv.ownBlock.toList) w W
 n6 : ∀ g, FV.ownBlock = some g → fv.ownBlock = some g ∨ w.heap.size ≤ g
 n7 : ∀ g, SV.ownBlock = some g → sv.ownBlock = some g ∨ w.heap.size ≤ g
section
variable {w X Y w6 w7 : World} {base l v : Nat} {fv sv v6 v7 : Value} {L L1 : List FrR} {sz s1 : List Nat}
theorem data_lt (hm : MoreL w base l fv sv L1) {g : Nat} (hg : g ∈ L1.flatMap dfoot) : base ≤ g ∧ g < w.heap.size ∧ fv.ownBlock ≠ some g ∧ sv.ownBlock ≠ some g ∧ g ≠ l := by
 obtain ⟨x, hx, hxg⟩ := List.mem_flatMap.1 hg
 obtain ⟨hd, hb⟩ := mem_dfoot.1 hxg
 have := hm.sep x hx hd g hb
 exact ⟨this.1, (hm.rd x hx).blk_lt hd hb, this.2⟩
theorem ffoot_app {FV : Value} {g : Nat} : g ∈ ffoot FV (L ++ L1) ↔ FV.ownBlock = some g ∨ g ∈ L.flatMap dfoot ∨ g ∈ L1.flatMap dfoot := by
 unfold ffoot
 rw [List.flatMap_append, List.mem_append, List.mem_append]
 simp
theorem ffoot_dat {FV : Value} {g : Nat} (h : g ∈ L.flatMap dfoot) : g ∈ ffoot FV L := List.mem_append_right _ h
theorem both_a (h : LogS w base l v fv sv L sz) (hm : MoreL w base l fv sv L1) (hX : Upd [] w X)
  (ho6 : OwFr w6 base v6 (L ++ L1)) (hg6 : X.grownBy w6 fv.ownBlock) (hn6 : v6.ownBlock = fv.ownBlock ∨ ∀ g, v6.ownBlock = some g → X.heap.size ≤ g)
  (hY : Upd [] w6 Y) (ho7 : OwI w7 base v7 (sz ++ s1)) (hg7 : Y.grownBy w7 sv.ownBlock) (hn7 : v7.ownBlock = sv.ownBlock ∨ ∀ g, v7.ownBlock = some g → Y.heap.size ≤ g) : BothL w w7 base l fv sv v6 v7 (L ++ L1) (sz ++ s1) := by
 have hf := h.fr.keep hX
 have hf6 : FrsS w6 base v6 (L ++ L1) := hf.app hg6 ho6 hn6 (fun x hx => (hm.rd x hx).keep hX) fun x hx hd g hg => ⟨(hm.sep x hx hd g hg).1, (hm.sep x hx hd g hg).2.1⟩
 have hlw : l < w.heap.size := lt_of_blk h.box
 have hXs := hX.size
 have hYs := hY.size
 have h6s := (Upd.ofGrown hg6).size
 have hv6 : ∀ g, v6.ownBlock = some g → fv.ownBlock = some g ∨ w.heap.size ≤ g := fun g hg => by
  rcases hn6 with e | e
  ·exact .inl (by rw [← e]; exact hg)
  ·have := e g hg; exact .inr (by omega)
 have hsv : ∀ g, sv.ownBlock = some g → g < w.heap.size := fun g hg => (h.sz.block g hg).2
 have hf7 : FrsS w7 base v6 (L ++ L1) := (hf6.keep hY).upd (Upd.ofGrown hg7) fun i hi q => by
  have hq : sv.ownBlock = some i := by simpa using q
  rcases ffoot_app.1 hi with e | e | e
  ·rcases hv6 i e with e2 | e2
   ·exact h.s3 i hq (mem_ffoot.2 (.inl e2))
   ·have := hsv i hq; omega
  ·exact h.s3 i hq (ffoot_dat e)
  ·exact (data_lt hm e).2.2.2.1 hq
 refine ⟨hf7, ho7, fun q => ?_, fun q => ?_, fun g hg q => ?_, ?_, hv6, fun g hg => hn7.elim (fun e => .inl (by rw [← e]; exact hg)) fun e => .inr (by have := e g hg; omega)⟩
 ·rcases ffoot_app.1 q with e | e | e
  ·rcases hv6 l e with e2 | e2
   ·exact h.s1 (mem_ffoot.2 (.inl e2))
   ·omega
  ·exact h.s1 (ffoot_dat e)
  ·exact (data_lt hm e).2.2.2.2 rfl
 ·rcases hn7 with e | e
  ·exact h.s2 (by rw [← e]; exact q)
  ·have := e l q; omega
 ·rcases hn7 with e | e
  ·have hq : sv.ownBlock = some g := by rw [← e]; exact hg
   rcases ffoot_app.1 q with e | e | e
   ·rcases hv6 g e with e2 | e2
    ·exact h.s3 g hq (mem_ffoot.2 (.inl e2))
    ·have := hsv g hq; omega
   ·exact h.s3 g hq (ffoot_dat e)
   ·exact (data_lt hm e).2.2.2.1 hq
  ·have h1 := e g hg
   have h2 := (hf6.lt g q).2
   omega
 ·refine Upd.grownIn (((Upd.grownIn (hX.mono (by simp)) hg6 fun k hk => .inl (by simp [hk])).trans (hY.mono (by simp)))) hg7 fun k hk => .inl (by simp [hk])
theorem both_b (h : LogS w base l v fv sv L sz) (hm : MoreL w base l fv sv L1) (hX : Upd [] w X)
  (ho7 : OwI w7 base v7 (sz ++ s1)) (hg7 : X.grownBy w7 sv.ownBlock) (hn7 : v7.ownBlock = sv.ownBlock ∨ ∀ g, v7.ownBlock = some g → X.heap.size ≤ g)
  (hY : Upd [] w7 Y) (ho6 : OwFr w6 base v6 (L ++ L1)) (hg6 : Y.grownBy w6 fv.ownBlock) (hn6 : v6.ownBlock = fv.ownBlock ∨ ∀ g, v6.ownBlock = some g → Y.heap.size ≤ g) : BothL w w6 base l fv sv v6 v7 (L ++ L1) (sz ++ s1) := by
 have hlw : l < w.heap.size := lt_of_blk h.box
 have hXs := hX.size
 have hYs := hY.size
 have h7s := (Upd.ofGrown hg7).size
 have hsv : ∀ g, sv.ownBlock = some g → g < w.heap.size := fun g hg => (h.sz.block g hg).2
 have hu7 : Upd sv.ownBlock.toList w w7 := Upd.grownIn (hX.mono (by simp)) hg7 fun k hk => .inl (by simp [hk])
 have huY : Upd sv.ownBlock.toList w Y := hu7.trans (hY.mono (by simp))
 have hf : FrsS Y base fv L := h.fr.upd huY fun i hi q => h.s3 i (by simpa using q) hi
 have hmr : ∀ x ∈ L1, Rd Y x.dv x.d := fun x hx => (hm.rd x hx).upd1 huY fun hd g hg q => (hm.sep x hx hd g hg).2.2.1 (by simpa using q)
 have hf6 : FrsS w6 base v6 (L ++ L1) := hf.app hg6 ho6 hn6 hmr fun x hx hd g hg => ⟨(hm.sep x hx hd g hg).1, (hm.sep x hx hd g hg).2.1⟩
 have hv6 : ∀ g, v6.ownBlock = some g → fv.ownBlock = some g ∨ Y.heap.size ≤ g := fun g hg => by
  rcases hn6 with e | e
  ·exact .inl (by rw [← e]; exact hg)
  ·exact .inr (e g hg)
 have hv7 : ∀ g, v7.ownBlock = some g → (sv.ownBlock = some g ∨ w.heap.size ≤ g) ∧ g < w7.heap.size := fun g hg => ⟨by
  rcases hn7 with e | e
  ·exact .inl (by rw [← e]; exact hg)
  ·have := e g hg; exact .inr (by omega), (ho7.block g hg).2⟩
 have hfl : ∀ g, fv.ownBlock = some g → g < w.heap.size := fun g hg => (h.fr.own.block g hg).2
 refine ⟨hf6, (ho7.upd hY (by simp)).upd (Upd.ofGrown hg6) fun j hj e => ?_, fun q => ?_, fun q => ?_, fun g hg q => ?_, ?_, fun g hg => (hv6 g hg).imp id fun q => by omega, fun g hg => (hv7 g hg).1⟩
 ·have hq : fv.ownBlock = some j := by simpa using hj
  rcases (hv7 j e).1 with e2 | e2
  ·exact h.s3 j e2 (mem_ffoot.2 (.inl hq))
  ·have := hfl j hq; omega
 ·rcases ffoot_app.1 q with e | e | e
  ·rcases hv6 l e with e2 | e2
   ·exact h.s1 (mem_ffoot.2 (.inl e2))
   ·omega
  ·exact h.s1 (ffoot_dat e)
  ·exact (data_lt hm e).2.2.2.2 rfl
 ·rcases (hv7 l q).1 with e | e
  ·exact h.s2 e
  ·omega
 ·have h1 := hv7 g hg
  rcases ffoot_app.1 q with e | e | e
  ·rcases hv6 g e with e2 | e2
   ·rcases h1.1 with e3 | e3
    ·exact h.s3 g e3 (mem_ffoot.2 (.inl e2))
    ·have := hfl g e2; omega
   ·omega
  ·rcases h1.1 with e3 | e3
   ·exact h.s3 g e3 (ffoot_dat e)
   ·have := (h.fr.lt g (ffoot_dat e)).2; omega
  ·rcases h1.1 with e3 | e3
   ·exact (data_lt hm e).2.2.2.1 e3
   ·have := (data_lt hm e).2.1; omega
 ·refine Upd.grownIn (huY.mono fun k hk _ => List.mem_append_right _ hk) hg6 fun k hk => .inl (by simp [hk])
theorem boxSg_set {W : World} {fv sv a b : Value} (h : W.heap[l]? = some (boxSg v fv sv)) : ((W.setCell ⟨l, 1, none⟩ a).setCell ⟨l, 2, none⟩ b).heap[l]? = some (boxSg v a b) := by
 rw [heap_setCell, if_pos rfl, heap_setCell, if_pos rfl, h]; rfl
theorem boxSg_set' {W : World} {fv sv a b : Value} (h : W.heap[l]? = some (boxSg v fv sv)) : ((W.setCell ⟨l, 2, none⟩ b).setCell ⟨l, 1, none⟩ a).heap[l]? = some (boxSg v a b) := by
 rw [heap_setCell, if_pos rfl, heap_setCell, if_pos rfl, h]; rfl
theorem BothL.log {W W' : World} (h : BothL w W base l fv sv v6 v7 L sz) (hb : W'.heap[l]? = some (boxSg v v6 v7)) (hl : base ≤ l) (u : Upd [l] W W') : LogS W' base l v v6 v7 L sz :=
 ⟨hb, h.fr.upd u fun i hi q => h.s1 (by rw [← List.mem_singleton.1 q]; exact hi), h.sz.upd u fun j hj e => h.s2 (by rw [← List.mem_singleton.1 hj]; exact e), hl, h.s1, h.s2, h.s3⟩
end
end Go.Proofs.YtgpefiacbipfpaaGreatDoor

namespace Go.Proofs.YtgpefiacbipfpaaGreatDoor
open Go.RowKit Go.Maps
def newB (w w' : World) : List Nat := List.range' w.heap.size (w'.heap.size - w.heap.size)
theorem mem_newB {w w' : World} {i : Nat} : i ∈ newB w w' ↔ w.heap.size ≤ i ∧ i < w'.heap.size := by unfold newB; rw [List.mem_range'_1]; omega
theorem SegV.fresh {w0 w w' : World} {v p room c : Nat} {m ml : Nat → Option Bs} {G : List Nat} (h : SegV w0 w v p room m ml c G) (u : Upd [] w w') : SegV w0 w' v p room m ml c (newB w w' ++ G) := h.guard u fun b hb => mem_newB.1 hb
theorem SegV.freshF {w0 w w' : World} {v p room c : Nat} {m ml : Nat → Option Bs} {G F : List Nat} (h : SegV w0 w v p room m ml c G) (u : Upd F w w') (hF : ∀ i ∈ F, i ∈ G ∧ w0.heap.size ≤ i) : SegV w0 w' v p room m ml c (newB w w' ++ G) := h.guardF u hF fun b hb => mem_newB.1 hb
theorem wpList_head8 {w : World} {ops : Array Oper} {rest : List Oper} {o : Oper} {a : Act} {Q : Exit → Act → World → Prop} (hg : o.guard = none) (x z : Operand) (hop : o.op = Op.slice 23 x none (some z) none) {v : Value} {l : Bs} (hv : Rd w v l) {j : Nat} (hj : j ≤ l.length)
  (hx : a.eval x = v) (hz : a.eval z = .int .i64 j) (h : ∀ a' c' m, m = j - 0 → Rd w (.slice a' m c') ((l.drop 0).take (j - 0)) → (∀ g, (Value.slice a' m c').ownBlock = some g → v.ownBlock = some g) → wpList Tryz.prog ops Q rest (a.put o.dst (.slice a' m c')) w) : wpList Tryz.prog ops Q (o :: rest) a w := by
 obtain ⟨a', c', -, -, hrun, hr, hb⟩ := hv.cut 0 j (Nat.zero_le _) hj
 refine wpList_plain hg fun K' hK' => ?_
 unfold Oper.wp
 simp only [execOp, hop, hx, hz, Option.map, Sem.run_bind, Sem.run_pure, Result.andThen_ok, run_sliceAt_slice (P := Tryz.prog) (w := w) _ _ _ _ _ elem8, hrun rfl]
 exact hK' _ _ (h a' c' _ rfl hr hb)
theorem openD_at (ds : List Bs) {n : Nat} (hn : n < ds.length) : openD (ds.drop n) = if (scanB ds[n]).2 = ds[n].length then (ds[n] :: (openD (ds.drop (n + 1))).1, (openD (ds.drop (n + 1))).2.1, (scanB ds[n]).1 ++ (openD (ds.drop (n + 1))).2.2) else ([ds[n].take (scanB ds[n]).2], true, (scanB ds[n]).1) := by
 rw [List.drop_eq_getElem_cons hn, openD]
def OpI (ds : List Bs) (n : Nat) (l : List Frm) : Prop := openD ds = (ds.take n ++ (openD (ds.drop n)).1, (openD (ds.drop n)).2.1, l ++ (openD (ds.drop n)).2.2)
theorem opI_0 (ds : List Bs) : OpI ds 0 [] := rfl
theorem opI_next {ds : List Bs} {n : Nat} {l : List Frm} (h : OpI ds n l) (hn : n < ds.length) (hw : (scanB ds[n]).2 = ds[n].length) : OpI ds (n + 1) (l ++ (scanB ds[n]).1) := by
 unfold OpI at *
 rw [h, openD_at ds hn, if_pos hw, List.take_succ_eq_append_getElem hn]
 simp only [List.append_assoc, List.cons_append, List.nil_append]
theorem opI_end {ds : List Bs} {l : List Frm} (h : OpI ds ds.length l) : openD ds = (ds, false, l) := by
 unfold OpI at h
 rw [h, List.drop_length, List.take_length]
 simp [openD]
theorem opI_torn {ds : List Bs} {n : Nat} {l : List Frm} (h : OpI ds n l) (hn : n < ds.length) (hw : (scanB ds[n]).2 ≠ ds[n].length) : openD ds = (ds.take n ++ [ds[n].take (scanB ds[n]).2], true, l ++ (scanB ds[n]).1) := by
 unfold OpI at h
 rw [h, openD_at ds hn, if_neg hw]
structure OpR (w0 w wr : World) (v p room : Nat) (ds : List Bs) (c lg : Nat) (fv sv : Value) (L : List FrR) (sz : List Nat) (G G' : List Nat) : Prop where
 sub : ∀ i ∈ G, i ∈ G'
 foot : ∀ i ∈ lfoot lg fv sv L, i ∈ G'
 sg : SegV w0 wr v p room (rowM ds) (rowM ds) c G'
 log : LogS wr w.heap.size lg v fv sv L sz
 st : Stay G w wr
section
variable {w0 w wr w' : World} {v p room c lg : Nat} {ds : List Bs} {fv sv : Value} {L : List FrR} {sz : List Nat} {G G' : List Nat}
theorem OpR.stay (h : OpR w0 w wr v p room ds c lg fv sv L sz G G') {G'' : List Nat} (s : Stay G' wr w') (hs : SegV w0 w' v p room (rowM ds) (rowM ds) c G'') (hg : ∀ i ∈ G', i ∈ G'') : OpR w0 w w' v p room ds c lg fv sv L sz G G'' :=
 ⟨fun i hi => hg i (h.sub i hi), fun i hi => hg i (h.foot i hi), hs, h.log.stay s h.foot, h.st.trans (s.sub h.sub)⟩
theorem OpR.keep (h : OpR w0 w wr v p room ds c lg fv sv L sz G G') (u : Upd [] wr w') : OpR w0 w w' v p room ds c lg fv sv L sz G (newB wr w' ++ G') := h.stay (.of u) (h.sg.fresh u) fun i hi => List.mem_append_right _ hi
theorem OpR.grow (h : OpR w0 w wr v p room ds c lg fv sv L sz G G') (hwl : w0.heap.size ≤ w.heap.size) (hG : ∀ i ∈ G, i < w.heap.size) {v6 v7 : Value} {L1 : List FrR} {s1 : List Nat} {W W' : World} (hb : BothL wr W w.heap.size lg fv sv v6 v7 (L ++ L1) (sz ++ s1))
  (hW : W' = (W.setCell ⟨lg, 1, none⟩ v6).setCell ⟨lg, 2, none⟩ v7 ∨ W' = (W.setCell ⟨lg, 2, none⟩ v7).setCell ⟨lg, 1, none⟩ v6) (hd : ∀ x ∈ L1, x.d ≠ [] → ∀ g, x.dv.ownBlock = some g → g ∈ G') : OpR w0 w W' v p room ds c lg v6 v7 (L ++ L1) (sz ++ s1) G (newB wr W' ++ G') ∧ Upd (lfoot lg fv sv L) wr W' := by
 have hl := h.log
 have hbx : W.heap[lg]? = some (boxSg v fv sv) := (hb.up.block lg (lt_of_blk hl.box) fun q => (List.mem_append.1 q).elim (fun q => hl.s1 (mem_ffoot.2 (.inl (by simpa using q)))) fun q => hl.s2 (by simpa using q)).trans hl.box
 have hbox : W'.heap[lg]? = some (boxSg v v6 v7) := by
  rcases hW with rfl | rfl
  ·exact boxSg_set hbx
  ·exact boxSg_set' hbx
 have hu : Upd [lg] W W' := by
  rcases hW with rfl | rfl
  ·exact ((Upd.refl _ _).setCell (by simp) _ _).setCell (by simp) _ _
  ·exact ((Upd.refl _ _).setCell (by simp) _ _).setCell (by simp) _ _
 have hF : Upd (lg :: (fv.ownBlock.toList ++ sv.ownBlock.toList)) wr W' := (hb.up.mono fun k hk _ => List.mem_cons_of_mem _ hk).trans (hu.mono fun k hk _ => by rw [List.mem_singleton.1 hk]; exact List.mem_cons_self ..)
 have hFl : ∀ i ∈ lg :: (fv.ownBlock.toList ++ sv.ownBlock.toList), i ∈ lfoot lg fv sv L := fun i hi => by
  rcases List.mem_cons.1 hi with e | e
  ·exact mem_lfoot.2 (.inl e)
  ·rcases List.mem_append.1 e with e | e
   ·exact mem_lfoot.2 (.inr (.inr (mem_ffoot.2 (.inl (by simpa using e)))))
   ·exact mem_lfoot.2 (.inr (.inl (by simpa using e)))
 have hlog : LogS W' w.heap.size lg v v6 v7 (L ++ L1) (sz ++ s1) := hb.log hbox hl.low hu
 refine ⟨⟨fun i hi => List.mem_append_right _ (h.sub i hi), fun i hi => ?_, h.sg.freshF hF fun i hi => ⟨h.foot i (hFl i hi), Nat.le_trans hwl (hl.lt i (hFl i hi)).1⟩, hlog, ?_⟩, hF.mono fun k hk _ => hFl k hk⟩
 ·have hlt := (hlog.lt i hi).2
  have hin : ∀ {q : Prop}, (q → i ∈ lfoot lg fv sv L) → q ∨ wr.heap.size ≤ i → i ∈ newB wr W' ++ G' := fun f q => q.elim (fun q => List.mem_append_right _ (h.foot i (f q))) fun q => List.mem_append_left _ (mem_newB.2 ⟨q, hlt⟩)
  rcases mem_lfoot.1 hi with e | e | e
  ·exact hin (fun _ => mem_lfoot.2 (.inl e)) (.inl trivial)
  ·exact hin (fun q => mem_lfoot.2 (.inr (.inl q))) (hb.n7 i e)
  ·rcases ffoot_app.1 e with e | e | e
   ·exact hin (fun q => mem_lfoot.2 (.inr (.inr (mem_ffoot.2 (.inl q))))) (hb.n6 i e)
   ·exact hin (fun _ => mem_lfoot.2 (.inr (.inr (ffoot_dat e)))) (.inl trivial)
   ·obtain ⟨x, hx, hxg⟩ := List.mem_flatMap.1 e
    obtain ⟨h1, h2⟩ := mem_dfoot.1 hxg
    exact List.mem_append_right _ (hd x hx h1 i h2)
 ·exact h.st.trans ⟨_, hF, fun i hi q => by have := hG i hi; have := (hl.lt i (hFl i q)).1; omega⟩
end
structure LogV (w0 w : World) (v p room : Nat) (ds : List Bs) (c base lg : Nat) (fv sv : Value) (L : List FrR) (G : List Nat) : Prop where
 sg : SegV w0 w v p room (rowM ds) (rowM ds) c G
 log : LogS w base lg v fv sv L (ds.map List.length)
 foot : ∀ i ∈ lfoot lg fv sv L, i ∈ G
 low : w0.heap.size ≤ base
set_option maxRecDepth 100000 in
set_option maxHeartbeats 8000000 in
theorem sopen_ok {w0 w : World} {v p room c k : Nat} {ds : List Bs} {G : List Nat} (h : SegV w0 w v p room (rowM ds) (rowM ds) c G) (hc : c ≤ 800000) (h1 : 1 ≤ room) (hds : ds.length ≤ 50) (hk : ∀ d ∈ ds, d.length ≤ 512 * k) (hk2 : 512 * k ≤ 32768) (hroom : (openD ds).2.1 = true → k * ds.length + k * ds.length + (k + 1) ≤ room) :
  Calls Tryz.prog 15 #[.pointer (some ⟨v, 0, none⟩)] w fun e w' => ∃ lg fv sv L G', e = .returned (.tuple #[.pointer (some ⟨lg, 0, none⟩), .int .i64 0]) ∧ LogV w0 w' v p room (openD ds).1 (c + 2) w.heap.size lg fv sv L G' ∧ L.map FrR.fr = (openD ds).2.2 ∧ (∀ i ∈ G, i ∈ G') ∧ Stay G w w' := by
 have hlow := h.upd.size
 have hGl := h.lt
 have hu1 := (Upd.refl [] w).alloc (boxSg v (.slice none 0 0) (.slice none 0 0))
 have hst : OpR w0 w (w.alloc (boxSg v (.slice none 0 0) (.slice none 0 0))) v p room ds c w.heap.size (.slice none 0 0) (.slice none 0 0) [] [] G (newB w (w.alloc (boxSg v (.slice none 0 0) (.slice none 0 0))) ++ G) := by
  refine ⟨fun i hi => List.mem_append_right _ hi, fun i hi => ?_, h.fresh hu1, ⟨heap_top _ _, FrsS.nil _ _, OwnG.nil _ _, Nat.le_refl _, by simp [ffoot, Value.ownBlock], by simp [Value.ownBlock], by simp [Value.ownBlock]⟩, .of hu1⟩
  have : i = w.heap.size := by
   rcases mem_lfoot.1 hi with e | e | e
   ·exact e
   ·cases e
   ·simp [ffoot, Value.ownBlock] at e
  subst this
  exact List.mem_append_left _ (mem_newB.2 ⟨Nat.le_refl _, by simp⟩)
 have HST := Lib.hid (And.intro hst (And.intro (opI_0 ds) (Nat.zero_le (5500 * 0))))
 have HG := Lib.hid (And.intro hlow (And.intro hGl hk))
 have HRm := Lib.hid hroom
 clear h hst hu1 hk hGl hlow hroom
 go_enter Tryz.func15, Tryz.ntmps15
 go_wp2_with fail
 go_loopg [5, 6, 7, 8, 9, 10, 11] (51 - 0) (fun gh v5 v6 v7 v8 v9 v10 v11 wr => ∃ (n : Nat) (fv sv : Value) (L : List FrR) (G' : List Nat), v5 = .int .i64 n ∧ n ≤ ds.length ∧ gh = 51 - n ∧ Hid (OpR w0 w wr v p room ds c w.heap.size fv sv L ((ds.take n).map List.length) G G' ∧ OpI ds n (L.map FrR.fr) ∧ L.length ≤ 5500 * n))
 case atStart => exact ⟨0, _, _, _, _, rfl, Nat.zero_le _, rfl, HST⟩
 case round =>
  obtain ⟨n, fv, sv, L, G', rfl, hn, rfl, HS⟩ := hrel
  have HN := Lib.hid fun X : World => sname_ok X n (by omega)
  go_wp2_with fail
  refine (HN.out _).mono ?_
  rintro e w1 ⟨rfl, rfl⟩
  by_cases hnl : n < ds.length
  ·obtain ⟨d, hd⟩ : ∃ d, d = ds[n] := ⟨_, rfl⟩
   obtain ⟨dl, hdl⟩ : ∃ dl, dl = d.length := ⟨_, rfl⟩
   have hm : rowM ds n = some d := by rw [hd]; exact List.getElem?_eq_getElem hnl
   have hdk : dl ≤ 32768 := by have := HG.out.2.2 d (by rw [hd]; exact List.getElem_mem hnl); omega
   have hz := HS.out.1.sg.size (i := n) (by omega)
   rw [hm] at hz
   dsimp only at hz
   rw [← hdl] at hz
   have HZ := Lib.hid hz
   have HD := Lib.hid (And.intro hd (And.intro hdl hm))
   clear hz hd hdl hm
   go_wp2_with fail
   refine HZ.out.mono ?_
   rintro e w2 ⟨rfl, hs2, hst2⟩
   have H2 := Lib.hid (HS.out.1.stay hst2 hs2 fun i hi => hi)
   clear hs2 hst2 HZ
   go_wp2_with fail
   refine (HN.out _).mono ?_
   rintro e w3 ⟨rfl, rfl⟩
   have hr := H2.out.sg.read (by omega) (i := n) (by omega) HD.out.2.2
   rw [← HD.out.2.1] at hr
   have HR := Lib.hid hr
   clear hr
   go_wp2_with fail
   refine HR.out.mono ?_
   rintro e w4 ⟨rv, rfl, ho4, hs4, hst4⟩
   have H4 := Lib.hid (H2.out.stay hst4 hs4 fun i hi => List.mem_append_right _ hi)
   obtain ⟨ra, rc, rm, hrm, rfl⟩ := ho4.sliceM
   have hrm2 : rm = dl := by rw [hrm, HD.out.2.1]
   subst hrm2
   have HO4 := Lib.hid ho4
   clear hs4 hst4 HR hrm ho4
   go_wp2_with fail
   refine (scan_ok _ HO4.out.rd (by rw [← HD.out.2.1]; omega)).mono ?_
   rintro e w5 ⟨f5, L5, rfl, hf5, hL5, hu5⟩
   have H5 := Lib.hid (H4.out.keep hu5)
   have HF5 := Lib.hid (And.intro hf5 (And.intro hL5 hu5))
   obtain ⟨ga, gc, gm, hgm, rfl⟩ := hf5.own.sliceM
   obtain ⟨good, hgood⟩ : ∃ good, good = (scanB d).2 := ⟨_, rfl⟩
   rw [← hgood]
   have hgl : good ≤ rm := by rw [hgood, HD.out.2.1]; exact scanB_le d
   have HGD := Lib.hid (And.intro hgood hgm)
   clear hf5 hL5 hu5 hgood hgm
   go_upto_region 13 with (fail)
   have b1 := cell_blk H5.out.log.box 1
   have b2 := cell_blk H5.out.log.box 2
   simp only [List.getElem?_toArray, List.getElem?_cons_zero, List.getElem?_cons_succ] at b1 b2
   obtain ⟨fa, fc, fm, hfm, rfl⟩ := H5.out.log.fr.own.sliceM
   obtain ⟨sa, sc, sm, hsm, rfl⟩ := H5.out.log.sz.sliceM
   have HFM := Lib.hid (And.intro hfm hsm)
   clear hfm hsm
   go_cut [53, 60] (fun v53 v60 wx => ∃ (v6 v7 : Value) (G7 : List Nat), Hid (OpR w0 w wx v p room ds c w.heap.size v6 v7 (L ++ L5) ((ds.take n).map List.length ++ [good]) G G7 ∧ (∀ g, (Value.slice ra rm rc).ownBlock = some g → g ∈ G7) ∧ Rd wx (.slice ra rm rc) d))
   case first =>
    have hL5l : L5.length ≤ 5461 := by
     have h1 := congrArg List.length HF5.out.2.1
     rw [List.length_map] at h1
     have h2 := scanB_few d
     have h3 := scanB_le d
     have := HD.out.2.1
     omega
    have hLl : L.length ≤ 275000 := by have := HS.out.2.2; omega
    have hsml : ((ds.take n).map List.length).length ≤ 50 := by rw [List.length_map, List.length_take]; omega
    have HB := Lib.hid (show ((L.length + L5.length) * 32 ≤ 140737488355328 ∧ L.length + L5.length ≤ 140737488355328) ∧ (((ds.take n).map List.length).length + 1) * 8 ≤ 140737488355328 ∧ ((ds.take n).map List.length).length + 1 ≤ 140737488355328 by omega)
    have hbl : ∀ g, (Value.slice fa fm fc).ownBlock = some g → g < w5.heap.size := fun g hg => (H5.out.log.fr.own.block g hg).2
    have hbl2 : ∀ g, (Value.slice sa sm sc).ownBlock = some g → g < w4.heap.size := fun g hg => (H4.out.log.sz.block g hg).2
    have HK6 : Hid (∀ X, Upd (Value.slice sa sm sc).ownBlock.toList w5 X → OwFr X w.heap.size (.slice fa fm fc) L ∧ SrcG cFr X ga L5 ∧ w.heap.size ≤ X.heap.size) := Lib.hid fun X u => ⟨H5.out.log.fr.own.upd u fun j hj e => H5.out.log.s3 j (by simpa using hj) (mem_ffoot.2 (.inl e)), OwnG.src TFr (HF5.out.1.own.upd u fun j hj e => by have := hbl2 j (by simpa using hj); have := (HF5.out.1.own.block j e).1; omega), Nat.le_trans (Nat.le_trans (Nat.le_of_lt (H5.out.log.lt _ (mem_lfoot.2 (.inl rfl))).2) (Nat.le_refl _)) u.size⟩
    have HK7 : Hid (∀ X, Upd (Value.slice fa fm fc).ownBlock.toList w5 X → OwI X w.heap.size (.slice sa sm sc) ((ds.take n).map List.length) ∧ w.heap.size ≤ X.heap.size) := Lib.hid fun X u => ⟨H5.out.log.sz.upd u fun j hj e => H5.out.log.s3 j e (mem_ffoot.2 (.inl (by simpa using hj))), Nat.le_trans (Nat.le_of_lt (H5.out.log.lt _ (mem_lfoot.2 (.inl rfl))).2) u.size⟩
    have HKC : Hid (∀ X, Upd ((Value.slice fa fm fc).ownBlock.toList ++ (Value.slice sa sm sc).ownBlock.toList) w5 X → (X.cell? ⟨w.heap.size, 1, none⟩ = some (.slice fa fm fc) ∧ X.cell? ⟨w.heap.size, 2, none⟩ = some (.slice sa sm sc)) ∧ (X.frozen? ⟨w.heap.size, 1, none⟩ = false ∧ X.frozen? ⟨w.heap.size, 2, none⟩ = false)) := Lib.hid fun X u => by
     have hb := (u.block w.heap.size (lt_of_blk H5.out.log.box) fun q => by
      rcases List.mem_append.1 q with q | q
      ·exact H5.out.log.s1 (mem_ffoot.2 (.inl (by simpa using q)))
      ·exact H5.out.log.s2 (by simpa using q)).trans H5.out.log.box
     exact ⟨⟨cell_blk hb 1, cell_blk hb 2⟩, frozen_blk hb 1, frozen_blk hb 2⟩
    have HNB : Hid (w5.heap.size ∉ (Value.slice fa fm fc).ownBlock.toList) := Lib.hid fun q => Nat.lt_irrefl _ (hbl _ (by simpa using q))
    have HD5 := Lib.hid HF5.out.1.dat
    have HMR : Hid (MoreL w5 w.heap.size w.heap.size (.slice fa fm fc) (.slice sa sm sc) L5) := Lib.hid ⟨HF5.out.1.dat, fun x hx hd g hg => by
     have h1 := (HF5.out.1.sep x hx hd g hg).1
     have h4 := H4.out.log.lt
     exact ⟨Nat.le_trans (Nat.le_of_lt (h4 _ (mem_lfoot.2 (.inl rfl))).2) h1, fun e => by have := (h4 g (mem_lfoot.2 (.inr (.inr (mem_ffoot.2 (.inl e)))))).2; omega, fun e => by have := (h4 g (mem_lfoot.2 (.inr (.inl e)))).2; omega, fun e => by have := (h4 _ (mem_lfoot.2 (.inl rfl))).2; omega⟩⟩
    have HFIN : Hid (∀ W v6 v7, BothL w5 W w.heap.size w.heap.size (.slice fa fm fc) (.slice sa sm sc) v6 v7 (L ++ L5) ((ds.take n).map List.length ++ [good]) → ∀ W', (W' = (W.setCell ⟨w.heap.size, 1, none⟩ v6).setCell ⟨w.heap.size, 2, none⟩ v7 ∨ W' = (W.setCell ⟨w.heap.size, 2, none⟩ v7).setCell ⟨w.heap.size, 1, none⟩ v6) →
      ∃ (v6 v7 : Value) (G7 : List Nat), Hid (OpR w0 w W' v p room ds c w.heap.size v6 v7 (L ++ L5) ((ds.take n).map List.length ++ [good]) G G7 ∧ (∀ g, (Value.slice ra rm rc).ownBlock = some g → g ∈ G7) ∧ Rd W' (.slice ra rm rc) d)) := Lib.hid fun W v6 v7 hb W' hW => by
     obtain ⟨q1, q2⟩ := H5.out.grow HG.out.1 HG.out.2.1 hb hW fun x hx hd g hg => List.mem_append_left _ (mem_newB.2 ⟨(HF5.out.1.sep x hx hd g hg).1, (HF5.out.1.dat x hx).blk_lt hd hg⟩)
     refine ⟨v6, v7, _, Lib.hid ⟨q1, fun g hg => List.mem_append_right _ (List.mem_append_right _ (List.mem_append_left _ (by simp [hg]))), ?_⟩⟩
     refine (HO4.out.rd.keep HF5.out.2.2).upd1 q2 fun hd g hg q => ?_
     have h1 := (HO4.out.block g hg).1
     have h2 := (H2.out.log.lt g q).2
     omega
    obtain ⟨⟨k1, k2⟩, f1, f2⟩ := HKC.out _ (((Upd.refl [] w5).drew).mono (by simp))
    have ka : ∀ o, (w5.drew.alloc o).cell? ⟨w.heap.size, 1, none⟩ = some (.slice fa fm fc) ∧ (w5.drew.alloc o).cell? ⟨w.heap.size, 2, none⟩ = some (.slice sa sm sc) := fun o => (HKC.out _ ((((Upd.refl [] w5).drew).alloc o).mono (by simp))).1
    have kb : ∀ o, (w5.alloc o).drew.cell? ⟨w.heap.size, 1, none⟩ = some (.slice fa fm fc) ∧ (w5.alloc o).drew.cell? ⟨w.heap.size, 2, none⟩ = some (.slice sa sm sc) := fun o => (HKC.out _ ((((Upd.refl [] w5).alloc o).drew).mono (by simp))).1
    have kb1 := fun o => (kb o).1
    have kb2 := fun o => (kb o).2
    have ka1 := fun o => (ka o).1
    have ka2 := fun o => (ka o).2
    clear ka kb
    clear hL5l hLl hsml hbl hbl2 b1 b2
    go_region_law (first
     | (refine step_append_G TFr (by rfl) _ _ (by rfl) (base := w.heap.size) (l := L) (r := L5) (by rfl) (HK6.out _ ?_).1 (by rw [← HGD.out.2]; rfl) (HK6.out _ ?_).2.1 (oneFr HD5.out) HB.out.1.1 HB.out.1.2 (HK6.out _ ?_).2.2 ?_
      ; (first | exact ((Upd.refl [] w5).drew).mono (by simp) | exact (((Upd.refl [] w5).drew).alloc _).mono (by simp) | exact (((Upd.refl [] w5).alloc _).drew).mono (by simp) | exact hv7)
      ; (first | exact ((Upd.refl [] w5).drew).mono (by simp) | exact (((Upd.refl [] w5).drew).alloc _).mono (by simp) | exact (((Upd.refl [] w5).alloc _).drew).mono (by simp) | exact hv7)
      ; (first | exact ((Upd.refl [] w5).drew).mono (by simp) | exact (((Upd.refl [] w5).drew).alloc _).mono (by simp) | exact (((Upd.refl [] w5).alloc _).drew).mono (by simp) | exact hv7)
      ; intro v6 w6 ho6 hg6 hn6
      ; obtain ⟨a6, c6, m6, hm6, rfl⟩ := ho6.sliceM
      ; (try have hv6 : Upd (Value.slice fa fm fc).ownBlock.toList w5 w6 := (by first | exact (((Upd.refl [] w5).drew).mono (by simp)).grownIn hg6 (fun k hk => .inl (by simp [hk])) | exact ((((Upd.refl [] w5).drew).alloc _).mono (by simp)).grownIn hg6 (fun k hk => .inl (by simp [hk])) | exact ((((Upd.refl [] w5).alloc _).drew).mono (by simp)).grownIn hg6 (fun k hk => .inl (by simp [hk]))))
      ; have hu6 : Upd ((Value.slice fa fm fc).ownBlock.toList ++ (Value.slice sa sm sc).ownBlock.toList) w5 w6 := (by first | exact hv6.mono (fun k hk _ => List.mem_append_left _ hk) | exact (hv7.mono (fun k hk _ => List.mem_append_right _ hk)).grownIn hg6 (fun k hk => .inl (by simp [hk])))
      ; obtain ⟨⟨k16, k26⟩, f16, f26⟩ := HKC.out _ hu6
      ; have qa6 := fun o => (HKC.out _ (hu6.alloc o)).1.1
      ; have qb6 := fun o => (HKC.out _ (hu6.alloc o)).1.2
      ; (try have hB6 := ((Upd.ofGrown hg6).block w5.heap.size (by simp) HNB.out).trans (heap_top _ _))
      ; clear hm6)
     | (refine step_append_G TI (by rfl) _ _ (by rfl) (base := w.heap.size) (l := (ds.take n).map List.length) (r := [good]) (by rfl) (HK7.out _ ?_).1 (by rfl) (src_new TI (ty := 3) ?_) (oneI _) HB.out.2.1 HB.out.2.2 (HK7.out _ ?_).2 ?_
      ; (first | exact (((Upd.refl [] w5).drew).alloc _).mono (by simp) | exact (((Upd.refl [] w5).alloc _).drew).mono (by simp) | exact hv6 | exact hv6.alloc _)
      ; (first | exact heap_top _ _ | exact hB6)
      ; (first | exact (((Upd.refl [] w5).drew).alloc _).mono (by simp) | exact (((Upd.refl [] w5).alloc _).drew).mono (by simp) | exact hv6 | exact hv6.alloc _)
      ; intro v7 w7 ho7 hg7 hn7
      ; obtain ⟨a7, c7, m7, hm7, rfl⟩ := ho7.sliceM
      ; (try have hv7 : Upd (Value.slice sa sm sc).ownBlock.toList w5 w7 := (by first | exact (((Upd.refl [] w5).drew.alloc _).mono (by simp)).grownIn hg7 (fun k hk => .inl (by simp [hk])) | exact ((((Upd.refl [] w5).alloc _).drew).mono (by simp)).grownIn hg7 (fun k hk => .inl (by simp [hk]))))
      ; have hu7 : Upd ((Value.slice fa fm fc).ownBlock.toList ++ (Value.slice sa sm sc).ownBlock.toList) w5 w7 := (by first | exact hv7.mono (fun k hk _ => List.mem_append_right _ hk) | exact (hv6.mono (fun k hk _ => List.mem_append_left _ hk)).grownIn hg7 (fun k hk => .inl (by simp [hk])) | exact ((hv6.alloc _).mono (fun k hk _ => List.mem_append_left _ hk)).grownIn hg7 (fun k hk => .inl (by simp [hk])))
      ; obtain ⟨⟨k17, k27⟩, f17, f27⟩ := HKC.out _ hu7
      ; have qa7 := fun o => (HKC.out _ (hu7.alloc o)).1.1
      ; have qb7 := fun o => (HKC.out _ (hu7.alloc o)).1.2
      ; clear hm7)
     | fail)
    all_goals
     first
      | have HF := Lib.hid (HFIN.out _ _ _ (both_a H5.out.log HMR.out ((Upd.refl [] w5).drew) ho6 hg6 hn6 ((Upd.refl [] w6).alloc _) ho7 hg7 hn7) _ (.inl rfl))
      | have HF := Lib.hid (HFIN.out _ _ _ (both_a H5.out.log HMR.out (((Upd.refl [] w5).alloc _).drew) ho6 hg6 hn6 (Upd.refl [] w6) ho7 hg7 hn7) _ (.inl rfl))
      | have HF := Lib.hid (HFIN.out _ _ _ (both_b H5.out.log HMR.out (((Upd.refl [] w5).alloc _).drew) ho7 hg7 hn7 (Upd.refl [] w7) ho6 hg6 hn6) _ (.inl rfl))
     clear ho6 hg6 hn6 ho7 hg7 hn7
     go_wp2_with fail
     go_meet
     case rel => exact HF.out
   case rest =>
    obtain ⟨v6, v7, G7, HC⟩ := hcut
    obtain ⟨w7, hw7⟩ : ∃ w7, w7 = wc := ⟨_, rfl⟩
    subst hw7
    clear b1 b2
    have hL5l : L5.length ≤ 5461 := by
     have h1 := congrArg List.length HF5.out.2.1
     rw [List.length_map] at h1
     have h2 := scanB_few d
     have h3 := scanB_le d
     have := HD.out.2.1
     omega
    have HLL := Lib.hid (show (L ++ L5).length ≤ 5500 * (n + 1) by rw [List.length_append]; have := HS.out.2.2; omega)
    have HML := Lib.hid (show (L ++ L5).map FrR.fr = L.map FrR.fr ++ (scanB d).1 by rw [List.map_append, HF5.out.2.1])
    clear hL5l
    by_cases hgr : good = rm
    ·subst hgr
     have hw := HD.out.1 ▸ HD.out.2.1
     have hop := opI_next HS.out.2.1 hnl (by rw [← HD.out.1, ← HGD.out.1]; exact HD.out.2.1)
     have hsz : (ds.take n).map List.length ++ [good] = (ds.take (n + 1)).map List.length := by
      rw [List.take_succ_eq_append_getElem hnl, List.map_append, ← HD.out.1, HD.out.2.1]; rfl
     have HR8 : Hid (OpR w0 w w7 v p room ds c w.heap.size v6 v7 (L ++ L5) ((ds.take (n + 1)).map List.length) G G7 ∧ OpI ds (n + 1) ((L ++ L5).map FrR.fr) ∧ (L ++ L5).length ≤ 5500 * (n + 1)) := Lib.hid ⟨by rw [← hsz]; exact HC.out.1, by rw [HML.out, HD.out.1]; exact hop, HLL.out⟩
     clear hw hop hsz
     go_wp2_with fail
     go_roundg (51 - (n + 1))
     case measure => omega
     case rel => exact ⟨n + 1, _, _, _, _, by go_num, by omega, rfl, HR8⟩
    ·have hgi : ¬ (good : Int) = (rm : Int) := by omega
     have hrow : ∀ j y, j < 100 → rowM ds j = some y → j < ds.length ∧ y.length ≤ 512 * k := fun j y _ hy => by
      obtain ⟨h2, h3⟩ := List.getElem?_eq_some_iff.1 hy
      exact ⟨h2, HG.out.2.2 y (by rw [← h3]; exact List.getElem_mem h2)⟩
     have hcl := cell_blk HC.out.1.log.box 0
     simp only [List.getElem?_toArray, List.getElem?_cons_zero] at hcl
     have hgd2 : good ≤ d.length := by rw [← HD.out.2.1]; exact hgl
     have HTO := Lib.hid (opI_torn HS.out.2.1 hnl (by rw [← HD.out.1, ← HGD.out.1, ← HD.out.2.1]; exact hgr))
     have hroom := HRm.out (by rw [HTO.out])
     have HCut := Lib.hid fun (ba : Option Addr) (bl bc : Nat) (b : Bs) (hb : Rd w7 (.slice ba bl bc) b) (hbo : b ≠ [] → ∀ g, (Value.slice ba bl bc).ownBlock = some g → g ∈ G7) (hbl : b.length ≤ 512 * k) =>
      cut_ok (HC.out.1.sg.u h1 hrow) (by omega) hcl (HC.out.1.foot _ (mem_lfoot.2 (.inl rfl))) hnl (by omega) hb hbo HG.out.2.2 (by omega) (by omega)
     have hbd : ((d.drop 0).take (good - 0)).length ≤ 512 * k := by
      have := HG.out.2.2 d (by rw [HD.out.1]; exact List.getElem_mem hnl)
      rw [List.length_take, List.drop_zero]; omega
     have HBD := Lib.hid hbd
     clear hrow hcl hbd hroom
     go_wp2_with (first
      | (refine wpList_head8 rfl _ _ rfl HC.out.2.2 hgd2 rfl rfl ?_; intro a8 c8 m8 hm8 hr8 hb8; have HR8 := Lib.hid (And.intro hr8 hb8); clear hm8 hr8 hb8)
      | fail)
     refine (HCut.out _ _ _ _ HR8.out.1 (fun _ g hg => HC.out.2.1 g (HR8.out.2 g hg)) HBD.out).mono ?_
     rintro e w8 ⟨rfl, hs8, hst8⟩
     have H8 := Lib.hid (And.intro hs8 hst8)
     clear hs8 hst8
     go_wp2_with fail
     go_ret2
     rw [HTO.out]
     dsimp only
     have e1 : (d.drop 0).take (good - 0) = ds[n].take (scanB ds[n]).2 := by rw [List.drop_zero, Nat.sub_zero, HGD.out.1, HD.out.1]
     have h8 := H8.out
     rw [e1] at h8
     refine ⟨_, _, _, _, _, rfl, ⟨h8.1, ?_, HC.out.1.foot, HG.out.1⟩, by rw [HML.out, HD.out.1], HC.out.1.sub, HC.out.1.st.trans (h8.2.sub HC.out.1.sub)⟩
     have h9 := HC.out.1.log.stay h8.2 HC.out.1.foot
     have e2 : (ds.take n ++ [ds[n].take (scanB ds[n]).2]).map List.length = (ds.take n).map List.length ++ [good] := by
      rw [List.map_append, ← e1]
      simp only [List.map_cons, List.map_nil, List.drop_zero, Nat.sub_zero, List.length_take]
      rw [Nat.min_eq_left hgd2]
     rw [e2]
     exact h9
  ·obtain rfl : n = ds.length := by omega
   have hz := HS.out.1.sg.size (i := ds.length) (by omega)
   rw [show rowM ds ds.length = none from List.getElem?_eq_none (Nat.le_refl _)] at hz
   dsimp only at hz
   have HZ := Lib.hid hz
   clear hz
   go_wp2_with fail
   refine HZ.out.mono ?_
   rintro e w2 ⟨rfl, hs2, hst2⟩
   have H2 := Lib.hid (HS.out.1.stay hst2 hs2 fun i hi => hi)
   clear hs2 hst2
   go_wp2_with fail
   go_ret2
   have he := opI_end HS.out.2.1
   have h2 := H2.out
   have hlg := h2.log
   rw [List.take_length] at hlg
   rw [he]
   exact ⟨_, _, _, _, _, rfl, ⟨h2.sg.more (by omega), hlg, h2.foot, HG.out.1⟩, rfl, h2.sub, h2.st⟩
end Go.Proofs.YtgpefiacbipfpaaGreatDoor

namespace Go.Proofs.YtgpefiacbipfpaaGreatDoor
open Go.RowKit Go.Maps
def cLd (x : FrR) : List Value := [x.dv]
theorem TLd : RowT cLd 1 24 56 23 where
 len := fun _ => rfl
 pos := by omega
 und := Tryz.underlying56
 info := by
  obtain ⟨i, h, h1, h2, h3⟩ := info_parts (show (Tryz.prog.info? 23).map (fun i => (i.zero, i.size, i.bytes)) = some (some (.slice none 0 0), 1, 24) by kernel_rfl)
  exact ⟨i, _, h, h1, h2, h3, rfl⟩
theorem oneLd {w : World} {l : List FrR} (h : ∀ x ∈ l, Rd w x.dv x.d) : ∀ x ∈ l, ∀ u ∈ cLd x, u.oneCell' = true := by
 intro x hx u hu
 obtain ⟨a, c, e, -⟩ := (h x hx).slice
 simp only [cLd, e, List.mem_singleton] at hu
 subst hu; rfl
abbrev OwLd (w : World) (base : Nat) (v : Value) (l : List FrR) : Prop := OwnG cLd 23 1 w base v l
structure LdS (w : World) (base : Nat) (fv : Value) (L : List FrR) : Prop where
 own : OwLd w base fv L
 dat : ∀ x ∈ L, Rd w x.dv x.d
 sep : ∀ x ∈ L, x.d ≠ [] → ∀ g, x.dv.ownBlock = some g → base ≤ g ∧ fv.ownBlock ≠ some g
section
variable {w w' : World} {base : Nat} {fv fv' : Value} {L R : List FrR}
theorem LdS.nil (w : World) (base : Nat) : LdS w base (.slice none 0 0) [] := ⟨OwnG.nil _ _, by simp, by simp⟩
theorem LdS.upd (h : LdS w base fv L) {F : List Nat} (u : Upd F w w') (hF : ∀ i ∈ ffoot fv L, i ∉ F) : LdS w' base fv L :=
 ⟨h.own.upd u fun j hj e => hF j (mem_ffoot.2 (.inl e)) hj, fun x hx => (h.dat x hx).upd1 u fun hd g hg => hF g (mem_ffoot.2 (.inr ⟨x, hx, hd, hg⟩)), h.sep⟩
theorem LdS.keep (h : LdS w base fv L) (u : Upd [] w w') : LdS w' base fv L := h.upd u (by simp)
theorem LdS.lt (h : LdS w base fv L) : ∀ i ∈ ffoot fv L, base ≤ i ∧ i < w.heap.size := fun i hi => by
 rcases mem_ffoot.1 hi with e | ⟨x, hx, hd, hg⟩
 ·exact h.own.block i e
 ·exact ⟨(h.sep x hx hd i hg).1, (h.dat x hx).blk_lt hd hg⟩
theorem LdS.app (h : LdS w base fv L) (hg : w.grownBy w' fv.ownBlock) (ho : OwLd w' base fv' (L ++ R)) (hn : fv'.ownBlock = fv.ownBlock ∨ ∀ g, fv'.ownBlock = some g → w.heap.size ≤ g) (hR : ∀ x ∈ R, Rd w x.dv x.d) (hs : ∀ x ∈ R, x.d ≠ [] → ∀ g, x.dv.ownBlock = some g → base ≤ g ∧ fv.ownBlock ≠ some g) : LdS w' base fv' (L ++ R) := by
 have hu := Upd.ofGrown hg
 have hd : ∀ x ∈ L ++ R, Rd w x.dv x.d ∧ (x.d ≠ [] → ∀ g, x.dv.ownBlock = some g → base ≤ g ∧ fv.ownBlock ≠ some g) := fun x hx => by
  rcases List.mem_append.1 hx with q | q
  ·exact ⟨h.dat x q, h.sep x q⟩
  ·exact ⟨hR x q, hs x q⟩
 refine ⟨ho, fun x hx => (hd x hx).1.upd1 hu fun hx2 g hg q => ?_, fun x hx hx2 g hg => ⟨((hd x hx).2 hx2 g hg).1, fun q => ?_⟩⟩
 ·exact ((hd x hx).2 hx2 g hg).2 (by simpa using q)
 ·rcases hn with e | e
  ·exact ((hd x hx).2 hx2 g hg).2 (by rw [← e]; exact q)
  ·have := e g q
   have := (hd x hx).1.blk_lt hx2 hg
   omega
end
structure Ap1 (W1 wr : World) (A : List Frm) (i : Nat) (v6 v7 : Value) (L1 M1 : List FrR) : Prop where
 up : Upd [] W1 wr
 fr : FrsS wr W1.heap.size v6 L1
 ld : LdS wr W1.heap.size v7 M1
 e6 : L1.map FrR.fr = A.take i
 e7 : M1.map FrR.d = (A.map fun x => putFrame x.1 x.2).take i
 ap : ∀ g ∈ ffoot v6 L1, g ∉ ffoot v7 M1
theorem Ap1.len6 {W1 wr : World} {A : List Frm} {i : Nat} {v6 v7 : Value} {L1 M1 : List FrR} (h : Ap1 W1 wr A i v6 v7 L1 M1) (hi : i ≤ A.length) : L1.length = i ∧ M1.length = i := by
 have h1 := congrArg List.length h.e6
 have h2 := congrArg List.length h.e7
 simp only [List.length_map, List.length_take] at h1 h2
 omega
theorem Ap1.next {W1 wr w3 X w4 Y w5 : World} {A : List Frm} {i : Nat} {v6 v7 v6' v7' : Value} {L1 M1 : List FrR} (h : Ap1 W1 wr A i v6 v7 L1 M1) {x y : FrR} (hx : A[i]? = some x.fr) (hy : y.d = putFrame x.k x.d) (hu3 : Upd [] wr w3) (rx : Rd w3 x.dv x.d) (ry : Rd w3 y.dv y.d)
  (nx : ∀ g, x.dv.ownBlock = some g → wr.heap.size ≤ g) (ny : ∀ g, y.dv.ownBlock = some g → wr.heap.size ≤ g) (nxy : ∀ g, x.dv.ownBlock = some g → y.dv.ownBlock ≠ some g)
  (hX : Upd [] w3 X) (ho6 : OwFr w4 W1.heap.size v6' (L1 ++ [x])) (hg6 : X.grownBy w4 v6.ownBlock) (hn6 : v6'.ownBlock = v6.ownBlock ∨ ∀ g, v6'.ownBlock = some g → X.heap.size ≤ g)
  (hY : Upd [] w4 Y) (ho7 : OwLd w5 W1.heap.size v7' (M1 ++ [y])) (hg7 : Y.grownBy w5 v7.ownBlock) (hn7 : v7'.ownBlock = v7.ownBlock ∨ ∀ g, v7'.ownBlock = some g → Y.heap.size ≤ g) : Ap1 W1 w5 A (i + 1) v6' v7' (L1 ++ [x]) (M1 ++ [y]) := by
 have hus := h.up.size
 have h3s := hu3.size
 have hXs := hX.size
 have hu6 := Upd.ofGrown hg6
 have h6s := hu6.size
 have hYs := hY.size
 have hu7 := Upd.ofGrown hg7
 have hX0 : Upd [] wr X := hu3.trans hX
 have b6 : ∀ g, v6.ownBlock = some g → g < wr.heap.size := fun g hg => (h.fr.own.block g hg).2
 have b7 : ∀ g, v7.ownBlock = some g → g < wr.heap.size := fun g hg => (h.ld.own.block g hg).2
 have f6 : FrsS w4 W1.heap.size v6' (L1 ++ [x]) := (h.fr.keep hX0).app hg6 ho6 hn6 (by simp only [List.mem_singleton, forall_eq]; exact rx.keep hX) (by
  simp only [List.mem_singleton, forall_eq]
  intro _ g hg
  have := nx g hg
  exact ⟨by omega, fun e => by have := b6 g e; omega⟩)
 have n6 : ∀ g, v6'.ownBlock = some g → v6.ownBlock = some g ∨ w3.heap.size ≤ g := fun g hg => hn6.elim (fun e => .inl (by rw [← e]; exact hg)) fun e => .inr (by have := e g hg; omega)
 have d6 : ∀ i ∈ ffoot v7 M1, i ∉ v6.ownBlock.toList := fun i hi q => h.ap i (mem_ffoot.2 (.inl (by simpa using q))) hi
 have ry4 : Rd w4 y.dv y.d := (ry.keep hX).upd1 hu6 fun _ g hg q => by have := ny g hg; have := b6 g (by simpa using q); omega
 have l4 : LdS Y W1.heap.size v7 M1 := ((h.ld.keep hX0).upd hu6 d6).keep hY
 have f7 : LdS w5 W1.heap.size v7' (M1 ++ [y]) := l4.app hg7 ho7 hn7 (by simp only [List.mem_singleton, forall_eq]; exact ry4.keep hY) (by
  simp only [List.mem_singleton, forall_eq]
  intro _ g hg
  have := ny g hg
  exact ⟨by omega, fun e => by have := b7 g e; omega⟩)
 have c6 : ∀ g ∈ ffoot v6' (L1 ++ [x]), (g ∈ ffoot v6 L1 ∧ g < wr.heap.size) ∨ (x.dv.ownBlock = some g ∧ g < w3.heap.size ∧ wr.heap.size ≤ g) ∨ (w3.heap.size ≤ g ∧ g < w4.heap.size) := fun g hg => by
  rcases ffoot_app.1 hg with e | e | e
  ·rcases n6 g e with q | q
   ·exact .inl ⟨mem_ffoot.2 (.inl q), b6 g q⟩
   ·exact .inr (.inr ⟨q, (f6.own.block g e).2⟩)
  ·exact .inl ⟨ffoot_dat e, (h.fr.lt g (ffoot_dat e)).2⟩
  ·obtain ⟨z, hz, hzg⟩ := List.mem_flatMap.1 e
   rw [List.mem_singleton.1 hz] at hzg
   obtain ⟨h1, h2⟩ := mem_dfoot.1 hzg
   exact .inr (.inl ⟨h2, rx.blk_lt h1 h2, nx g h2⟩)
 have hap : ∀ g ∈ ffoot v6' (L1 ++ [x]), g ∉ ffoot v7' (M1 ++ [y]) := fun g hg q => by
  have c := c6 g hg
  rcases ffoot_app.1 q with e | e | e
  ·rcases hn7 with e7 | e7
   ·have e' : v7.ownBlock = some g := by rw [← e7]; exact e
    rcases c with c | c | c
    ·exact h.ap g c.1 (mem_ffoot.2 (.inl e'))
    ·have := b7 g e'; omega
    ·have := b7 g e'; omega
   ·have := e7 g e
    rcases c with c | c | c <;> omega
  ·rcases c with c | c | c
   ·exact h.ap g c.1 (ffoot_dat e)
   ·have := (h.ld.lt g (ffoot_dat e)).2; omega
   ·have := (h.ld.lt g (ffoot_dat e)).2; omega
  ·obtain ⟨z, hz, hzg⟩ := List.mem_flatMap.1 e
   rw [List.mem_singleton.1 hz] at hzg
   obtain ⟨h1, h2⟩ := mem_dfoot.1 hzg
   have := ny g h2
   have := ry.blk_lt h1 h2
   rcases c with c | c | c
   ·omega
   ·exact nxy g c.1 h2
   ·omega
 refine ⟨?_, f6.upd (F := v7.ownBlock.toList) ((hY.mono (by simp)).trans hu7) fun i hi q => ?_, f7, ?_, ?_, hap⟩
 ·exact ((h.up.trans hX0).grown hg6 fun g hg => (h.fr.own.block g hg).1).trans hY |>.grown hg7 fun g hg => (h.ld.own.block g hg).1
 ·have q' : v7.ownBlock = some i := by simpa using q
  have := b7 i q'
  rcases c6 i hi with c | c | c
  ·exact h.ap i c.1 (mem_ffoot.2 (.inl q'))
  ·omega
  ·omega
 ·rw [List.map_append, h.e6, List.take_add_one, hx]; rfl
 ·rw [List.map_append, h.e7, List.take_add_one, List.getElem?_map, hx]
  simp [hy, FrR.fr]
theorem OwnG.setLastI {w : World} {base g c n : Nat} {l : List Nat} {x : Nat} (h : OwI w base (.slice (some ⟨g, 0, none⟩) n c) (l ++ [x])) (y : Nat) : OwI (w.setCell ⟨g, l.length, none⟩ (.int .i64 y)) base (.slice (some ⟨g, 0, none⟩) n c) (l ++ [y]) := by
 obtain ⟨h1, h2⟩ := h
 have e0 : (l ++ [y]).length = (l ++ [x]).length := by simp
 refine ⟨by rw [flatG_len TI], ?_⟩
 rcases h2 with ⟨h2, -⟩ | ⟨g', cap, cur, hv, hg, hh, r1, r2, r3, r4⟩
 ·cases h2
 ·cases hv
  refine .inr ⟨g, c, cur.setIfInBounds l.length (.int .i64 y), by rw [e0], hg, ?_, by rw [e0]; exact r1, r2, by simpa using r3, ?_⟩
  ·rw [heap_setCell, if_pos rfl, hh]; rfl
  ·rw [e0, Array.toList_setIfInBounds, List.take_set, r4]
   have hf : flatG cI (l ++ [x]) = flatG cI l ++ [.int .i64 x] := by rw [flatG_app]; simp [flatG]
   have hf2 : flatG cI (l ++ [y]) = flatG cI l ++ [.int .i64 y] := by rw [flatG_app]; simp [flatG]
   have hl : (flatG cI l).length = l.length := by rw [flatG_len TI, Nat.mul_one]
   rw [hf, hf2, List.set_append_right _ _ (by omega), hl, Nat.sub_self]; rfl
end Go.Proofs.YtgpefiacbipfpaaGreatDoor
