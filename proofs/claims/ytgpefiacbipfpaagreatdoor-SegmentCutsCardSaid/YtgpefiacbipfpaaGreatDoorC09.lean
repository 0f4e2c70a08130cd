/- The record's Store. The log: done, Format. The log in memory; Size, use, ended. The log's Read. -/
import Derived.Lib.SlBytesConst
import Derived.Test.YtgpefiacbipfpaaGreatDoorC08
namespace Go.Proofs.YtgpefiacbipfpaaGreatDoor
open Go.RowKit Go.Maps
theorem NewSlot.one {f : Nat → Bs} {i c : Nat} {d : Bs} (h : NewSlot f i c d) (hs : ∀ c' d', slotOf (f (1 - i)) = some (c', d') → c' < c) {i' c' : Nat} {d' : Bs} (g : NewSlot f i' c' d') : i' = i ∧ c' = c ∧ d' = d := by
 by_cases e : i' = i
 ·subst e
  have := g.is
  rw [h.is] at this
  cases this
  exact ⟨rfl, rfl, rfl⟩
 ·have h1 := h.two
  have h2 := g.two
  have e1 : i' = 1 - i := by omega
  have e2 : 1 - i' = i := by omega
  have a1 := g.is
  rw [e1] at a1
  have a2 := hs _ _ a1
  have a3 := g.old c d (by rw [e2]; exact h.is)
  omega
set_option maxRecDepth 100000 in
set_option maxHeartbeats 4000000 in
theorem store_ok (w : World) {p : Nat} {D : Dev} {F : List Nat} (h : DevAt w p D F) (hwr : D.wr ≤ 137438953300) (hf : FewSlot fun i => (D.blk i).view) {i c : Nat} {d0 : Bs} (hi : NewSlot (fun i => (D.blk i).view) i c d0)
  (hst : ∀ c' d', slotOf (D.blk (1 - i)).view = some (c', d') → c' < c) {v : Value} {d : Bs} (hd : Rd w v d) (hdl : d.length ≤ 400) (hdF : ∀ b, v.ownBlock = some b → b ∉ F) :
  Calls Tryz.prog 151 #[.pointer (some ⟨p, 0, none⟩), .int .i64 0, v] w (WritePost w p D F [.write (1 - i) (slotB (c + 1) d), .flush]) := by
 have HW := Lib.hid (wrong_ok w h)
 have HB := Lib.hid (both_ok w h hwr)
 have HD := Lib.hid h
 have HF := Lib.hid hf
 have HI := Lib.hid hi
 have HS := Lib.hid hst
 have HV := Lib.hid hd
 have HVF := Lib.hid hdF
 have hbn := h.bounds
 have hc : c < 4611686018427387904 := hf i c d0 hi.two hi.is
 obtain ⟨a, cp, m, hm, hmc, hc63, rfl⟩ := hd.sliceM
 have hm4 : m ≤ 400 := by omega
 clear h hf hi hst hd hdF hm
 go_enter Tryz.func151, Tryz.ntmps151
 go_wp2_with fail
 refine HW.out.mono ?_
 rintro r w0 ⟨rfl, rfl⟩
 clear HW
 go_wp2_with fail
 refine HB.out.mono ?_
 rintro r w1 ⟨e, D', b0, x0, v0, b1, x1, v1, nw, rfl, hE, hD', hU, hv0, hv1, hs⟩
 have H1 := Lib.hid (And.intro hE (And.intro hD' hU))
 obtain ⟨a0, m0, c0, rfl⟩ := hv0
 obtain ⟨a1, m1, c1, rfl⟩ := hv1
 have hUF : Upd F w0 w1 := hU.mono fun k hk _ => by obtain rfl := List.mem_singleton.1 hk; exact HD.out.p_mem
 have HUF := Lib.hid hUF
 by_cases he : e = 0
 ·subst he
  obtain ⟨t0, t1, t2⟩ := hs rfl
  have HP := pick_slot HF.out t0 t1 t2
  have hw' := hE.wr
  have hn' := hE.n
  have HL : ∀ (j : Nat) (X : Obj), j < 2 → Calls Tryz.prog 162 #[.pointer (some ⟨p, 0, none⟩), .int .i64 j, .int .i64 ((c + 1 : Nat) : Int), .slice a m cp] (w1.alloc X) (WritePost (w1.alloc X) p D' F [.write j (slotB (c + 1) d), .flush]) := fun j X hj =>
   lay_ok (w1.alloc X) (hD'.upd ((Upd.refl [] w1).alloc X) (by simp)) j (by omega) (by simp at hw'; omega) (c + 1) (by omega) ((HV.out.upd hUF HVF.out).keep ((Upd.refl [] w1).alloc X)) hdl
  have e1 : ((c + 1 : Nat) : Int) = (c : Int) + 1 := by omega
  rewrite [e1] at HL
  have HL := Lib.hid HL
  clear hE hD' hU hs t0 t1 t2 HB e1 hUF
  rcases HP with ⟨rfl, hp⟩ | ⟨rfl, c', d', hp, rfl, hr⟩ | ⟨rfl, c', d', hp, rfl, hr⟩
  ·exfalso
   have h1 := HI.out.is
   have h2 := HI.out.two
   have h3 : i = 0 ∨ i = 1 := by omega
   rcases h3 with rfl | rfl
   ·rw [hp.1] at h1; cases h1
   ·rw [hp.2] at h1; cases h1
  ·obtain ⟨rfl, rfl, rfl⟩ := HI.out.one HS.out hp
   clear hp hr
   go_wp2_with fail
   refine (HL.out 1 _ (by omega)).mono ?_
   rintro r w2 h2
   have H2 := Lib.hid (WritePost.seq H1.out.1 HUF.out (fun k hk => .inl hk) (WritePost.from ((Upd.refl [] w1).alloc _) h2))
   obtain ⟨e2, D2, F2, rfl, -⟩ := h2
   go_wp2_with fail
   go_ret
   exact H2.out
  ·obtain ⟨rfl, rfl, rfl⟩ := HI.out.one HS.out hp
   clear hp hr
   go_wp2_with fail
   refine (HL.out 0 _ (by omega)).mono ?_
   rintro r w2 h2
   have H2 := Lib.hid (WritePost.seq H1.out.1 HUF.out (fun k hk => .inl hk) (WritePost.from ((Upd.refl [] w1).alloc _) h2))
   obtain ⟨e2, D2, F2, rfl, -⟩ := h2
   go_wp2_with fail
   go_ret
   exact H2.out
 ·have he' : ¬ (e : Int) = 0 := by omega
  clear hE hD' hU hs HB hUF
  go_wp2_with fail
  go_ret
  have := WritePost.stop (w := w0) (w1 := w1.alloc (.cells #[.bool b0, .int .i64 x0, .slice a0 m0 c0, .bool b1, .int .i64 x1, .slice a1 m1 c1] 222)) [.write (1 - i) (slotB (c + 1) d), .flush] he H1.out.1 (H1.out.2.1.upd ((Upd.refl [] w1).alloc _) (by simp)) (HUF.out.alloc _) (fun k hk => .inl hk)
  exact this
end Go.Proofs.YtgpefiacbipfpaaGreatDoor

namespace Go.Proofs.YtgpefiacbipfpaaGreatDoor
open Go.RowKit Go.Maps
theorem rd_new {w : World} {B : Nat} {l : Bs} {ty : TypeId} {fz : Nat × Nat} (h : w.heap[B]? = some (.cells (flatG c8 l).toArray ty fz)) (hl : l.length ≤ 1000000) : Rd w (.slice (some ⟨B, 0, none⟩) l.length l.length) l := by
 refine ⟨⟨some ⟨B, 0, none⟩, _, rfl, Nat.le_refl _, by unfold maxLen; omega, fun i hi => ⟨B, 0, rfl, fun j u hu => ?_⟩⟩, fun n c e => by cases e⟩
 obtain rfl : j = 0 := by
  cases j with
  | zero => rfl
  | succ j => simp [c8] at hu
 have hu' : u = .int .u8 l[i].toNat := by simpa [c8] using hu.symm
 subst hu'
 have : w.cell? ⟨B, i, none⟩ = some (.int .u8 l[i].toNat) := by
  rw [cell_blk h, flat8]
  simp [hi]
 simpa using this
set_option maxRecDepth 100000 in
set_option maxHeartbeats 2000000 in
theorem done_ok (w : World) (k : Nat) (hk : k < 18446744073709551616) : Calls Tryz.prog 127 #[.int .u64 k] w fun e w' => ∃ v', e = .returned v' ∧ Ow w' w.heap.size v' (doneB k) ∧ Upd [] w w' := by
 have HP : ∀ (W : World) (B : Nat) (ty : TypeId) (fz : Nat × Nat), W.heap[B]? = some (.cells #[.int .u8 99, .int .u8 97, .int .u8 114, .int .u8 116, .int .u8 117, .int .u8 108, .int .u8 97, .int .u8 114, .int .u8 121] ty fz) → Calls Tryz.prog 95 #[.slice (some ⟨B, 0, none⟩) 9 9, .int .u64 k] W fun e w' => ∃ v', e = .returned v' ∧ Ow w' W.heap.size v' (doneB k) ∧ Upd [] W w' :=
  fun W B ty fz h => putUint_ok W (rd_new (l := magicJ) (B := B) (ty := ty) (fz := fz) (w := W) h (by decide)) k hk (by decide)
 have HP := Lib.hid HP
 have hcv := Go.Lib.run_convert_bytes_const w 23 5 #[.int .u8 99, .int .u8 97, .int .u8 114, .int .u8 116, .int .u8 117, .int .u8 108, .int .u8 97, .int .u8 114, .int .u8 121] 9 9 T8.und Tryz.underlying5
 go_enter Tryz.func127, Tryz.ntmps127
 go_wp2_with fail
 refine (HP.out _ _ _ _ (heap_top _ _)).mono ?_
 rintro e w1 ⟨v1, rfl, ho, hU⟩
 have H1 := Lib.hid (And.intro (ho.base (by simp) : Ow w1 w.heap.size v1 (doneB k)) (((Upd.refl [] w).alloc _).trans hU))
 clear ho hU
 go_wp2_with fail
 go_ret
 exact ⟨v1, rfl, H1.out.1, H1.out.2⟩
def zeroT (n : Nat) : List DOp := (List.range n).map fun i => .write i zeroB
def formatT (n : Nat) : List DOp := zeroT n ++ ([.flush] ++ ([.write 1 zeroB, .flush] ++ [.write 0 (slotB 0 (doneB 0)), .flush]))
theorem zeroT_succ (n : Nat) : zeroT (n + 1) = zeroT n ++ [.write n zeroB] := by simp [zeroT, List.range_succ]
theorem zeroT_len (n : Nat) : (zeroT n).length = n := by simp [zeroT]
theorem zeroT_split {n i : Nat} (h : i < n) : ∃ q, zeroT n = zeroT i ++ ([.write i zeroB] ++ q) := by
 refine ⟨(zeroT n).drop (i + 1), ?_⟩
 have h1 : zeroT (i + 1) = (zeroT n).take (i + 1) := by
  unfold zeroT
  rw [← List.map_take, List.take_range, Nat.min_eq_left (by omega)]
 rw [← List.append_assoc, ← zeroT_succ, h1, List.take_append_drop]
set_option maxRecDepth 100000 in
set_option maxHeartbeats 4000000 in
theorem jformat_ok (w : World) {p : Nat} {D : Dev} {F : List Nat} (h : DevAt w p D F) (hwr : D.wr ≤ 137438952000) (hdn : D.down = false) :
  Calls Tryz.prog 79 #[.pointer (some ⟨p, 0, none⟩)] w (WritePost w p D F (formatT D.n)) := by
 have HD := Lib.hid h
 have hbn := h.bounds
 have HFl := Lib.hid h.lt
 have HBk := Lib.hid fun (W : World) (u : Upd [] w W) => blocks_ok W (h.upd u (by simp))
 clear h
 go_enter Tryz.func79, Tryz.ntmps79
 go_wp2_with (first
  | (refine wpList_make_8 rfl _ _ rfl 512 (by omega) (l := zeroB) rfl rfl rfl rfl ?_)
  | fail)
 have HR1 := Lib.hid (Ow.made (w := w) (base := w.heap.size) (n := 512) (l := zeroB) (Nat.le_refl _) (by omega) rfl)
 have HU1 : Hid (Upd [] w (w.alloc (.cells (flatG c8 zeroB).toArray 5))) := Lib.hid ((Upd.refl [] w).alloc _)
 generalize (w.alloc (.cells (flatG c8 zeroB).toArray 5)) = w1 at *
 refine (HBk.out w1 HU1.out).mono ?_
 rintro r w2 ⟨rfl, rfl⟩
 go_wp2_with fail
 go_loopg [12] D.n (fun k v wr => ∃ (i : Nat) (D1 : Dev) (F1 : List Nat), v = .int .i64 i ∧ i ≤ D.n ∧ k = D.n - i ∧ Hid (Eff (zeroT i) D 0 D1 ∧ DevAt wr p D1 F1 ∧ Upd F w2 wr ∧ ∀ k ∈ F1, k ∈ F ∨ w2.heap.size ≤ k))
 case atStart => exact ⟨0, D, F, rfl, by omega, rfl, Lib.hid ⟨Eff.refl hdn, HD.out.upd HU1.out (by simp), Upd.refl _ _, fun k hk => .inl hk⟩⟩
 case round =>
  obtain ⟨i, D1, F1, rfl, hi, rfl, H1⟩ := hrel
  by_cases hil : i < D.n
  ·have hlt : (i : Int) < (D.n : Int) := by omega
   have hw' := H1.out.1.wr
   have hn' := H1.out.1.n
   rw [zeroT_len] at hw'
   have HW := Lib.hid (write_ok wr H1.out.2.1 i (by omega) (by omega) ((Ow.rd HR1.out).upd H1.out.2.2.1 (fun g hg q => by have := HFl.out g q; have := (HR1.out.block g hg).1; omega)) zeroB_len (fun q => by
    rcases H1.out.2.2.2 _ q with q | q
    ·have := HFl.out _ q; omega
    ·have := (HR1.out.block w.heap.size rfl).2; omega))
   go_wp2_with fail
   refine HW.out.mono ?_
   rintro r w3 h3
   have h3 := WritePost.seq H1.out.1 H1.out.2.2.1 H1.out.2.2.2 h3
   obtain ⟨e, D2, F2, rfl, hE2, hD2, hU2, hF2⟩ := h3
   have H3 := Lib.hid (And.intro hE2 (And.intro hD2 (And.intro hU2 hF2)))
   clear hE2 hD2 hU2 hF2 HW
   by_cases he : e = 0
   ·subst he
    go_wp2_with fail
    go_roundg (D.n - (i + 1))
    case rel => exact ⟨i + 1, D2, F2, by go_num, by omega, rfl, Lib.hid ⟨by rw [zeroT_succ]; exact H3.out.1, H3.out.2.1, H3.out.2.2.1, H3.out.2.2.2⟩⟩
    case measure => omega
   ·have he' : ¬ (e : Int) = 0 := by omega
    go_wp2_with fail
    go_ret
    obtain ⟨q, hq⟩ := zeroT_split hil
    have := WritePost.from HU1.out (WritePost.stop (q ++ ([.flush] ++ ([.write 1 zeroB, .flush] ++ [.write 0 (slotB 0 (doneB 0)), .flush]))) he H3.out.1 H3.out.2.1 H3.out.2.2.1 H3.out.2.2.2)
    unfold formatT
    rw [hq]
    simp only [List.append_assoc] at this ⊢; exact this
  ·have hlt : ¬ (i : Int) < (D.n : Int) := by omega
   obtain rfl : i = D.n := by omega
   have hw' := H1.out.1.wr
   rw [zeroT_len] at hw'
   have HFh := Lib.hid (flush_ok wr H1.out.2.1 (by omega))
   go_wp2_with fail
   refine HFh.out.mono ?_
   rintro r w3 h3
   have h3 := WritePost.seq H1.out.1 H1.out.2.2.1 H1.out.2.2.2 h3
   obtain ⟨e, D2, F2, rfl, hE2, hD2, hU2, hF2⟩ := h3
   have H3 := Lib.hid (And.intro hE2 (And.intro hD2 (And.intro hU2 hF2)))
   have hw3 := hE2.wr
   clear hE2 hD2 hU2 hF2 HFh
   by_cases he : e = 0
   ·subst he
    go_wp2_with fail
    refine (done_ok w3 0 (by omega)).mono ?_
    rintro r w4 ⟨v4, rfl, ho4, hU4⟩
    have hs4 := H3.out.2.1.lt
    obtain ⟨a4, c4, m4, hm4, rfl⟩ := ho4.sliceM
    have HS := Lib.hid (sformat_ok w4 (H3.out.2.1.upd hU4 (by simp)) (by simp [zeroT_len] at hw3; omega) (Ow.rd ho4) (by have := doneB_len (k := 0) (by omega); omega) (fun b hb q => by have := hs4 b q; have := (ho4.block b hb).1; omega))
    have HU4 := Lib.hid hU4
    clear hm4 ho4 hU4 hs4
    go_wp2_with fail
    refine HS.out.mono ?_
    rintro r w5 h5
    have H5 := Lib.hid (WritePost.from HU1.out (WritePost.seq H3.out.1 H3.out.2.2.1 H3.out.2.2.2 (WritePost.from HU4.out h5)))
    obtain ⟨e5, D5, F5, rfl, -⟩ := h5
    go_wp2_with fail
    go_ret
    have := H5.out
    unfold formatT
    simp only [List.append_assoc] at this ⊢; exact this
   ·have he' : ¬ (e : Int) = 0 := by omega
    go_wp2_with fail
    go_ret
    have := WritePost.from HU1.out (WritePost.stop ([.write 1 zeroB, .flush] ++ [.write 0 (slotB 0 (doneB 0)), .flush]) he H3.out.1 H3.out.2.1 H3.out.2.2.1 H3.out.2.2.2)
    unfold formatT
    simp only [List.append_assoc] at this ⊢; exact this
end Go.Proofs.YtgpefiacbipfpaaGreatDoor

namespace Go.Proofs.YtgpefiacbipfpaaGreatDoor
open Go.RowKit Go.Maps
abbrev boxL (p n k : Nat) (dead : Bool) : Obj := .cells #[.pointer (some ⟨p, 0, none⟩), .int .i64 n, .int .u64 k, .bool dead] 173 (0, 0)
def LogR (w : World) (j p n k : Nat) (dead : Bool) : Prop := w.heap[j]? = some (boxL p n k dead)
theorem LogR.upd {w w' : World} {j p n k : Nat} {dead : Bool} (h : LogR w j p n k dead) {G : List Nat} (u : Upd G w w') (hG : j ∉ G) : LogR w' j p n k dead := (u.block j (lt_of_blk h) hG).trans h
theorem LogR.dead {w : World} {j p n k : Nat} {dead : Bool} (h : LogR w j p n k dead) (b : Bool) : LogR (w.setCell ⟨j, 3, none⟩ (.bool b)) j p n k b := by
 show (w.setCell ⟨j, 3, none⟩ (.bool b)).heap[j]? = _
 rw [heap_setCell, if_pos rfl, h]; rfl
set_option maxRecDepth 100000 in
theorem jsize_ok (w : World) {j p n k : Nat} {dead : Bool} (h : LogR w j p n k dead) : Calls Tryz.prog 83 #[.pointer (some ⟨j, 0, none⟩)] w fun e w' => e = .returned (.int .i64 n) ∧ w' = w := by
 have c1 := cell_blk h 1
 simp only [List.getElem?_toArray, List.getElem?_cons_zero, List.getElem?_cons_succ] at c1
 clear h
 go_enter Tryz.func83, Tryz.ntmps83
 go_wp2_with fail
 go_ret
 exact ⟨rfl, rfl⟩
def useE (gone : Bool) (x : Int) (n : Nat) (bad : Bool) : Nat := if gone then 2 else if x < 0 ∨ (n : Int) ≤ x then 42 else if bad then 21 else 0
def UsePost (w : World) (j p n k : Nat) (gone : Bool) (E : Nat) (r : Ending) (w' : World) : Prop := r = .returned (.int .i64 E) ∧ LogR w' j p n k gone ∧ Upd [j] w w'
set_option maxRecDepth 100000 in
set_option maxHeartbeats 4000000 in
theorem use_ok (w : World) {j p n k : Nat} {dead : Bool} (h : LogR w j p n k dead) {D : Dev} {F : List Nat} (hd : DevAt w p D F) (_hn : n ≤ 512) (x : Int) (a : Option Addr) (m c : Nat) (wr : Bool) :
  Calls Tryz.prog 100 #[.pointer (some ⟨j, 0, none⟩), .int .i64 x, .slice a m c, .bool wr] w (UsePost w j p n k (dead || D.down) (useE (dead || D.down) x n (wr && decide (m ≠ 512)))) := by
 have c0 := cell_blk h 0
 have c1 := cell_blk h 1
 have c3 := cell_blk h 3
 have f3 := frozen_blk h 3
 simp only [List.getElem?_toArray, List.getElem?_cons_zero, List.getElem?_cons_succ] at c0 c1 c3
 have HB := Lib.hid h
 have HD := Lib.hid (down_ok w hd)
 clear h hd
 generalize D.down = dn at *
 cases dead with
 | true =>
  go_enter Tryz.func100, Tryz.ntmps100
  go_wp2_with fail
  go_ret
  exact ⟨rfl, HB.out.dead true, (Upd.refl _ _).setCell (by simp) _ _⟩
 | false =>
  go_enter Tryz.func100, Tryz.ntmps100
  go_wp2_with fail
  refine HD.out.mono ?_
  rintro r w1 ⟨rfl, rfl⟩
  cases dn with
  | true =>
   go_wp2_with fail
   go_ret
   exact ⟨rfl, HB.out.dead true, (Upd.refl _ _).setCell (by simp) _ _⟩
  | false =>
   by_cases h1 : x < 0
   ·go_wp2_with fail
    go_ret
    exact ⟨by simp [useE, h1], HB.out, Upd.refl _ _⟩
   ·by_cases h2 : (n : Int) ≤ x
    ·go_wp2_with fail
     go_ret
     exact ⟨by simp [useE, h2], HB.out, Upd.refl _ _⟩
    ·have h3 : ¬ (x < 0 ∨ (n : Int) ≤ x) := by omega
     cases wr with
     | false =>
      go_wp2_with fail
      go_ret
      exact ⟨by simp [useE, h3], HB.out, Upd.refl _ _⟩
     | true =>
      by_cases h4 : m = 512
      ·subst h4
       go_wp2_with fail
       go_ret
       exact ⟨by simp [useE, h3], HB.out, Upd.refl _ _⟩
      ·have h4' : ¬ (m : Int) = 512 := by omega
       go_wp2_with fail
       go_ret
       exact ⟨by simp [useE, h3, h4], HB.out, Upd.refl _ _⟩
set_option maxRecDepth 100000 in
theorem ended_ok (w : World) {j p n k : Nat} {dead : Bool} (h : LogR w j p n k dead) (e : Nat) :
  Calls Tryz.prog 102 #[.pointer (some ⟨j, 0, none⟩), .int .i64 e] w (UsePost w j p n k (dead || decide (e = 2)) e) := by
 have c3 := cell_blk h 3
 have f3 := frozen_blk h 3
 simp only [List.getElem?_toArray, List.getElem?_cons_zero, List.getElem?_cons_succ] at c3
 have HB := Lib.hid h
 clear h
 cases dead with
 | true =>
  go_enter Tryz.func102, Tryz.ntmps102
  go_wp2_with fail
  go_ret
  exact ⟨rfl, HB.out.dead true, (Upd.refl _ _).setCell (by simp) _ _⟩
 | false =>
  by_cases he : e = 2
  ·subst he
   go_enter Tryz.func102, Tryz.ntmps102
   go_wp2_with fail
   go_ret
   exact ⟨rfl, HB.out.dead true, (Upd.refl _ _).setCell (by simp) _ _⟩
  ·have he' : ¬ (e : Int) = 2 := by omega
   have hb2 : ((e : Int) == 2) = false := beq_eq_false_iff_ne.2 he'
   go_enter Tryz.func102, Tryz.ntmps102
   go_wp2_with fail
   go_ret
   have hd : (false || decide (e = 2)) = false := by simp [he]
   rw [hd]
   try rw [hb2]
   exact ⟨rfl, HB.out.dead false, (Upd.refl _ _).setCell (by simp) _ _⟩
end Go.Proofs.YtgpefiacbipfpaaGreatDoor

namespace Go.Proofs.YtgpefiacbipfpaaGreatDoor
open Go.RowKit Go.Maps
set_option maxRecDepth 100000 in
set_option maxHeartbeats 2000000 in
theorem jread_bad (w : World) {j p n k : Nat} {dead : Bool} (h : LogR w j p n k dead) {D : Dev} {F : List Nat} (hd : DevAt w p D F) (hn : n ≤ 512) (x : Int) (hx : useE (dead || D.down) x n false ≠ 0) :
  Calls Tryz.prog 84 #[.pointer (some ⟨j, 0, none⟩), .int .i64 x] w fun r w' => r = .returned (.tuple #[.slice none 0 0, .int .i64 (useE (dead || D.down) x n false)]) ∧ LogR w' j p n k (dead || D.down) ∧ Upd [j] w w' := by
 have HU := Lib.hid (use_ok w h hd hn x none 0 0 false)
 rw [Bool.false_and] at HU
 clear h hd
 generalize useE (dead || D.down) x n false = E at *
 have hE : ¬ (E : Int) = 0 := by omega
 go_enter Tryz.func84, Tryz.ntmps84
 go_wp2_with fail
 refine HU.out.mono ?_
 rintro r w1 ⟨rfl, hl, hu⟩
 have H1 := Lib.hid (And.intro hl hu)
 clear hl hu HU
 go_wp2_with fail
 go_ret2
 exact ⟨rfl, H1.out.1, H1.out.2⟩
def JReadPost (w : World) (j p n k : Nat) (D : Dev) (F : List Nat) (x : Nat) (r : Ending) (w' : World) : Prop :=
 ∃ (e : Nat) (D' : Dev) (v : Value), r = .returned (.tuple #[v, .int .i64 e]) ∧ Eff [] D e D' ∧ DevAt w' p D' F ∧ LogR w' j p n k (decide (e = 2)) ∧ Upd [p, j] w w' ∧ (e = 0 → NewB w' w.heap.size v (D.blk (20 + x)).view) ∧ (e ≠ 0 → v = .slice none 0 0)
theorem NewB.upd {w w' : World} {base : Nat} {v : Value} {b : Bs} (h : NewB w base v b) {G : List Nat} (u : Upd G w w') (hG : ∀ k ∈ G, k < base) : NewB w' base v b := by
 obtain ⟨B, h1, h2, h3⟩ := h
 exact ⟨B, h1, h2, (u.block B (lt_of_blk h3) (fun q => by have := hG B q; omega)).trans h3⟩
theorem NewB.base {w : World} {base base' : Nat} {v : Value} {b : Bs} (h : NewB w base v b) (hb : base' ≤ base) : NewB w base' v b := by
 obtain ⟨B, h1, h2, h3⟩ := h
 exact ⟨B, h1, Nat.le_trans hb h2, h3⟩
set_option maxRecDepth 100000 in
set_option maxHeartbeats 4000000 in
theorem jread_ok (w : World) {j p n k : Nat} (h : LogR w j p n k false) {D : Dev} {F : List Nat} (hd : DevAt w p D F) (hdn : D.down = false) (hnD : n + 20 = D.n) (hwr : D.wr ≤ 137438953000) (hjF : j ∉ F) (x : Nat) (hx : x < n) :
  Calls Tryz.prog 84 #[.pointer (some ⟨j, 0, none⟩), .int .i64 x] w (JReadPost w j p n k D F x) := by
 have hbn := hd.bounds
 have HU := Lib.hid (use_ok w h hd (by omega) (x : Int) none 0 0 false)
 have hE : useE (false || D.down) (x : Int) n (false && decide (0 ≠ 512)) = 0 := by rw [hdn]; simp [useE]; omega
 rw [hE, hdn] at HU
 have HJ := Lib.hid h
 have HD := Lib.hid hd
 have hpl := lt_of_blk h
 clear h hE
 clear hd
 go_enter Tryz.func84, Tryz.ntmps84
 go_wp2_with fail
 refine HU.out.mono ?_
 rintro r w1 ⟨rfl, hl, hu⟩
 have hl' : LogR w1 j p n k false := hl
 have c0 := cell_blk hl' 0
 simp only [List.getElem?_toArray, List.getElem?_cons_zero] at c0
 have H1 := Lib.hid (And.intro hl' hu)
 have HD1 := Lib.hid (HD.out.upd hu (fun k hk q => hjF (by obtain rfl := List.mem_singleton.1 q; exact hk)))
 have HRd := Lib.hid (read_ok w1 HD1.out (20 + x) (by omega) (by omega))
 have e20 : ((20 + x : Nat) : Int) = 20 + (x : Int) := by omega
 rewrite [e20] at HRd
 have hs1 := hu.size
 clear hl hu HU e20 hl'
 go_wp2_with fail
 refine HRd.out.mono ?_
 rintro r w2 ⟨e, D2, v, rfl, hE2, hD2, hU2, hv, hv'⟩
 have hjp : j ≠ p := fun q => hjF (by rw [q]; exact HD.out.p_mem)
 have HE := Lib.hid (ended_ok w2 (H1.out.1.upd hU2 (by simp; exact hjp)) e)
 rw [Bool.false_or] at HE
 have H2 := Lib.hid (And.intro hE2 (And.intro hD2 (And.intro hU2 (And.intro hv hv'))))
 clear hE2 hD2 hU2 hv hv' HRd
 go_wp2_with fail
 refine HE.out.mono ?_
 rintro r w3 ⟨rfl, hl3, hu3⟩
 have H3 := Lib.hid (And.intro hl3 hu3)
 clear hl3 hu3 HE
 go_wp2_with fail
 go_ret2
 refine ⟨e, D2, _, rfl, H2.out.1, H2.out.2.1.upd H3.out.2 (fun k hk q => hjF (by obtain rfl := List.mem_singleton.1 q; exact hk)), H3.out.1, ?_, fun q => ?_, H2.out.2.2.2.2⟩
 ·have q1 := H1.out.2.mono (G := [p, j]) (by simp)
  have q2 := H2.out.2.2.1.mono (G := [p, j]) (by simp)
  have q3 := H3.out.2.mono (G := [p, j]) (by simp)
  exact (q1.trans q2).trans q3
 ·exact ((H2.out.2.2.2.1 q).upd H3.out.2 (fun k hk => by simp at hk; omega)).base hs1
end Go.Proofs.YtgpefiacbipfpaaGreatDoor
