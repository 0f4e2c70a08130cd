/- Segment: SameFrames, SameInts, Segments. Segment: a device is laid; awake; all is opened anew. Segment: a file system that rests while another one works. Segment: frames in one go, or one by one: the walk of SegmentGroups. -/
import Derived.Lib.SlBytesConst
import Derived.Test.YtgpefiacbipfpaaGreatDoorC33
import Derived.Test.YtgpefiacbipfpaaGreatDoorC34
import Derived.Test.YtgpefiacbipfpaaGreatDoorC29
import Derived.Test.YtgpefiacbipfpaaGreatDoorC30
namespace Go.Proofs.YtgpefiacbipfpaaGreatDoor
open Go.RowKit Go.Maps
structure RdFs (w : World) (v : Value) (L : List FrR) : Prop where
 row : RdG cFr 2 w v L
 dat : ∀ x ∈ L, Rd w x.dv x.d
theorem RdFs.keep {w w' : World} {v : Value} {L : List FrR} (h : RdFs w v L) (u : Upd [] w w') : RdFs w' v L := ⟨h.row.keep TFr u, fun x hx => (h.dat x hx).keep u⟩
theorem FrsS.rdfs {w : World} {base : Nat} {v : Value} {L : List FrR} (h : FrsS w base v L) : RdFs w v L := ⟨OwnG.rd TFr h.own, h.dat⟩
theorem RdFs.at {w : World} {a : Option Addr} {n c : Nat} {L : List FrR} (h : RdFs w (.slice a n c) L) {i : Nat} {x : FrR} (hx : L[i]? = some x) : ∃ b off, a = some ⟨b, off, none⟩ ∧ w.cell? ⟨b, off + i * 2, none⟩ = some (.int .u8 x.k.toNat) ∧ w.cell? ⟨b, off + i * 2 + 1, none⟩ = some x.dv ∧ Rd w x.dv x.d := by
 obtain ⟨a', c', hv, -, -, hcell⟩ := h.row.sl
 simp only [Value.slice.injEq] at hv
 obtain ⟨rfl, -, -⟩ := hv
 obtain ⟨hi, rfl⟩ := List.getElem?_eq_some_iff.1 hx
 obtain ⟨b, off, e, hc⟩ := hcell i hi
 exact ⟨b, off, e, by have := hc 0 _ rfl; rwa [Nat.add_zero] at this, hc 1 _ rfl, h.dat _ (List.getElem_mem hi)⟩
theorem RdG.intAt {w : World} {a : Option Addr} {n c : Nat} {l : List Nat} (h : RdG cI 1 w (.slice a n c) l) {i x : Nat} (hx : l[i]? = some x) : ∃ b off, a = some ⟨b, off, none⟩ ∧ w.cell? ⟨b, off + i, none⟩ = some (.int .i64 x) := by
 obtain ⟨a', c', hv, -, -, hcell⟩ := h.sl
 simp only [Value.slice.injEq] at hv
 obtain ⟨rfl, -, -⟩ := hv
 obtain ⟨hi, rfl⟩ := List.getElem?_eq_some_iff.1 hx
 obtain ⟨b, off, e, hc⟩ := hcell i hi
 exact ⟨b, off, e, by have := hc 0 _ rfl; rwa [Nat.add_zero, Nat.mul_one] at this⟩
theorem take_next {α : Type} {l m : List α} {i : Nat} {x y : α} (hl : l[i]? = some x) (hm : m[i]? = some y) (h : l.take i = m.take i) (e : x = y) : l.take (i + 1) = m.take (i + 1) := by
 rw [List.take_add_one, List.take_add_one, hl, hm, h, e]
set_option maxRecDepth 100000 in
set_option maxHeartbeats 2000000 in
theorem same_ints (w : World) {va vb : Value} {l m : List Nat} (ha : RdG cI 1 w va l) (hb : RdG cI 1 w vb m) :
  Calls Tryz.prog 19 #[va, vb] w fun e w' => e = .returned (.bool (decide (l = m))) ∧ Upd [] w w' := by
 obtain ⟨pa, ca, rfl, q1, q2, -⟩ := ha.slice
 obtain ⟨pb, cb, rfl, q3, q4, -⟩ := hb.slice
 obtain ⟨n, hn⟩ : ∃ n, n = l.length := ⟨_, rfl⟩
 obtain ⟨k, hk⟩ : ∃ k, k = m.length := ⟨_, rfl⟩
 rw [← hn] at q1 ha
 rw [← hk] at q3 hb
 have HH := Lib.hid (And.intro ha hb)
 have HN := Lib.hid (And.intro hn hk)
 rw [← hn, ← hk]
 clear ha hb hn hk
 by_cases hnk : n = k
 ·subst hnk
  have hz : ((n : Int) == (n : Int)) = true := by simp
  go_enter Tryz.func19, Tryz.ntmps19
  go_wp2_with fail
  go_loopg [5] n (fun gh v5 wr => ∃ i : Nat, v5 = .int .i64 i ∧ i ≤ n ∧ gh = n - i ∧ Hid (Upd [] w wr ∧ l.take i = m.take i))
  case atStart => exact ⟨0, rfl, by omega, rfl, Lib.hid ⟨Upd.refl [] w, by simp⟩⟩
  case round =>
   obtain ⟨i, rfl, hi, rfl, HT⟩ := hrel
   by_cases hin : i < n
   ·have hin' : (i : Int) < (n : Int) := by omega
    obtain ⟨W, hW⟩ : ∃ W, W = wr := ⟨_, rfl⟩
    subst hW
    obtain ⟨x, hx⟩ : ∃ x, l[i]? = some x := ⟨_, List.getElem?_eq_getElem (by rw [← HN.out.1]; exact hin)⟩
    obtain ⟨y, hy⟩ : ∃ y, m[i]? = some y := ⟨_, List.getElem?_eq_getElem (by rw [← HN.out.2]; exact hin)⟩
    obtain ⟨b1, o1, rfl, d1⟩ := HH.out.1.intAt hx
    obtain ⟨b2, o2, rfl, d2⟩ := HH.out.2.intAt hy
    have e1 := held1 HT.out.1 d1
    have e2 := held1 HT.out.1 d2
    have HXY := Lib.hid (And.intro hx hy)
    clear d1 d2 hx hy
    by_cases he : x = y
    ·subst he
     have hz2 : ((x : Int) == (x : Int)) = true := by simp
     have HS : Hid (l.take (i + 1) = m.take (i + 1)) := Lib.hid (take_next HXY.out.1 HXY.out.2 HT.out.2 rfl)
     go_wp2_with fail
     go_quiet (fail)
     have HU := Lib.hid (HT.out.1.drewN nq)
     clear e1 e2
     generalize W.drewN nq = W2 at *
     go_wp2_with fail
     go_roundg (n - (i + 1))
     case measure => omega
     case rel => exact ⟨i + 1, by go_num, by omega, rfl, Lib.hid ⟨HU.out, HS.out⟩⟩
    ·have hz2 : ((x : Int) == (y : Int)) = false := by simp; omega
     have hne : decide (l = m) = false := by rw [decide_eq_false_iff_not]; intro e; have h1 := HXY.out.1; rw [e, HXY.out.2] at h1; exact he (Option.some.inj h1).symm
     have HNE := Lib.hid hne
     clear he hne
     go_wp2_with fail
     go_quiet (fail)
     have HU := Lib.hid (HT.out.1.drewN nq)
     clear e1 e2
     generalize W.drewN nq = W2 at *
     go_wp2_with fail
     go_ret
     exact ⟨by rw [HNE.out]; rfl, HU.out⟩
   ·have hin' : ¬ (i : Int) < (n : Int) := by omega
    have heq : decide (l = m) = true := by
     have h1 := HN.out.1; have h2 := HN.out.2
     have h3 := HT.out.2
     rw [List.take_of_length_le (by omega), List.take_of_length_le (by omega)] at h3
     simpa using h3
    have HEQ := Lib.hid heq
    clear heq
    go_wp2_with fail
    go_ret
    exact ⟨by rw [HEQ.out]; rfl, HT.out.1⟩
 ·have hz : ((n : Int) == (k : Int)) = false := by simp; omega
  have hne : decide (l = m) = false := by
   have h1 := HN.out.1; have h2 := HN.out.2
   rw [decide_eq_false_iff_not]; rintro rfl; omega
  have HNE := Lib.hid hne
  clear hne
  go_enter Tryz.func19, Tryz.ntmps19
  go_wp2_with fail
  go_ret
  exact ⟨by rw [HNE.out]; rfl, Upd.refl [] w⟩
set_option maxRecDepth 100000 in
set_option maxHeartbeats 4000000 in
theorem same_frames (w : World) {va vb : Value} {l m : List FrR} (ha : RdFs w va l) (hb : RdFs w vb m) (hla : ∀ x ∈ l, x.d.length ≤ 100000000) (hlb : ∀ x ∈ m, x.d.length ≤ 100000000) :
  Calls Tryz.prog 16 #[va, vb] w fun e w' => e = .returned (.bool (decide (l.map FrR.fr = m.map FrR.fr))) ∧ Upd [] w w' := by
 obtain ⟨pa, ca, rfl, q1, q2, -⟩ := ha.row.slice
 obtain ⟨pb, cb, rfl, q3, q4, -⟩ := hb.row.slice
 obtain ⟨n, hn⟩ : ∃ n, n = l.length := ⟨_, rfl⟩
 obtain ⟨k, hk⟩ : ∃ k, k = m.length := ⟨_, rfl⟩
 rw [← hn] at q1 ha
 rw [← hk] at q3 hb
 have HH := Lib.hid (And.intro ha hb)
 have HN := Lib.hid (And.intro hn hk)
 have HL := Lib.hid (And.intro hla hlb)
 rw [← hn, ← hk]
 clear ha hb hn hk hla hlb
 by_cases hnk : n = k
 ·subst hnk
  have hz : ((n : Int) == (n : Int)) = true := by simp
  go_enter Tryz.func16, Tryz.ntmps16
  go_wp2_with fail
  go_loopg [5] n (fun gh v5 wr => ∃ i : Nat, v5 = .int .i64 i ∧ i ≤ n ∧ gh = n - i ∧ Hid (Upd [] w wr ∧ (l.map FrR.fr).take i = (m.map FrR.fr).take i))
  case atStart => exact ⟨0, rfl, by omega, rfl, Lib.hid ⟨Upd.refl [] w, by simp⟩⟩
  case round =>
   obtain ⟨i, rfl, hi, rfl, HT⟩ := hrel
   by_cases hin : i < n
   ·have hin' : (i : Int) < (n : Int) := by omega
    obtain ⟨W, hW⟩ : ∃ W, W = wr := ⟨_, rfl⟩
    subst hW
    obtain ⟨x, hx⟩ : ∃ x, l[i]? = some x := ⟨_, List.getElem?_eq_getElem (by rw [← HN.out.1]; exact hin)⟩
    obtain ⟨y, hy⟩ : ∃ y, m[i]? = some y := ⟨_, List.getElem?_eq_getElem (by rw [← HN.out.2]; exact hin)⟩
    obtain ⟨b1, o1, rfl, d1, d1', r1⟩ := (HH.out.1.keep HT.out.1).at hx
    obtain ⟨b2, o2, rfl, d2, d2', r2⟩ := (HH.out.2.keep HT.out.1).at hy
    obtain ⟨xa, xc, hxv, -⟩ := r1.slice
    obtain ⟨ya, yc, hyv, -⟩ := r2.slice
    rw [hxv] at d1' r1
    rw [hyv] at d2' r2
    have s1 := fun j => Rd.str (r1.quiet j)
    have s2 := fun j => Rd.str (r2.quiet j)
    have hb := strOf_beq x.d y.d
    have HXY : Hid ((l.map FrR.fr)[i]? = some x.fr ∧ (m.map FrR.fr)[i]? = some y.fr) := Lib.hid ⟨by rw [List.getElem?_map, hx]; rfl, by rw [List.getElem?_map, hy]; rfl⟩
    have hl1 := HL.out.1 x (List.mem_of_getElem? hx)
    have hl2 := HL.out.2 y (List.mem_of_getElem? hy)
    clear hx hy r1 r2 hxv hyv
    by_cases hk : x.k = y.k
    ·by_cases he : x.d = y.d
     ·have HS : Hid ((l.map FrR.fr).take (i + 1) = (m.map FrR.fr).take (i + 1)) := Lib.hid (take_next HXY.out.1 HXY.out.2 HT.out.2 (by unfold FrR.fr; rw [hk, he]))
      rw [decide_eq_true he] at hb
      rw [hk] at d1
      have hz2 : ((y.k.toNat : Int) == (y.k.toNat : Int)) = true := by simp
      generalize y.k.toNat = kn at *
      generalize strOf x.d = t1 at *
      generalize strOf y.d = t2 at *
      generalize x.d.length = n1 at *
      generalize y.d.length = n2 at *
      clear he hk
      go_wp2_with fail
      go_quiet (fail)
      have HU := Lib.hid (HT.out.1.drewN nq)
      clear d1 d2 d1' d2' s1 s2
      generalize W.drewN nq = W2 at *
      go_wp2_with fail
      go_roundg (n - (i + 1))
      case measure => omega
      case rel => exact ⟨i + 1, by go_num, by omega, rfl, Lib.hid ⟨HU.out, HS.out⟩⟩
     ·have hne : decide (l.map FrR.fr = m.map FrR.fr) = false := by rw [decide_eq_false_iff_not]; intro e; have h1 := HXY.out.1; rw [e, HXY.out.2] at h1; exact he (congrArg (·.2) (Option.some.inj h1)).symm
      have HNE := Lib.hid hne
      rw [decide_eq_false he] at hb
      rw [hk] at d1
      have hz2 : ((y.k.toNat : Int) == (y.k.toNat : Int)) = true := by simp
      generalize y.k.toNat = kn at *
      generalize strOf x.d = t1 at *
      generalize strOf y.d = t2 at *
      generalize x.d.length = n1 at *
      generalize y.d.length = n2 at *
      clear he hk hne
      go_wp2_with fail
      go_quiet (fail)
      have HU := Lib.hid (HT.out.1.drewN nq)
      clear d1 d2 d1' d2' s1 s2
      generalize W.drewN nq = W2 at *
      go_wp2_with fail
      go_ret
      exact ⟨by rw [HNE.out]; rfl, HU.out⟩
    ·have hne : decide (l.map FrR.fr = m.map FrR.fr) = false := by rw [decide_eq_false_iff_not]; intro e; have h1 := HXY.out.1; rw [e, HXY.out.2] at h1; exact hk (congrArg (·.1) (Option.some.inj h1)).symm
     have HNE := Lib.hid hne
     have hz2 : ((x.k.toNat : Int) == (y.k.toNat : Int)) = false := by
      simp only [beq_eq_false_iff_ne, ne_eq]
      intro e
      exact hk (UInt8.toNat_inj.1 (by omega))
     have hz3 : ((x.k.toNat : Int) != (y.k.toNat : Int)) = true := by rw [bne, hz2]; rfl
     generalize x.k.toNat = k1 at *
     generalize y.k.toNat = k2 at *
     generalize strOf x.d = t1 at *
     generalize strOf y.d = t2 at *
     generalize x.d.length = n1 at *
     generalize y.d.length = n2 at *
     clear hk hne
     go_wp2_with fail
     go_quiet (fail)
     have HU := Lib.hid (HT.out.1.drewN nq)
     clear d1 d2 d1' d2' s1 s2
     generalize W.drewN nq = W2 at *
     go_wp2_with fail
     go_ret
     exact ⟨by rw [HNE.out]; rfl, HU.out⟩
   ·have hin' : ¬ (i : Int) < (n : Int) := by omega
    have heq : decide (l.map FrR.fr = m.map FrR.fr) = true := by
     have h1 := HN.out.1; have h2 := HN.out.2
     have h3 := HT.out.2
     rw [List.take_of_length_le (by rw [List.length_map]; omega), List.take_of_length_le (by rw [List.length_map]; omega)] at h3
     simpa using h3
    have HEQ := Lib.hid heq
    clear heq
    go_wp2_with fail
    go_ret
    exact ⟨by rw [HEQ.out]; rfl, HT.out.1⟩
 ·have hz : ((n : Int) == (k : Int)) = false := by simp; omega
  have hne : decide (l.map FrR.fr = m.map FrR.fr) = false := by
   have h1 := HN.out.1; have h2 := HN.out.2
   rw [decide_eq_false_iff_not]; intro e
   have := congrArg List.length e
   simp at this; omega
  have HNE := Lib.hid hne
  clear hne
  go_enter Tryz.func16, Tryz.ntmps16
  go_wp2_with fail
  go_ret
  exact ⟨by rw [HNE.out]; rfl, Upd.refl [] w⟩
set_option maxRecDepth 100000 in
theorem segs_ok (w : World) {base lg v : Nat} {fv sv : Value} {L : List FrR} {sz : List Nat} (h : LogS w base lg v fv sv L sz) (hsz : sz.length ≤ 100000) :
  Calls Tryz.prog 20 #[.pointer (some ⟨lg, 0, none⟩)] w fun e w' => ∃ v', e = .returned v' ∧ OwI w' w.heap.size v' sz ∧ Upd [] w w' := by
 have hcl := Lib.hid (cloneI_ok w (OwnG.rd TI h.sz) (by omega))
 obtain ⟨sa, sc, sm, hsm, rfl⟩ := h.sz.sliceM
 have b2 := cell_blk h.box 2
 simp only [List.getElem?_toArray, List.getElem?_cons_zero, List.getElem?_cons_succ] at b2
 clear h hsm
 go_enter Tryz.func20, Tryz.ntmps20
 go_wp2_with fail
 refine hcl.out.mono ?_
 rintro e w1 ⟨v5, rfl, ho5, hu5⟩
 obtain ⟨a5, c5, m5, hm5, rfl⟩ := ho5.sliceM
 have H5 := Lib.hid (And.intro ho5 hu5)
 clear ho5 hu5 hm5
 go_wp2_with fail
 go_ret
 exact ⟨_, rfl, H5.out⟩
end Go.Proofs.YtgpefiacbipfpaaGreatDoor

namespace Go.Proofs.YtgpefiacbipfpaaGreatDoor
open Go.RowKit Go.Maps
theorem segM_row : SegM [] (rowM []) := by
 have : rowM [] = fun _ => none := funext fun i => by simp [rowM]
 rw [this]; exact segM_nil
theorem seg_laid (w0 : World) {w : World} (u : Upd [] w0 w) (n : Nat) (h1 : 64 ≤ n) (h2 : n ≤ 512) : Calls Tryz.prog 8 #[.int .i64 n] w fun r w' => ∃ p v, r = .returned (.tuple #[.pointer (some ⟨p, 0, none⟩), .pointer (some ⟨v, 0, none⟩)]) ∧ SegV w0 w' v p (n - 36) (rowM []) (rowM []) 0 [] ∧ Upd [] w w' :=
 (lv_laid w0 u n h1 h2).mono fun r w' ⟨p, v, hr, hl, hu⟩ => ⟨p, v, hr, ⟨[], [], hl, segM_row, segM_row, fun _ h => h⟩, hu⟩
theorem rd_made {α : Type} {f : α → List Value} {k bytes : Nat} {st e : TypeId} (T : RowT f k bytes st e) {w : World} {B : Nat} {l : List α} {ty : TypeId} (hB : w.heap[B]? = some (.cells (flatG f l).toArray ty (0, 0))) (hl : l.length ≤ 1000000) : RdG f k w (.slice (some ⟨B, 0, none⟩) l.length l.length) l := by
 refine ⟨⟨some ⟨B, 0, none⟩, l.length, rfl, Nat.le_refl _, by unfold maxLen; omega, fun i hi => ⟨B, 0, rfl, fun j u hu => ?_⟩⟩, fun n c e => by cases e⟩
 have hj : j < k := by
  rcases Nat.lt_or_ge j k with h | h
  ·exact h
  ·rw [List.getElem?_eq_none (by rw [T.len]; exact h)] at hu; cases hu
 rw [cell_blk hB, List.getElem?_toArray, Nat.zero_add, flatG_at T l i hi j hj]
 exact hu
theorem LogV.keep {w0 w w' : World} {v p room c base lg : Nat} {ds : List Bs} {fv sv : Value} {L : List FrR} {G : List Nat} (h : LogV w0 w v p room ds c base lg fv sv L G) (u : Upd [] w w') : LogV w0 w' v p room ds c base lg fv sv L G := ⟨h.sg.keep u, h.log.keep u, h.foot, h.low⟩
theorem rd_lit {w : World} {B : Nat} {b : UInt8} {n : Int} {e : TypeId} {fr : Nat × Nat} (hB : w.heap[B]? = some (.cells #[.int .u8 n] e fr)) (hn : n = b.toNat) : Rd w (.slice (some ⟨B, 0, none⟩) 1 1) [b] := by
 refine ⟨⟨some ⟨B, 0, none⟩, 1, rfl, Nat.le_refl _, by unfold maxLen; omega, fun i hi => ⟨B, 0, rfl, fun j u hu => ?_⟩⟩, fun n c e => by cases e⟩
 obtain rfl : i = 0 := by simpa using hi
 rw [cell_blk hB]
 cases j with
 | zero => rw [← hu, hn]; rfl
 | succ j => cases hu
def twoF : List Frm := [(1, [97]), (2, [98])]
theorem twoF_add : addsD [] twoF = [putFrame 1 [97] ++ putFrame 2 [98]] ∧ (putFrame 1 [97] ++ putFrame 2 [98]).length = 14 := by
 have h1 : (putFrame 1 [97]).length = 7 := by rw [putFrame_len, putU_lt (by decide)]; rfl
 have h2 : (putFrame 2 [98]).length = 7 := by rw [putFrame_len, putU_lt (by decide)]; rfl
 refine ⟨?_, by rw [List.length_append, h1, h2]⟩
 show addD (addD [] (putFrame 1 [97])) (putFrame 2 [98]) = _
 rw [addD_nil]
 have := addD_snoc [] (putFrame 1 [97]) (putFrame 2 [98])
 rw [List.nil_append] at this
 rw [this, h1, h2, if_neg (by decide)]; rfl
set_option maxRecDepth 100000 in
set_option maxHeartbeats 4000000 in
theorem sawake_ok (w : World) : Calls Tryz.prog 7 #[] w fun e w' => e = .returned (.bool true) ∧ Upd [] w w' := by
 have HL := Lib.hid (seg_laid w (Upd.refl [] w) 64 (by omega) (by omega))
 go_enter Tryz.func7, Tryz.ntmps7
 go_wp2_with fail
 refine HL.out.mono ?_
 rintro e w1 ⟨p, v, rfl, hs1, hu1⟩
 have H1 := Lib.hid (And.intro hs1 hu1)
 have HO := Lib.hid (sopen_ok (k := 16) hs1 (by omega) (by omega) (by simp) (by simp) (by omega) (by simp))
 clear hs1 hu1
 go_wp2_with fail
 refine HO.out.mono ?_
 rintro e w2 ⟨lg, fv, sv, L, G, rfl, hl2, hf2, -, hst2⟩
 have hlg0 := hl2.log.box
 obtain ⟨L0, hL0⟩ : ∃ L0, L0 = L := ⟨_, rfl⟩
 have hLn : L = [] := by
  have := congrArg List.length hf2
  simpa [openD] using this
 subst hLn
 have H2 := Lib.hid hl2
 clear hl2 hf2 hst2 hlg0 hL0
 have hcv1 := fun W : World => Go.Lib.run_convert_bytes_const W 23 5 #[.int .u8 97] 1 1 T8.und Tryz.underlying5
 have hcv2 := Go.Lib.run_convert_bytes_const (w2.alloc (.cells #[.int .u8 97] 5 (1, 2))) 23 5 #[.int .u8 98] 1 1 T8.und Tryz.underlying5
 rw [World.size_alloc] at hcv2
 go_wp2_with fail
 clear hcv1 hcv2
 have hu3 : Upd [] w2 (((w2.alloc (.cells #[.int .u8 97] 5 (1, 2))).alloc (.cells #[.int .u8 98] 5 (1, 2))).alloc (.cells #[.int .u8 1, .slice (some ⟨w2.heap.size, 0, none⟩) 1 1, .int .u8 2, .slice (some ⟨w2.heap.size + 1, 0, none⟩) 1 1] 25 (0, 0))) := (((Upd.refl [] w2).alloc _).alloc _).alloc _
 have ht3 := heap_top ((w2.alloc (.cells #[.int .u8 97] 5 (1, 2))).alloc (.cells #[.int .u8 98] 5 (1, 2))) (.cells #[.int .u8 1, .slice (some ⟨w2.heap.size, 0, none⟩) 1 1, .int .u8 2, .slice (some ⟨w2.heap.size + 1, 0, none⟩) 1 1] 25 (0, 0))
 have ht2 := heap_keepA (.cells #[.int .u8 1, .slice (some ⟨w2.heap.size, 0, none⟩) 1 1, .int .u8 2, .slice (some ⟨w2.heap.size + 1, 0, none⟩) 1 1] 25 (0, 0)) (heap_top (w2.alloc (.cells #[.int .u8 97] 5 (1, 2))) (.cells #[.int .u8 98] 5 (1, 2)))
 have ht1 := heap_keepA (.cells #[.int .u8 1, .slice (some ⟨w2.heap.size, 0, none⟩) 1 1, .int .u8 2, .slice (some ⟨w2.heap.size + 1, 0, none⟩) 1 1] 25 (0, 0)) (heap_keepA (.cells #[.int .u8 98] 5 (1, 2)) (heap_top w2 (.cells #[.int .u8 97] 5 (1, 2))))
 rw [World.size_alloc] at ht2
 rw [World.size_alloc, World.size_alloc] at ht3
 generalize ((w2.alloc (.cells #[.int .u8 97] 5 (1, 2))).alloc (.cells #[.int .u8 98] 5 (1, 2))).alloc (.cells #[.int .u8 1, .slice (some ⟨w2.heap.size, 0, none⟩) 1 1, .int .u8 2, .slice (some ⟨w2.heap.size + 1, 0, none⟩) 1 1] 25 (0, 0)) = w3 at *
 obtain ⟨A, hA⟩ : ∃ A : List FrR, A = [⟨1, .slice (some ⟨w2.heap.size, 0, none⟩) 1 1, [97]⟩, ⟨2, .slice (some ⟨w2.heap.size + 1, 0, none⟩) 1 1, [98]⟩] := ⟨_, rfl⟩
 have hAm : A.map FrR.fr = twoF := by rw [hA]; rfl
 have hAl : A.length = 2 := by rw [hA]; rfl
 have hAd : ∀ x ∈ A, x.d.length = 1 ∧ Rd w3 x.dv x.d := by
  rw [hA]
  intro x hx
  rcases List.mem_cons.1 hx with e | hx
  ·rw [e]; exact ⟨rfl, rd_lit ht1 rfl⟩
  ·rw [List.mem_singleton.1 hx]; exact ⟨rfl, rd_lit ht2 rfl⟩
 have hrow : RdG cFr 2 w3 (.slice (some ⟨w2.heap.size + 1 + 1, 0, none⟩) 2 2) A := by
  have := rd_made TFr (l := A) (ty := 25) (by rw [hA]; exact ht3) (by omega)
  rwa [hAl] at this
 have hap := sappend_ok (K := []) (H2.out.keep hu3) (Nat.le_trans (by
  have := H2.out.log.lt lg (mem_lfoot.2 (.inl rfl)); omega) hu3.size) (by omega) hrow (fun x hx => (hAd x hx).2) (fun x hx => by have := (hAd x hx).1; omega) (by omega) (by simp) (by simp [openD]) (by simp [openD]) (fun _ => by rw [hAm]; rw [show (openD []).1 = [] from rfl, twoF_add.1]; decide) (by simp)
 have HAP := Lib.hid hap
 have HAm := Lib.hid (And.intro hAm (And.intro hAl fun x hx => (hAd x hx).1))
 clear hap hAd hrow ht1 ht2 ht3 hu3 hA hAm hAl H2 HO
 refine HAP.out.mono ?_
 rintro e w4 (⟨-, rfl, fv', sv', L', G', hl4, hL', -, -, -⟩ | ⟨⟨x, hx, hlong⟩, -, -⟩)
 ·rw [HAm.out.1, show (openD []).1 = [] from rfl, twoF_add.1] at hl4
  have H4 := Lib.hid hl4
  have HSg := Lib.hid (segs_ok w4 hl4.log (by simp))
  have hlen4 : ([] ++ L').length = 2 := by
   have := congrArg List.length hL'
   simpa [HAm.out.2.1] using this
  have hd4 : ∀ x ∈ [] ++ L', x.d.length ≤ 100000 := fun x hx => by
   have : x.fr ∈ L'.map FrR.fr := List.mem_map.2 ⟨x, by simpa using hx, rfl⟩
   rw [hL', HAm.out.1] at this
   have : x.d = [97] ∨ x.d = [98] := by
    simp only [twoF, List.mem_cons, List.not_mem_nil, or_false, FrR.fr, Prod.mk.injEq] at this
    exact this.imp (·.2) (·.2)
   rcases this with e | e <;> rw [e] <;> decide
  have HLen := Lib.hid fun (X : World) (u : Upd [] w4 X) => llen_ok X (hl4.log.keep u) (by rw [hlen4]; decide) hd4
  rw [hlen4] at HLen
  clear hl4 hL' hlen4 hd4
  go_wp2_with fail
  refine HSg.out.mono ?_
  rintro e w5 ⟨v5, rfl, ho5, hu5⟩
  rw [show [putFrame 1 [97] ++ putFrame 2 [98]].map List.length = [14] by rw [List.map_cons, twoF_add.2]; rfl] at ho5
  obtain ⟨c5, g5, hv5, hc5⟩ : ∃ c5 g5, v5 = .slice (some ⟨g5, 0, none⟩) 1 c5 ∧ ∀ X, Upd [] w5 X → X.cell? ⟨g5, 0, none⟩ = some (.int .i64 14) := by
   obtain ⟨a5, c5, rfl⟩ := ho5.slice
   obtain ⟨-, -, -, hat⟩ := ho5.at TI
   obtain ⟨g5, rfl, -, -, hca⟩ := hat 0 (by simp)
   exact ⟨c5, g5, rfl, fun X u => held1 u (hca 0 _ rfl)⟩
  subst hv5
  have H5 := Lib.hid (And.intro hc5 hu5)
  clear ho5 hc5 hu5
  go_wp2_with fail
  refine (HLen.out _ H5.out.2).mono ?_
  rintro e w6 ⟨rfl, hu6⟩
  have c6 := H5.out.1 _ hu6
  have HU6 := Lib.hid (((H4.out.keep H5.out.2).keep hu6).sg.upd)
  clear hu6
  go_wp2_with fail
  go_ret
  exact ⟨rfl, HU6.out⟩
 ·have := HAm.out.2.2 x hx
  omega
end Go.Proofs.YtgpefiacbipfpaaGreatDoor

namespace Go.Proofs.YtgpefiacbipfpaaGreatDoor
open Go.RowKit Go.Maps
structure SegX (w0 w : World) (v p room : Nat) (m ml : Nat → Option Bs) (c : Nat) (P : List Nat) : Prop where
 ex : ∃ (fs last : Files) (D : Dev) (k s : Nat) (X : Fsd), LSt w0 w v p D room k s fs last X ∧ k ≤ 3 + 2 * c ∧ D.wr ≤ 10000 + 50000 * c ∧ (∀ i ∈ X.fp v, i ∈ P) ∧ SegM fs m ∧ SegM last ml ∧ ∀ b ∈ allBlks last, b ∈ allBlks fs
section
variable {w0 w w' : World} {v p room c : Nat} {m ml : Nat → Option Bs} {G P : List Nat}
theorem SegV.idle (h : SegV w0 w v p room m ml c G) : ∃ P, SegX w0 w v p room m ml c P ∧ (∀ i ∈ P, i ∉ G ∧ w0.heap.size ≤ i ∧ i < w.heap.size) := by
 obtain ⟨fs, last, h1, h2, h3, h4⟩ := h.ex
 obtain ⟨D, k, s, X, g1, g2, g3, g4⟩ := h1.st
 exact ⟨X.fp v, ⟨fs, last, D, k, s, X, g1, g2, g3, fun _ h => h, h2, h3, h4⟩, fun i hi => ⟨fun q => g4 i q hi, g1.low i hi, g1.at_.lt i hi⟩⟩
theorem SegX.turn (h : SegX w0 w v p room m ml c P) {G : List Nat} (s : Stay G w w') (hP : ∀ i ∈ P, i ∈ G) (u0 : Upd [] w0 w') : SegX w0 w' v p room m ml c P := by
 obtain ⟨fs, last, D, k, s', X, g1, g2, g3, g4, h2, h3, h4⟩ := h.ex
 obtain ⟨F, u, hF⟩ := s
 exact ⟨fs, last, D, k, s', X, ⟨g1.at_.keep u fun i hi => hF i (hP i (g4 i hi)), g1.fuse, u0, g1.low⟩, g2, g3, g4, h2, h3, h4⟩
theorem SegX.live (h : SegX w0 w v p room m ml c P) (hG : ∀ i ∈ G, i ∉ P ∧ i < w.heap.size) : SegV w0 w v p room m ml c G := by
 obtain ⟨fs, last, D, k, s', X, g1, g2, g3, g4, h2, h3, h4⟩ := h.ex
 exact ⟨fs, last, ⟨⟨D, k, s', X, g1, g2, g3, fun i hi q => (hG i hi).1 (g4 i q)⟩, fun i hi => (hG i hi).2⟩, h2, h3, h4⟩
theorem SegX.base {w1 : World} (h : SegX w1 w v p room m ml c P) (u : Upd [] w0 w1) : SegX w0 w v p room m ml c P := by
 obtain ⟨fs, last, D, k, s', X, g1, g2, g3, g4, h2, h3, h4⟩ := h.ex
 exact ⟨fs, last, D, k, s', X, ⟨g1.at_, g1.fuse, u.trans g1.upd, fun i hi => Nat.le_trans u.size (g1.low i hi)⟩, g2, g3, g4, h2, h3, h4⟩
theorem SegX.upd (h : SegX w0 w v p room m ml c P) : Upd [] w0 w := by
 obtain ⟨fs, last, D, k, s', X, g1, -⟩ := h.ex
 exact g1.upd
end
structure TwoL (w W : World) (v1 p1 v2 p2 room : Nat) (ds1 ds2 : List Bs) (c1 c2 b1 b2 lg1 lg2 : Nat) (f1 s1 f2 s2 : Value) (L1 L2 : List FrR) (K : List Nat) : Prop where
 ex : ∃ P1 P2, SegX w W v1 p1 room (rowM ds1) (rowM ds1) c1 P1 ∧ SegX w W v2 p2 room (rowM ds2) (rowM ds2) c2 P2 ∧ (∀ i ∈ P1, i ∉ P2 ∧ i ∉ lfoot lg1 f1 s1 L1 ∧ i ∉ lfoot lg2 f2 s2 L2 ∧ i ∉ K ∧ i < W.heap.size) ∧ ∀ i ∈ P2, i ∉ lfoot lg1 f1 s1 L1 ∧ i ∉ lfoot lg2 f2 s2 L2 ∧ i ∉ K ∧ i < W.heap.size
 l1 : LogS W b1 lg1 v1 f1 s1 L1 (ds1.map List.length)
 l2 : LogS W b2 lg2 v2 f2 s2 L2 (ds2.map List.length)
 dj : ∀ i ∈ lfoot lg1 f1 s1 L1, i ∉ lfoot lg2 f2 s2 L2 ∧ i ∉ K
 dk : ∀ i ∈ lfoot lg2 f2 s2 L2, i ∉ K
 e1 : w.heap.size ≤ b1
 e2 : w.heap.size ≤ b2
 lt : ∀ i ∈ K, i < W.heap.size
section
variable {w W W' : World} {v1 p1 v2 p2 room c1 c2 b1 b2 lg1 lg2 : Nat} {ds1 ds2 : List Bs} {f1 s1 f2 s2 : Value} {L1 L2 : List FrR} {K : List Nat}
theorem TwoL.swap (h : TwoL w W v1 p1 v2 p2 room ds1 ds2 c1 c2 b1 b2 lg1 lg2 f1 s1 f2 s2 L1 L2 K) : TwoL w W v2 p2 v1 p1 room ds2 ds1 c2 c1 b2 b1 lg2 lg1 f2 s2 f1 s1 L2 L1 K := by
 obtain ⟨P1, P2, x1, x2, h1, h2⟩ := h.ex
 exact ⟨⟨P2, P1, x2, x1, fun i hi => ⟨fun q => (h1 i q).1 hi, (h2 i hi).2.1, (h2 i hi).1, (h2 i hi).2.2⟩, fun i hi => ⟨(h1 i hi).2.2.1, (h1 i hi).2.1, (h1 i hi).2.2.2⟩⟩, h.l2, h.l1, fun i hi => ⟨fun q => (h.dj i q).1 hi, h.dk i hi⟩, fun i hi => (h.dj i hi).2, h.e2, h.e1, h.lt⟩
theorem TwoL.upd (h : TwoL w W v1 p1 v2 p2 room ds1 ds2 c1 c2 b1 b2 lg1 lg2 f1 s1 f2 s2 L1 L2 K) : Upd [] w W := by
 obtain ⟨P1, P2, x1, -⟩ := h.ex
 exact x1.upd
theorem TwoL.fresh (h : TwoL w W v1 p1 v2 p2 room ds1 ds2 c1 c2 b1 b2 lg1 lg2 f1 s1 f2 s2 L1 L2 K) (u : Upd [] W W') : TwoL w W' v1 p1 v2 p2 room ds1 ds2 c1 c2 b1 b2 lg1 lg2 f1 s1 f2 s2 L1 L2 (newB W W' ++ K) := by
 obtain ⟨P1, P2, x1, x2, h1, h2⟩ := h.ex
 have hn : ∀ i, i < W.heap.size → i ∉ K → i ∉ newB W W' ++ K := fun i hi hk q => by
  rcases List.mem_append.1 q with q | q
  ·have := (mem_newB.1 q).1; omega
  ·exact hk q
 have us := u.size
 have u0 := h.upd.trans u
 exact ⟨⟨P1, P2, x1.turn (.of u) (fun _ h => h) u0, x2.turn (.of u) (fun _ h => h) u0, fun i hi => ⟨(h1 i hi).1, (h1 i hi).2.1, (h1 i hi).2.2.1, hn i (h1 i hi).2.2.2.2 (h1 i hi).2.2.2.1, Nat.lt_of_lt_of_le (h1 i hi).2.2.2.2 us⟩, fun i hi => ⟨(h2 i hi).1, (h2 i hi).2.1, hn i (h2 i hi).2.2.2 (h2 i hi).2.2.1, Nat.lt_of_lt_of_le (h2 i hi).2.2.2 us⟩⟩,
  h.l1.keep u, h.l2.keep u, fun i hi => ⟨(h.dj i hi).1, hn i (h.l1.lt i hi).2 (h.dj i hi).2⟩, fun i hi => hn i (h.l2.lt i hi).2 (h.dk i hi), h.e1, h.e2, fun i hi => by
   rcases List.mem_append.1 hi with q | q
   ·exact (mem_newB.1 q).2
   ·exact Nat.lt_of_lt_of_le (h.lt i q) us⟩
theorem TwoL.append1 (h : TwoL w W v1 p1 v2 p2 room ds1 ds2 c1 c2 b1 b2 lg1 lg2 f1 s1 f2 s2 L1 L2 K) (hbw : b1 ≤ W.heap.size) (hc : c1 ≤ 800000) {A : List FrR} {av : Value} (ha : RdFs W av A) (hA : ∀ x ∈ A, x.d.length ≤ 2000) (hAl : A.length ≤ 10000) (hL : L1.length ≤ 100000) (hdl : ds1.length ≤ 1000) (hds : ∀ d ∈ ds1, d.length ≤ 8192)
  (hroom : (addsD ds1 (A.map FrR.fr)).length ≤ 50 ∧ 16 * (addsD ds1 (A.map FrR.fr)).length + 5 ≤ room) :
  Calls Tryz.prog 18 #[.pointer (some ⟨lg1, 0, none⟩), av] W fun e W' => e = .returned (.int .i64 0) ∧ ∃ (f1' s1' : Value) (L' : List FrR), TwoL w W' v1 p1 v2 p2 room (addsD ds1 (A.map FrR.fr)) ds2 (c1 + A.length + 1) c2 b1 b2 lg1 lg2 f1' s1' f2 s2 (L1 ++ L') L2 K ∧ L'.map FrR.fr = A.map FrR.fr ∧ Stay K W W' := by
 obtain ⟨P1, P2, x1, x2, h1, h2⟩ := h.ex
 have hl1 := h.l1.lt
 have hl2 := h.l2.lt
 have hlv : LogV w W v1 p1 room ds1 c1 b1 lg1 f1 s1 L1 (lfoot lg1 f1 s1 L1 ++ (P2 ++ (lfoot lg2 f2 s2 L2 ++ K))) := by
  refine ⟨x1.live fun i hi => ?_, h.l1, fun i hi => List.mem_append_left _ hi, h.e1⟩
  rcases List.mem_append.1 hi with q | q
  ·exact ⟨fun e => (h1 i e).2.1 q, (hl1 i q).2⟩
  ·rcases List.mem_append.1 q with q | q
   ·exact ⟨fun e => (h1 i e).1 q, (h2 i q).2.2.2⟩
   ·rcases List.mem_append.1 q with q | q
    ·exact ⟨fun e => (h1 i e).2.2.1 q, (hl2 i q).2⟩
    ·exact ⟨fun e => (h1 i e).2.2.2.1 q, h.lt i q⟩
 refine (sappend_ok (K := P2 ++ (lfoot lg2 f2 s2 L2 ++ K)) hlv hbw hc ha.row ha.dat (fun x hx => by have := hA x hx; omega) hAl hL hdl hds (fun _ => hroom) fun i hi => ⟨List.mem_append_right _ hi, fun e => ?_⟩).mono ?_
 ·rcases List.mem_append.1 hi with q | q
  ·exact (h2 i q).1 e
  ·rcases List.mem_append.1 q with q | q
   ·exact (h.dj i e).1 q
   ·exact (h.dj i e).2 q
 ·rintro e W' (⟨-, rfl, f1', s1', L', G', hlv', hL', hG', hst, hnew⟩ | ⟨⟨x, hx, hlong⟩, -, -⟩)
  ·obtain ⟨P1', x1', hP1'⟩ := hlv'.sg.idle
   have hin : ∀ i, i ∈ P2 ++ (lfoot lg2 f2 s2 L2 ++ K) → i ∉ P1' := fun i hi q => (hP1' i q).1 (hG' i (List.mem_append_right _ hi))
   have hout : ∀ i, i ∈ P2 ++ (lfoot lg2 f2 s2 L2 ++ K) → i ∉ lfoot lg1 f1' s1' (L1 ++ L') := fun i hi q => by
    have hlt : i < W.heap.size := by
     rcases List.mem_append.1 hi with q | q
     ·exact (h2 i q).2.2.2
     ·rcases List.mem_append.1 q with q | q
      ·exact (hl2 i q).2
      ·exact h.lt i q
    rcases hnew i q with e | e
    ·rcases List.mem_append.1 hi with q | q
     ·exact (h2 i q).1 e
     ·rcases List.mem_append.1 q with q | q
      ·exact (h.dj i e).1 q
      ·exact (h.dj i e).2 q
    ·omega
   have u0 := hlv'.sg.upd
   have hsz := hst.size
   have m2 : ∀ i, i ∈ P2 → i ∈ P2 ++ (lfoot lg2 f2 s2 L2 ++ K) := fun i hi => List.mem_append_left _ hi
   have ml : ∀ i, i ∈ lfoot lg2 f2 s2 L2 → i ∈ P2 ++ (lfoot lg2 f2 s2 L2 ++ K) := fun i hi => List.mem_append_right _ (List.mem_append_left _ hi)
   have mk : ∀ i, i ∈ K → i ∈ P2 ++ (lfoot lg2 f2 s2 L2 ++ K) := fun i hi => List.mem_append_right _ (List.mem_append_right _ hi)
   refine ⟨rfl, f1', s1', L', ⟨⟨P1', P2, x1', x2.turn hst m2 u0, fun i hi => ⟨fun q => hin i (m2 i q) hi, fun q => (hP1' i hi).1 (hlv'.foot i q), fun q => hin i (ml i q) hi, fun q => hin i (mk i q) hi, (hP1' i hi).2.2⟩, fun i hi => ⟨hout i (m2 i hi), (h2 i hi).2.1, (h2 i hi).2.2.1, Nat.lt_of_lt_of_le (h2 i hi).2.2.2 hsz⟩⟩,
    hlv'.log, h.l2.stay hst ml, fun i hi => ⟨fun q => hout i (ml i q) hi, fun q => hout i (mk i q) hi⟩, h.dk, h.e1, h.e2, fun i hi => Nat.lt_of_lt_of_le (h.lt i hi) hsz⟩, hL', hst.sub mk⟩
  ·have := hA x hx
   omega
end
theorem two_laid (w : World) {w2 w3 : World} (u2 : Upd [] w w2) {v1 p1 v2 p2 room : Nat} (h1 : SegV w w2 v1 p1 room (rowM []) (rowM []) 0 []) (h2 : SegV w2 w3 v2 p2 room (rowM []) (rowM []) 0 []) (u3 : Upd [] w2 w3) (hr : 17 ≤ room) :
  Calls Tryz.prog 15 #[.pointer (some ⟨v1, 0, none⟩)] w3 fun e w4 => ∃ lg1, e = .returned (.tuple #[.pointer (some ⟨lg1, 0, none⟩), .int .i64 0]) ∧
   Calls Tryz.prog 15 #[.pointer (some ⟨v2, 0, none⟩)] w4 fun e w5 => ∃ lg2, e = .returned (.tuple #[.pointer (some ⟨lg2, 0, none⟩), .int .i64 0]) ∧ ∃ (b1 b2 : Nat) (f1 s1 f2 s2 : Value), TwoL w w5 v1 p1 v2 p2 room [] [] 2 2 b1 b2 lg1 lg2 f1 s1 f2 s2 [] [] [] ∧ b1 ≤ w5.heap.size ∧ b2 ≤ w5.heap.size := by
 obtain ⟨P2, x2, hP2⟩ := h2.idle
 have x2 := x2.base u2
 have hs1 := h1.guard u3 (G' := P2) fun b hb => ⟨(hP2 b hb).2.1, (hP2 b hb).2.2⟩
 refine (sopen_ok (k := 16) hs1 (by omega) (by omega) (by simp) (by simp) (by omega) (by simp; omega)).mono ?_
 rintro e w4 ⟨lg1, f1, s1, L1, G1, rfl, hl1, hf1, hG1, hst1⟩
 obtain rfl : L1 = [] := by
  have := congrArg List.length hf1
  simpa [openD] using this
 refine ⟨lg1, rfl, ?_⟩
 have x2 := x2.turn hst1 (fun i hi => List.mem_append_left _ hi) hl1.sg.upd
 obtain ⟨P1, x1, hP1⟩ := hl1.sg.idle
 have hlt1 := hl1.log.lt
 have hs2 := x2.live (G := P1 ++ lfoot lg1 f1 s1 []) fun i hi => by
  rcases List.mem_append.1 hi with q | q
  ·exact ⟨fun e => (hP1 i q).1 (hG1 i (List.mem_append_left _ e)), (hP1 i q).2.2⟩
  ·exact ⟨fun e => by have := (hP2 i e).2.2; have := (hlt1 i q).1; omega, (hlt1 i q).2⟩
 refine (sopen_ok (k := 16) hs2 (by omega) (by omega) (by simp) (by simp) (by omega) (by simp; omega)).mono ?_
 rintro e w5 ⟨lg2, f2, s2, L2, G2, rfl, hl2, hf2, hG2, hst2⟩
 obtain rfl : L2 = [] := by
  have := congrArg List.length hf2
  simpa [openD] using this
 have x1 := x1.turn hst2 (fun i hi => List.mem_append_left _ hi) hl2.sg.upd
 obtain ⟨P2', x2', hP2'⟩ := hl2.sg.idle
 have hlt2 := hl2.log.lt
 have hz := hst2.size
 have hz1 := hst1.size
 refine ⟨lg2, rfl, w3.heap.size, w4.heap.size, f1, s1, f2, s2, ⟨⟨P1, P2', x1, x2', fun i hi => ⟨fun q => (hP2' i q).1 (hG2 i (List.mem_append_left _ hi)), fun q => (hP1 i hi).1 (hl1.foot i q), fun q => by have := (hP1 i hi).2.2; have := (hlt2 i q).1; omega, by simp, Nat.lt_of_lt_of_le (hP1 i hi).2.2 hz⟩,
  fun i hi => ⟨fun q => (hP2' i hi).1 (hG2 i (List.mem_append_right _ q)), fun q => (hP2' i hi).1 (hl2.foot i q), by simp, (hP2' i hi).2.2⟩⟩, hl1.log.stay hst2 fun i hi => List.mem_append_right _ hi, hl2.log, fun i hi => ⟨fun q => by have := (hlt1 i hi).2; have := (hlt2 i q).1; omega, by simp⟩, by simp, hl1.low, hl2.low, by simp⟩, by omega, by omega⟩
end Go.Proofs.YtgpefiacbipfpaaGreatDoor

namespace Go.Proofs.YtgpefiacbipfpaaGreatDoor
open Go.RowKit Go.Maps
theorem frs_len {L M : List FrR} (h : L.map FrR.fr = M.map FrR.fr) {k : Nat} (hm : ∀ x ∈ M, x.d.length ≤ k) : ∀ x ∈ L, x.d.length ≤ k := fun x hx => by
 have : x.fr ∈ M.map FrR.fr := by rw [← h]; exact List.mem_map.2 ⟨x, hx, rfl⟩
 obtain ⟨y, hy, e⟩ := List.mem_map.1 this
 have := hm y hy
 rw [show x.d = y.d from congrArg (·.2) e.symm]
 exact this
theorem addsD_few {l : List Frm} (hl : ∀ x ∈ l, x.2.length ≤ 2000) {n : Nat} (hn : (l.map (·.2.length)).sum + 7 * l.length ≤ n) : 6186 * (addsD [] l).length ≤ n + 6185 := by
 have h1 := full_len (addsD_full hl full_nil)
 have h2 := addsD_sum l []
 have h3 := encF_le hl
 simp at h2
 omega
theorem RdFs.one {w : World} {g n c : Nat} {L : List FrR} (h : RdFs w (.slice (some ⟨g, 0, none⟩) n c) L) {j : Nat} {x : FrR} (hx : L[j]? = some x) (hc : c ≤ 9223372036854775807) (hj : j < c) : RdFs w (.slice (some ⟨g, j * 2, none⟩) 1 (c - j)) [x] := by
 obtain ⟨b, off, e, h0, h1, hr⟩ := h.at hx
 cases e
 refine ⟨⟨⟨some ⟨g, j * 2, none⟩, c - j, rfl, by show 1 ≤ c - j; omega, by unfold maxLen; omega, fun i hi => ⟨g, j * 2, rfl, fun k u hu => ?_⟩⟩, fun n c e => by cases e⟩, by simp only [List.mem_singleton, forall_eq]; exact hr⟩
 obtain rfl : i = 0 := by simpa using hi
 rw [Nat.zero_add] at h0 h1
 match k with
 | 0 => rw [← hu]; exact h0
 | 1 => rw [← hu]; exact h1
 | k + 2 => cases hu
structure PartL (w wr : World) (base : Nat) (pv : Value) (PL : List FrR) (bytes i : Nat) : Prop where
 own : OwFr wr base pv PL
 dat : ∀ x ∈ PL, Rd w x.dv x.d ∧ x.d.length ≤ 2000
 sum : (PL.map (·.d.length)).sum = bytes
 few : PL.length ≤ i
set_option maxRecDepth 100000 in
set_option maxHeartbeats 8000000 in
theorem groups_walk (w : World) {aa : Option Addr} {n ac : Nat} {A : List FrR} (hA : RdFs w (.slice aa n ac) A) (hn : n = A.length) :
  Calls Tryz.prog 4 #[.slice aa n ac] w fun e w' => e = .returned (.bool true) ∧ Upd [] w w' := by
 have HA := Lib.hid hA
 have HN := Lib.hid hn
 have HAw := Lib.hid (sawake_ok w)
 clear hA hn
 go_enter Tryz.func4, Tryz.ntmps4
 go_wp2_with fail
 refine HAw.out.mono ?_
 rintro e w1 ⟨rfl, hu1⟩
 have HL1 := Lib.hid (seg_laid w hu1 200 (by omega) (by omega))
 clear hu1
 go_wp2_with fail
 refine HL1.out.mono ?_
 rintro e w2 ⟨p1, v1, rfl, hs1, hu2⟩
 have HU2 := Lib.hid hs1.upd
 have HS1 := Lib.hid hs1
 have HL2 := Lib.hid (seg_laid w2 (Upd.refl [] w2) 200 (by omega) (by omega))
 clear hs1 hu2
 go_wp2_with fail
 refine HL2.out.mono ?_
 rintro e w3 ⟨p2, v2, rfl, hs2, hu3⟩
 have HO := Lib.hid (two_laid w HU2.out HS1.out hs2 hu3 (by omega))
 clear hs2 hu3 HL1 HL2 HS1 HU2 HAw
 go_wp2_with fail
 refine HO.out.mono ?_
 rintro e w4 ⟨lg1, rfl, hO2⟩
 have HO2 := Lib.hid hO2
 clear hO2 HO
 go_wp2_with fail
 refine HO2.out.mono ?_
 rintro e w5 ⟨lg2, rfl, b1, b2, f1, s1, f2, s2, hT, hb1, hb2⟩
 have H5 := Lib.hid (And.intro hT (And.intro hb1 hb2))
 clear hT hb1 hb2 HO2
 go_wp2_with fail
 go_loopg [12, 13, 14] 41 (fun gh s12 s13 s14 wr => ∃ (i bytes : Nat) (PL : List FrR), s14 = .int .i64 i ∧ s13 = .int .i64 bytes ∧ i ≤ n ∧ i ≤ 40 ∧ gh = 41 - i ∧ bytes ≤ 22000 ∧ Hid (Upd [] w5 wr ∧ PartL w wr w5.heap.size s12 PL bytes i))
 case atStart => exact ⟨0, 0, [], rfl, rfl, Nat.zero_le _, by omega, rfl, by omega, Lib.hid ⟨Upd.refl _ _, OwnG.nil _ _, by simp, rfl, Nat.le_refl _⟩⟩
 case round =>
  obtain ⟨i, bytes, PL, rfl, rfl, hin, hi40, rfl, hby, HS⟩ := hrel
  obtain ⟨pa, pc, pm, hpm, rfl⟩ := HS.out.2.own.sliceM
  have HPM := Lib.hid hpm
  clear hpm
  by_cases hgo : i < n ∧ i < 40
  ·obtain ⟨hlt, h40⟩ := hgo
   have hlt' : (i : Int) < (n : Int) := by omega
   have h40' : (i : Int) < 40 := by omega
   all_goals
    obtain ⟨x, hx⟩ : ∃ x, A[i]? = some x := ⟨_, List.getElem?_eq_getElem (by rw [← HN.out]; exact hlt)⟩
    have hu0 : Upd [] w wr := H5.out.1.upd.trans HS.out.1
    obtain ⟨b, off, rfl, d0, d1, hrd⟩ := HA.out.at hx
    have hrd0 := HA.out.dat x (List.mem_of_getElem? hx)
    obtain ⟨xa, xc, hxd, -⟩ := hrd.slice
    obtain ⟨xm, hxl⟩ : ∃ xm, xm = x.d.length := ⟨_, rfl⟩
    rw [← hxl] at hxd
    rw [hxd] at d1 hrd0
    have p0 := held1 hu0 d0
    have p1 := held1 hu0 d1
    have HX := Lib.hid (And.intro hrd0 (And.intro hxl hxd))
    have HD := Lib.hid (And.intro d0 d1)
    clear hx hrd hrd0 hxl hxd hu0 d0 d1
    by_cases hs : xm ≤ 2000
    ·have hs' : (xm : Int) ≤ 2000 := by omega
     by_cases hb : bytes < 20000
     ·have hb' : (bytes : Int) < 20000 := by omega
      go_wp2_with (first
       | (at_builtin; refine wpList_append_G TFr rfl _ _ rfl (base := w5.heap.size) (l := PL) (r := [⟨x.k, .slice xa xm xc, x.d⟩]) (by rfl) (HS.out.2.own.upd ((Upd.refl [] wr).alloc _) (by simp)) (by rfl) (src_new TFr (ty := 25) (B := wr.heap.size) (heap_top' _ _ _ rfl)) (oneFr (w := w) (by simp only [List.mem_singleton, forall_eq]; exact HX.out.1)) ?c1 ?c2 ?c3 ?_)
       | fail)
      case c1 => have := HS.out.2.few; simp; omega
      case c2 => have := HS.out.2.few; simp; omega
      case c3 => have := HS.out.1.size; simp; omega
      intro v4 w6 ho4 hg4 hn4
      have hu6 : Upd [] w5 w6 := (HS.out.1.alloc _).grown hg4 (fun g hg => (HS.out.2.own.block g hg).1)
      have hP : PartL w w6 w5.heap.size v4 (PL ++ [⟨x.k, .slice xa xm xc, x.d⟩]) (bytes + xm) (i + 1) := ⟨ho4, fun y hy => by
       rcases List.mem_append.1 hy with q | q
       ·exact HS.out.2.dat y q
       ·rw [List.mem_singleton.1 q]; exact ⟨HX.out.1, by show x.d.length ≤ 2000; rw [← HX.out.2.1]; exact hs⟩, by
        rw [List.map_append, List.sum_append, HS.out.2.sum]; simp [← HX.out.2.1], by have := HS.out.2.few; simp; omega⟩
      have H6 := Lib.hid (And.intro hu6 hP)
      have q0 := held1 (H5.out.1.upd.trans hu6) HD.out.1
      have q1 := held1 (H5.out.1.upd.trans hu6) HD.out.2
      obtain ⟨a4, c4, m4, hm4, rfl⟩ := ho4.sliceM
      clear ho4 hg4 hn4 hu6 hP hm4
      go_wp2_with fail
      go_roundg (41 - (i + 1))
      case measure => omega
      case rel => exact ⟨i + 1, bytes + xm, _, by go_num, by go_num, by omega, by omega, rfl, by omega, H6⟩
     ·have hb' : ¬ (bytes : Int) < 20000 := by omega
      go_wp2_with fail
      go_roundg (41 - (i + 1))
      case measure => omega
      case rel => exact ⟨i + 1, bytes, PL, by go_num, rfl, by omega, by omega, rfl, hby, Lib.hid ⟨HS.out.1, HS.out.2.own, HS.out.2.dat, HS.out.2.sum, Nat.le_succ_of_le HS.out.2.few⟩⟩
    ·have hs' : ¬ (xm : Int) ≤ 2000 := by omega
     go_wp2_with fail
     go_roundg (41 - (i + 1))
     case measure => omega
     case rel => exact ⟨i + 1, bytes, PL, by go_num, rfl, by omega, by omega, rfl, hby, Lib.hid ⟨HS.out.1, HS.out.2.own, HS.out.2.dat, HS.out.2.sum, Nat.le_succ_of_le HS.out.2.few⟩⟩
  ·rcases Nat.lt_or_ge i n with hlt | hlt
   case' inl =>
    have hlt' : (i : Int) < (n : Int) := by omega
    have h40' : ¬ (i : Int) < 40 := by omega
    go_upto_region 18 with (fail)
    clear h40'
   case' inr =>
    have hlt' : ¬ (i : Int) < (n : Int) := by omega
    go_upto_region 18 with (fail)
   all_goals
    clear hlt' hlt hgo
    have hsmall : ∀ x ∈ PL, x.d.length ≤ 2000 := fun x hx => (HS.out.2.dat x hx).2
    have hfew : 6186 * (addsD [] (PL.map FrR.fr)).length ≤ 22280 + 6185 := addsD_few (fun x hx => by
     obtain ⟨y, hy, rfl⟩ := List.mem_map.1 hx
     exact hsmall y hy) (by
     have := HS.out.2.sum
     have e : (PL.map FrR.fr).map (·.2.length) = PL.map (·.d.length) := by rw [List.map_map]; rfl
     rw [e, this, List.length_map]; have := HS.out.2.few; omega)
    have hRd : RdFs wr (.slice pa pm pc) PL := ⟨OwnG.rd TFr HS.out.2.own, fun x hx => (HS.out.2.dat x hx).1.keep (H5.out.1.upd.trans HS.out.1)⟩
    have hpl : PL.length ≤ 40 := Nat.le_trans HS.out.2.few hi40
    have HT := Lib.hid (H5.out.1.fresh HS.out.1)
    have HAp := Lib.hid (HT.out.append1 (Nat.le_trans H5.out.2.1 HS.out.1.size) (by omega) hRd hsmall (by omega) (by simp) (by simp) (by simp) (by omega))
    have HPL := Lib.hid (And.intro hsmall (And.intro hfew hpl))
    have hpk : ∀ g, (Value.slice pa pm pc).ownBlock = some g → g ∈ newB w5 wr ++ [] := fun g hg => List.mem_append_left _ (mem_newB.2 (HS.out.2.own.block g hg))
    have HRow := Lib.hid (And.intro hRd hpk)
    generalize hK : newB w5 wr ++ [] = K at *
    clear hK hsmall hfew hRd hpl hpk
    go_wp2_with fail
    refine HAp.out.mono ?_
    rintro e w6 ⟨rfl, f1', s1', L1, hT6, hL1, hst6⟩
    have H6 := Lib.hid (And.intro hT6 (And.intro hL1 hst6))
    clear hT6 hL1 hst6 HAp
    obtain ⟨wv, hwv⟩ : ∃ x, x = wr := ⟨_, rfl⟩
    subst hwv
    go_wp2_with fail
    go_loopg [16] (pm + 1) (fun gh s16 wq => ∃ j : Nat, s16 = .int .i64 j ∧ j ≤ pm ∧ gh = pm + 1 - j ∧ Hid (∃ f2' s2' L2, TwoL w wq v1 p1 v2 p2 (200 - 36) (addsD [] (PL.map FrR.fr)) (addsD [] ((PL.map FrR.fr).take j)) (2 + PL.length + 1) (2 + 2 * j) b1 b2 lg1 lg2 f1' s1' f2' s2' ([] ++ L1) L2 K ∧ L2.map FrR.fr = (PL.map FrR.fr).take j ∧ Stay K wv wq))
    case atStart => exact ⟨0, rfl, Nat.zero_le _, rfl, Lib.hid ⟨_, _, [], H6.out.1, rfl, H6.out.2.2⟩⟩
    case round =>
     obtain ⟨j, rfl, hj, rfl, hS2⟩ := hrel
     obtain ⟨f2', s2', L2, hS2⟩ := hS2.out
     have HS2 := Lib.hid hS2
     clear hS2
     by_cases hjm : j < pm
     ·have hjm' : (j : Int) < (pm : Int) := by omega
      have hjm2 : (j : Int) + 1 ≤ (pm : Int) := by omega
      have hjl : j < PL.length := by rw [← HPM.out]; exact hjm
      obtain ⟨x, hx⟩ : ∃ x, PL[j]? = some x := ⟨_, List.getElem?_eq_getElem hjl⟩
      have hrq : RdFs wr (.slice pa pm pc) PL := ⟨by
       obtain ⟨F, u, hF⟩ := HS2.out.2.2
       exact HRow.out.1.row.upd TFr u fun g hg => hF g (HRow.out.2 g hg), fun y hy => (HS.out.2.dat y hy).1.keep HS2.out.1.upd⟩
      obtain ⟨pa', pc', hpv, hpc, hpc2, -⟩ := hrq.row.slice
      simp only [Value.slice.injEq] at hpv
      obtain ⟨rfl, -, rfl⟩ := hpv
      obtain ⟨-, -, -, hat⟩ := HS.out.2.own.at TFr
      obtain ⟨g, rfl, -, -, -⟩ := hat j hjl
      have hjc : j < pc := by omega
      have hone := hrq.one hx hpc2 hjc
      have hxs := HPL.out.1 x (List.mem_of_getElem? hx)
      have hpx : (PL.map FrR.fr)[j]? = some x.fr := by rw [List.getElem?_map, hx]; rfl
      have hDe : addsD (addsD [] ((PL.map FrR.fr).take j)) ([x].map FrR.fr) = addsD [] ((PL.map FrR.fr).take (j + 1)) := by
       rw [← addsD_app, List.take_add_one, hpx]; rfl
      have hmid := addsD_mid [] (PL.map FrR.fr) (j + 1)
      have hmid0 := addsD_mid [] (PL.map FrR.fr) j
      have hfew := HPL.out.2.1
      have hl2 : L2.length ≤ 40 := by
       have h1 := congrArg List.length HS2.out.2.1
       rw [List.length_map, List.length_take, List.length_map] at h1
       have := HPL.out.2.2; omega
      have h8 := addsD_le (l := (PL.map FrR.fr).take j) (ds := []) (fun z hz => by
       obtain ⟨t, ht, rfl⟩ := List.mem_map.1 (List.mem_of_mem_take hz)
       exact HPL.out.1 t ht) (by simp)
      have hb2 : b2 ≤ wr.heap.size := Nat.le_trans H5.out.2.2 (Nat.le_trans HS.out.1.size HS2.out.2.2.size)
      have hap := HS2.out.1.swap.append1 hb2 (by have := HPL.out.2.2; have := HPM.out; omega) hone (by simp only [List.mem_singleton, forall_eq]; exact hxs) (by simp) (by omega) (by omega) h8 (by rw [hDe]; omega)
      rw [hDe] at hap
      have HAp2 := Lib.hid hap
      have hjm3 : (j : Int) + 1 ≤ (pc : Int) := by omega
      have hjn : (j : Int) ≤ (j : Int) + 1 := by omega
      have hjn0 : (0 : Int) ≤ (j : Int) + 1 := by omega
      have hpj : ¬ pc = j := by omega
      have hw1 : IntKind.i64.wrap ((j : Int) + 1) = (j : Int) + 1 := by rw [IntKind.wrap_i64]; omega
      have hw2 : ((j : Int) + 1).toNat = j + 1 := by omega
      have hw3 : j + 1 - j = 1 := by omega
      have HX := Lib.hid hx
      clear hone hxs hDe hmid hmid0 hfew hl2 h8 hap hrq hat hx hpx
      go_wp2_with fail
      refine HAp2.out.mono ?_
      rintro e w7 ⟨rfl, f2'', s2'', L2', hT7, hL7, hst7⟩
      have H7 : Hid (∃ f2' s2' L2, TwoL w w7 v1 p1 v2 p2 (200 - 36) (addsD [] (PL.map FrR.fr)) (addsD [] ((PL.map FrR.fr).take (j + 1))) (2 + PL.length + 1) (2 + 2 * (j + 1)) b1 b2 lg1 lg2 f1' s1' f2' s2' ([] ++ L1) L2 K ∧ L2.map FrR.fr = (PL.map FrR.fr).take (j + 1) ∧ Stay K wv w7) := Lib.hid (by
       have hpx : (PL.map FrR.fr)[j]? = some x.fr := by rw [List.getElem?_map, HX.out]; rfl
       refine ⟨_, _, _, hT7.swap, ?_, HS2.out.2.2.trans hst7⟩
       rw [List.map_append, HS2.out.2.1, hL7, List.take_add_one, hpx]; rfl)
      clear hT7 hL7 hst7
      go_wp2_with fail
      go_roundg (pm + 1 - (j + 1))
      case measure => omega
      case rel => exact ⟨j + 1, by go_num, by omega, rfl, H7⟩
     ·obtain rfl : j = pm := by omega
      have hjm' : ¬ (j : Int) < (j : Int) := Int.lt_irrefl _
      have htk : (PL.map FrR.fr).take j = PL.map FrR.fr := List.take_of_length_le (by rw [List.length_map, ← HPM.out]; exact Nat.le_refl _)
      rw [htk] at HS2
      have hLl : ([] ++ L1).map FrR.fr = PL.map FrR.fr := H6.out.2.1
      have hn1 : ([] ++ L1).length = j := by
       have := congrArg List.length hLl
       rw [List.length_map, List.length_map, ← HPM.out] at this; exact this
      have hn2 : L2.length = j := by
       have := congrArg List.length HS2.out.2.1
       rw [List.length_map, List.length_map, ← HPM.out] at this; exact this
      have hj40 : j ≤ 40 := by have := HPL.out.2.2; have := HPM.out; omega
      have hz1 := frs_len hLl HPL.out.1
      have hz2 := frs_len HS2.out.2.1 HPL.out.1
      have HF1 := Lib.hid (frames_ok wr 100 (by omega) HS2.out.1.l1 (by omega) (fun x hx => by have := hz1 x hx; omega))
      have HF2 := Lib.hid fun (X : World) (u : Upd [] wr X) => frames_ok X 100 (by omega) (HS2.out.1.l2.keep u) (by omega) (fun x hx => by have := hz2 x hx; omega)
      have hdl : (addsD [] (PL.map FrR.fr)).length ≤ 100 := by have := HPL.out.2.1; omega
      have HG1 := Lib.hid fun (X : World) (u : Upd [] wr X) => segs_ok X (HS2.out.1.l1.keep u) (by rw [List.length_map]; omega)
      have HG2 := Lib.hid fun (X : World) (u : Upd [] wr X) => segs_ok X (HS2.out.1.l2.keep u) (by rw [List.length_map]; omega)
      have HLn := Lib.hid fun (X : World) (u : Upd [] wr X) => llen_ok X (HS2.out.1.l1.keep u) (by omega) (fun x hx => by have := hz1 x hx; omega)
      have HE := Lib.hid (And.intro hLl (And.intro hn1 (And.intro hn2 hj40)))
      rw [hn1] at HLn
      clear htk hLl hn1 hn2 hz1 hz2 hdl hj40
      go_wp2_with fail
      refine HF1.out.mono ?_
      rintro e w8 ⟨v8, F1, rfl, hf8, he8, hu8⟩
      obtain ⟨a8, c8, m8, hm8, rfl⟩ := hf8.s.own.sliceM
      have H8 := Lib.hid (And.intro hf8 (And.intro he8 hu8))
      clear hf8 he8 hu8 hm8
      go_wp2_with fail
      refine (HF2.out _ H8.out.2.2).mono ?_
      rintro e w9 ⟨v9, F2, rfl, hf9, he9, hu9⟩
      obtain ⟨a9, c9, m9, hm9, rfl⟩ := hf9.s.own.sliceM
      have heq : F1.map FrR.fr = PL.map FrR.fr ∧ F2.map FrR.fr = PL.map FrR.fr := by
       rw [H8.out.2.1, he9, HE.out.1, HS2.out.2.1, List.take_of_length_le (by rw [List.length_map, ← HPM.out]; have := HE.out.2.2.2; omega)]
       exact ⟨rfl, rfl⟩
      have hsf := same_frames w9 (H8.out.1.keep hu9).s.rdfs hf9.s.rdfs (fun x hx => by have := frs_len heq.1 HPL.out.1 x hx; omega) (fun x hx => by have := frs_len heq.2 HPL.out.1 x hx; omega)
      rw [heq.1, heq.2, decide_eq_true rfl] at hsf
      have HSF := Lib.hid hsf
      have HU9 := Lib.hid (H8.out.2.2.trans hu9)
      clear hf9 he9 hu9 hm9 heq hsf
      go_wp2_with fail
      refine HSF.out.mono ?_
      rintro e w10 ⟨rfl, hu10⟩
      have HU10 := Lib.hid (HU9.out.trans hu10)
      clear hu10
      go_wp2_with fail
      refine (HG1.out _ HU10.out).mono ?_
      rintro e w11 ⟨v11, rfl, ho11, hu11⟩
      obtain ⟨a11, c11, m11, hm11, rfl⟩ := ho11.sliceM
      have H11 := Lib.hid (And.intro ho11 (HU10.out.trans hu11))
      clear ho11 hu11 hm11
      go_wp2_with fail
      refine (HG2.out _ H11.out.2).mono ?_
      rintro e w12 ⟨v12, rfl, ho12, hu12⟩
      obtain ⟨a12, c12, m12, hm12, rfl⟩ := ho12.sliceM
      have hsi := same_ints w12 (OwnG.rd TI (H11.out.1.upd hu12 (by simp))) (OwnG.rd TI ho12)
      rw [decide_eq_true rfl] at hsi
      have HSI := Lib.hid hsi
      have HU12 := Lib.hid (H11.out.2.trans hu12)
      clear ho12 hu12 hm12 hsi
      go_wp2_with fail
      refine HSI.out.mono ?_
      rintro e w13 ⟨rfl, hu13⟩
      have HU13 := Lib.hid (HU12.out.trans hu13)
      clear hu13
      go_wp2_with fail
      refine (HLn.out _ HU13.out).mono ?_
      rintro e w14 ⟨rfl, hu14⟩
      have HU14 := Lib.hid (HS2.out.1.upd.trans (HU13.out.trans hu14))
      clear hu14
      go_wp2_with fail
      go_ret
      exact ⟨rfl, HU14.out⟩
end Go.Proofs.YtgpefiacbipfpaaGreatDoor
