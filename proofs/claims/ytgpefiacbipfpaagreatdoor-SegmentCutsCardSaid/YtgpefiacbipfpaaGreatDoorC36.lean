/- Segment: SameFrames, SameInts, Segments. Segment: a device is laid; awake; all is opened anew. The document's names of segments. Segment: behind a crash all is opened anew. -/
import Derived.Lib.SlBytesConst
import Derived.Test.YtgpefiacbipfpaaGreatDoorC34
import Derived.Test.YtgpefiacbipfpaaGreatDoorC35
import Derived.Test.YtgpefiacbipfpaaGreatDoorC31
import Derived.Test.YtgpefiacbipfpaaGreatDoorC32
import Derived.Test.YtgpefiacbipfpaaGreatDoorC12
import Derived.Test.YtgpefiacbipfpaaGreatDoorC30
namespace Go.Proofs.YtgpefiacbipfpaaGreatDoor
open Go.RowKit Go.Maps
structure RdFs (w : World) (v : Value) (L : List FrR) : Prop where
 row : RdG cFr 2 w v L
 dat : ∀ x ∈ L, Rd w x.dv x.d
theorem RdFs.keep {w w' : World} {v : Value} {L : List FrR} (h : RdFs w v L) (u : Upd [] w w') : RdFs w' v L := ⟨h.row.keep TFr u, fun x hx => (h.dat x hx).keep u⟩
theorem FrsS.rdfs {w : World} {base : Nat} {v : Value} {L : List FrR} (h : FrsS w base v L) : RdFs w v L := ⟨OwnG.rd TFr h.own, h.dat⟩
theorem RdFs.at {w : World} {a : Option Addr} {n c : Nat} {L : List FrR} (h : RdFs w (.slice a n c) L) {i : Nat} {x : FrR} (hx : L[i]? = some x) : ∃ b off, a = some ⟨b, off, none⟩ ∧ w.cell? ⟨b, off + i * 2, none⟩ = some (.int .u8 x.k.toNat) ∧ w.cell? ⟨b, off + i * 2 + 1, none⟩ = some x.dv ∧ Rd w x.dv x.d := by
 obtain ⟨a', c', hv, -, -, hcell⟩ := h.row.sl
 simp only [Value.slice.injEq] at hv
 obtain ⟨rfl, -, -⟩ := hv
 obtain ⟨hi, rfl⟩ := List.getElem?_eq_some_iff.1 hx
 obtain ⟨b, off, e, hc⟩ := hcell i hi
 exact ⟨b, off, e, by have := hc 0 _ rfl; rwa [Nat.add_zero] at this, hc 1 _ rfl, h.dat _ (List.getElem_mem hi)⟩
theorem take_next {α : Type} {l m : List α} {i : Nat} {x y : α} (hl : l[i]? = some x) (hm : m[i]? = some y) (h : l.take i = m.take i) (e : x = y) : l.take (i + 1) = m.take (i + 1) := by
 rw [List.take_add_one, List.take_add_one, hl, hm, h, e]
set_option maxRecDepth 100000 in
set_option maxHeartbeats 4000000 in
theorem same_frames (w : World) {va vb : Value} {l m : List FrR} (ha : RdFs w va l) (hb : RdFs w vb m) (hla : ∀ x ∈ l, x.d.length ≤ 100000000) (hlb : ∀ x ∈ m, x.d.length ≤ 100000000) :
  Calls Tryz.prog 16 #[va, vb] w fun e w' => e = .returned (.bool (decide (l.map FrR.fr = m.map FrR.fr))) ∧ Upd [] w w' := by
 obtain ⟨pa, ca, rfl, q1, q2, -⟩ := ha.row.slice
 obtain ⟨pb, cb, rfl, q3, q4, -⟩ := hb.row.slice
 obtain ⟨n, hn⟩ : ∃ n, n = l.length := ⟨_, rfl⟩
 obtain ⟨k, hk⟩ : ∃ k, k = m.length := ⟨_, rfl⟩
 rw [← hn] at q1 ha
 rw [← hk] at q3 hb
 have HH := Lib.hid (And.intro ha hb)
 have HN := Lib.hid (And.intro hn hk)
 have HL := Lib.hid (And.intro hla hlb)
 rw [← hn, ← hk]
 clear ha hb hn hk hla hlb
 by_cases hnk : n = k
 ·subst hnk
  have hz : ((n : Int) == (n : Int)) = true := by simp
  go_enter Tryz.func16, Tryz.ntmps16
  go_wp2_with fail
  go_loopg [5] n (fun gh v5 wr => ∃ i : Nat, v5 = .int .i64 i ∧ i ≤ n ∧ gh = n - i ∧ Hid (Upd [] w wr ∧ (l.map FrR.fr).take i = (m.map FrR.fr).take i))
  case atStart => exact ⟨0, rfl, by omega, rfl, Lib.hid ⟨Upd.refl [] w, by simp⟩⟩
  case round =>
   obtain ⟨i, rfl, hi, rfl, HT⟩ := hrel
   by_cases hin : i < n
   ·have hin' : (i : Int) < (n : Int) := by omega
    obtain ⟨W, hW⟩ : ∃ W, W = wr := ⟨_, rfl⟩
    subst hW
    obtain ⟨x, hx⟩ : ∃ x, l[i]? = some x := ⟨_, List.getElem?_eq_getElem (by rw [← HN.out.1]; exact hin)⟩
    obtain ⟨y, hy⟩ : ∃ y, m[i]? = some y := ⟨_, List.getElem?_eq_getElem (by rw [← HN.out.2]; exact hin)⟩
    obtain ⟨b1, o1, rfl, d1, d1', r1⟩ := (HH.out.1.keep HT.out.1).at hx
    obtain ⟨b2, o2, rfl, d2, d2', r2⟩ := (HH.out.2.keep HT.out.1).at hy
    obtain ⟨xa, xc, hxv, -⟩ := r1.slice
    obtain ⟨ya, yc, hyv, -⟩ := r2.slice
    rw [hxv] at d1' r1
    rw [hyv] at d2' r2
    have s1 := fun j => Rd.str (r1.quiet j)
    have s2 := fun j => Rd.str (r2.quiet j)
    have hb := strOf_beq x.d y.d
    have HXY : Hid ((l.map FrR.fr)[i]? = some x.fr ∧ (m.map FrR.fr)[i]? = some y.fr) := Lib.hid ⟨by rw [List.getElem?_map, hx]; rfl, by rw [List.getElem?_map, hy]; rfl⟩
    have hl1 := HL.out.1 x (List.mem_of_getElem? hx)
    have hl2 := HL.out.2 y (List.mem_of_getElem? hy)
    clear hx hy r1 r2 hxv hyv
    by_cases hk : x.k = y.k
    ·by_cases he : x.d = y.d
     ·have HS : Hid ((l.map FrR.fr).take (i + 1) = (m.map FrR.fr).take (i + 1)) := Lib.hid (take_next HXY.out.1 HXY.out.2 HT.out.2 (by unfold FrR.fr; rw [hk, he]))
      rw [decide_eq_true he] at hb
      rw [hk] at d1
      have hz2 : ((y.k.toNat : Int) == (y.k.toNat : Int)) = true := by simp
      generalize y.k.toNat = kn at *
      generalize strOf x.d = t1 at *
      generalize strOf y.d = t2 at *
      generalize x.d.length = n1 at *
      generalize y.d.length = n2 at *
      clear he hk
      go_wp2_with fail
      go_quiet (fail)
      have HU := Lib.hid (HT.out.1.drewN nq)
      clear d1 d2 d1' d2' s1 s2
      generalize W.drewN nq = W2 at *
      go_wp2_with fail
      go_roundg (n - (i + 1))
      case measure => omega
      case rel => exact ⟨i + 1, by go_num, by omega, rfl, Lib.hid ⟨HU.out, HS.out⟩⟩
     ·have hne : decide (l.map FrR.fr = m.map FrR.fr) = false := by rw [decide_eq_false_iff_not]; intro e; have h1 := HXY.out.1; rw [e, HXY.out.2] at h1; exact he (congrArg (·.2) (Option.some.inj h1)).symm
      have HNE := Lib.hid hne
      rw [decide_eq_false he] at hb
      rw [hk] at d1
      have hz2 : ((y.k.toNat : Int) == (y.k.toNat : Int)) = true := by simp
      generalize y.k.toNat = kn at *
      generalize strOf x.d = t1 at *
      generalize strOf y.d = t2 at *
      generalize x.d.length = n1 at *
      generalize y.d.length = n2 at *
      clear he hk hne
      go_wp2_with fail
      go_quiet (fail)
      have HU := Lib.hid (HT.out.1.drewN nq)
      clear d1 d2 d1' d2' s1 s2
      generalize W.drewN nq = W2 at *
      go_wp2_with fail
      go_ret
      exact ⟨by rw [HNE.out]; rfl, HU.out⟩
    ·have hne : decide (l.map FrR.fr = m.map FrR.fr) = false := by rw [decide_eq_false_iff_not]; intro e; have h1 := HXY.out.1; rw [e, HXY.out.2] at h1; exact hk (congrArg (·.1) (Option.some.inj h1)).symm
     have HNE := Lib.hid hne
     have hz2 : ((x.k.toNat : Int) == (y.k.toNat : Int)) = false := by
      simp only [beq_eq_false_iff_ne, ne_eq]
      intro e
      exact hk (UInt8.toNat_inj.1 (by omega))
     have hz3 : ((x.k.toNat : Int) != (y.k.toNat : Int)) = true := by rw [bne, hz2]; rfl
     generalize x.k.toNat = k1 at *
     generalize y.k.toNat = k2 at *
     generalize strOf x.d = t1 at *
     generalize strOf y.d = t2 at *
     generalize x.d.length = n1 at *
     generalize y.d.length = n2 at *
     clear hk hne
     go_wp2_with fail
     go_quiet (fail)
     have HU := Lib.hid (HT.out.1.drewN nq)
     clear d1 d2 d1' d2' s1 s2
     generalize W.drewN nq = W2 at *
     go_wp2_with fail
     go_ret
     exact ⟨by rw [HNE.out]; rfl, HU.out⟩
   ·have hin' : ¬ (i : Int) < (n : Int) := by omega
    have heq : decide (l.map FrR.fr = m.map FrR.fr) = true := by
     have h1 := HN.out.1; have h2 := HN.out.2
     have h3 := HT.out.2
     rw [List.take_of_length_le (by rw [List.length_map]; omega), List.take_of_length_le (by rw [List.length_map]; omega)] at h3
     simpa using h3
    have HEQ := Lib.hid heq
    clear heq
    go_wp2_with fail
    go_ret
    exact ⟨by rw [HEQ.out]; rfl, HT.out.1⟩
 ·have hz : ((n : Int) == (k : Int)) = false := by simp; omega
  have hne : decide (l.map FrR.fr = m.map FrR.fr) = false := by
   have h1 := HN.out.1; have h2 := HN.out.2
   rw [decide_eq_false_iff_not]; intro e
   have := congrArg List.length e
   simp at this; omega
  have HNE := Lib.hid hne
  clear hne
  go_enter Tryz.func16, Tryz.ntmps16
  go_wp2_with fail
  go_ret
  exact ⟨by rw [HNE.out]; rfl, Upd.refl [] w⟩
set_option maxRecDepth 100000 in
theorem segs_ok (w : World) {base lg v : Nat} {fv sv : Value} {L : List FrR} {sz : List Nat} (h : LogS w base lg v fv sv L sz) (hsz : sz.length ≤ 100000) :
  Calls Tryz.prog 20 #[.pointer (some ⟨lg, 0, none⟩)] w fun e w' => ∃ v', e = .returned v' ∧ OwI w' w.heap.size v' sz ∧ Upd [] w w' := by
 have hcl := Lib.hid (cloneI_ok w (OwnG.rd TI h.sz) (by omega))
 obtain ⟨sa, sc, sm, hsm, rfl⟩ := h.sz.sliceM
 have b2 := cell_blk h.box 2
 simp only [List.getElem?_toArray, List.getElem?_cons_zero, List.getElem?_cons_succ] at b2
 clear h hsm
 go_enter Tryz.func20, Tryz.ntmps20
 go_wp2_with fail
 refine hcl.out.mono ?_
 rintro e w1 ⟨v5, rfl, ho5, hu5⟩
 obtain ⟨a5, c5, m5, hm5, rfl⟩ := ho5.sliceM
 have H5 := Lib.hid (And.intro ho5 hu5)
 clear ho5 hu5 hm5
 go_wp2_with fail
 go_ret
 exact ⟨_, rfl, H5.out⟩
end Go.Proofs.YtgpefiacbipfpaaGreatDoor

namespace Go.Proofs.YtgpefiacbipfpaaGreatDoor
open Go.RowKit Go.Maps
theorem segM_row : SegM [] (rowM []) := by
 have : rowM [] = fun _ => none := funext fun i => by simp [rowM]
 rw [this]; exact segM_nil
theorem seg_laid (w0 : World) {w : World} (u : Upd [] w0 w) (n : Nat) (h1 : 64 ≤ n) (h2 : n ≤ 512) : Calls Tryz.prog 8 #[.int .i64 n] w fun r w' => ∃ p v, r = .returned (.tuple #[.pointer (some ⟨p, 0, none⟩), .pointer (some ⟨v, 0, none⟩)]) ∧ SegV w0 w' v p (n - 36) (rowM []) (rowM []) 0 [] ∧ Upd [] w w' :=
 (lv_laid w0 u n h1 h2).mono fun r w' ⟨p, v, hr, hl, hu⟩ => ⟨p, v, hr, ⟨[], [], hl, segM_row, segM_row, fun _ h => h⟩, hu⟩
theorem rd_made {α : Type} {f : α → List Value} {k bytes : Nat} {st e : TypeId} (T : RowT f k bytes st e) {w : World} {B : Nat} {l : List α} {ty : TypeId} (hB : w.heap[B]? = some (.cells (flatG f l).toArray ty (0, 0))) (hl : l.length ≤ 1000000) : RdG f k w (.slice (some ⟨B, 0, none⟩) l.length l.length) l := by
 refine ⟨⟨some ⟨B, 0, none⟩, l.length, rfl, Nat.le_refl _, by unfold maxLen; omega, fun i hi => ⟨B, 0, rfl, fun j u hu => ?_⟩⟩, fun n c e => by cases e⟩
 have hj : j < k := by
  rcases Nat.lt_or_ge j k with h | h
  ·exact h
  ·rw [List.getElem?_eq_none (by rw [T.len]; exact h)] at hu; cases hu
 rw [cell_blk hB, List.getElem?_toArray, Nat.zero_add, flatG_at T l i hi j hj]
 exact hu
theorem LogV.keep {w0 w w' : World} {v p room c base lg : Nat} {ds : List Bs} {fv sv : Value} {L : List FrR} {G : List Nat} (h : LogV w0 w v p room ds c base lg fv sv L G) (u : Upd [] w w') : LogV w0 w' v p room ds c base lg fv sv L G := ⟨h.sg.keep u, h.log.keep u, h.foot, h.low⟩
theorem rd_lit {w : World} {B : Nat} {b : UInt8} {n : Int} {e : TypeId} {fr : Nat × Nat} (hB : w.heap[B]? = some (.cells #[.int .u8 n] e fr)) (hn : n = b.toNat) : Rd w (.slice (some ⟨B, 0, none⟩) 1 1) [b] := by
 refine ⟨⟨some ⟨B, 0, none⟩, 1, rfl, Nat.le_refl _, by unfold maxLen; omega, fun i hi => ⟨B, 0, rfl, fun j u hu => ?_⟩⟩, fun n c e => by cases e⟩
 obtain rfl : i = 0 := by simpa using hi
 rw [cell_blk hB]
 cases j with
 | zero => rw [← hu, hn]; rfl
 | succ j => cases hu
def twoF : List Frm := [(1, [97]), (2, [98])]
theorem twoF_add : addsD [] twoF = [putFrame 1 [97] ++ putFrame 2 [98]] ∧ (putFrame 1 [97] ++ putFrame 2 [98]).length = 14 := by
 have h1 : (putFrame 1 [97]).length = 7 := by rw [putFrame_len, putU_lt (by decide)]; rfl
 have h2 : (putFrame 2 [98]).length = 7 := by rw [putFrame_len, putU_lt (by decide)]; rfl
 refine ⟨?_, by rw [List.length_append, h1, h2]⟩
 show addD (addD [] (putFrame 1 [97])) (putFrame 2 [98]) = _
 rw [addD_nil]
 have := addD_snoc [] (putFrame 1 [97]) (putFrame 2 [98])
 rw [List.nil_append] at this
 rw [this, h1, h2, if_neg (by decide)]; rfl
set_option maxRecDepth 100000 in
set_option maxHeartbeats 4000000 in
theorem sawake_ok (w : World) : Calls Tryz.prog 7 #[] w fun e w' => e = .returned (.bool true) ∧ Upd [] w w' := by
 have HL := Lib.hid (seg_laid w (Upd.refl [] w) 64 (by omega) (by omega))
 go_enter Tryz.func7, Tryz.ntmps7
 go_wp2_with fail
 refine HL.out.mono ?_
 rintro e w1 ⟨p, v, rfl, hs1, hu1⟩
 have H1 := Lib.hid (And.intro hs1 hu1)
 have HO := Lib.hid (sopen_ok (k := 16) hs1 (by omega) (by omega) (by simp) (by simp) (by omega) (fun _ => by simp))
 clear hs1 hu1
 go_wp2_with fail
 refine HO.out.mono ?_
 rintro e w2 ⟨lg, fv, sv, L, G, rfl, hl2, hf2, -, hst2⟩
 have hlg0 := hl2.log.box
 obtain ⟨L0, hL0⟩ : ∃ L0, L0 = L := ⟨_, rfl⟩
 have hLn : L = [] := by
  have := congrArg List.length hf2
  simpa [openD] using this
 subst hLn
 have H2 := Lib.hid hl2
 clear hl2 hf2 hst2 hlg0 hL0
 have hcv1 := fun W : World => Go.Lib.run_convert_bytes_const W 23 5 #[.int .u8 97] 1 1 T8.und Tryz.underlying5
 have hcv2 := Go.Lib.run_convert_bytes_const (w2.alloc (.cells #[.int .u8 97] 5 (1, 2))) 23 5 #[.int .u8 98] 1 1 T8.und Tryz.underlying5
 rw [World.size_alloc] at hcv2
 go_wp2_with fail
 clear hcv1 hcv2
 have hu3 : Upd [] w2 (((w2.alloc (.cells #[.int .u8 97] 5 (1, 2))).alloc (.cells #[.int .u8 98] 5 (1, 2))).alloc (.cells #[.int .u8 1, .slice (some ⟨w2.heap.size, 0, none⟩) 1 1, .int .u8 2, .slice (some ⟨w2.heap.size + 1, 0, none⟩) 1 1] 25 (0, 0))) := (((Upd.refl [] w2).alloc _).alloc _).alloc _
 have ht3 := heap_top ((w2.alloc (.cells #[.int .u8 97] 5 (1, 2))).alloc (.cells #[.int .u8 98] 5 (1, 2))) (.cells #[.int .u8 1, .slice (some ⟨w2.heap.size, 0, none⟩) 1 1, .int .u8 2, .slice (some ⟨w2.heap.size + 1, 0, none⟩) 1 1] 25 (0, 0))
 have ht2 := heap_keepA (.cells #[.int .u8 1, .slice (some ⟨w2.heap.size, 0, none⟩) 1 1, .int .u8 2, .slice (some ⟨w2.heap.size + 1, 0, none⟩) 1 1] 25 (0, 0)) (heap_top (w2.alloc (.cells #[.int .u8 97] 5 (1, 2))) (.cells #[.int .u8 98] 5 (1, 2)))
 have ht1 := heap_keepA (.cells #[.int .u8 1, .slice (some ⟨w2.heap.size, 0, none⟩) 1 1, .int .u8 2, .slice (some ⟨w2.heap.size + 1, 0, none⟩) 1 1] 25 (0, 0)) (heap_keepA (.cells #[.int .u8 98] 5 (1, 2)) (heap_top w2 (.cells #[.int .u8 97] 5 (1, 2))))
 rw [World.size_alloc] at ht2
 rw [World.size_alloc, World.size_alloc] at ht3
 generalize ((w2.alloc (.cells #[.int .u8 97] 5 (1, 2))).alloc (.cells #[.int .u8 98] 5 (1, 2))).alloc (.cells #[.int .u8 1, .slice (some ⟨w2.heap.size, 0, none⟩) 1 1, .int .u8 2, .slice (some ⟨w2.heap.size + 1, 0, none⟩) 1 1] 25 (0, 0)) = w3 at *
 obtain ⟨A, hA⟩ : ∃ A : List FrR, A = [⟨1, .slice (some ⟨w2.heap.size, 0, none⟩) 1 1, [97]⟩, ⟨2, .slice (some ⟨w2.heap.size + 1, 0, none⟩) 1 1, [98]⟩] := ⟨_, rfl⟩
 have hAm : A.map FrR.fr = twoF := by rw [hA]; rfl
 have hAl : A.length = 2 := by rw [hA]; rfl
 have hAd : ∀ x ∈ A, x.d.length = 1 ∧ Rd w3 x.dv x.d := by
  rw [hA]
  intro x hx
  rcases List.mem_cons.1 hx with e | hx
  ·rw [e]; exact ⟨rfl, rd_lit ht1 rfl⟩
  ·rw [List.mem_singleton.1 hx]; exact ⟨rfl, rd_lit ht2 rfl⟩
 have hrow : RdG cFr 2 w3 (.slice (some ⟨w2.heap.size + 1 + 1, 0, none⟩) 2 2) A := by
  have := rd_made TFr (l := A) (ty := 25) (by rw [hA]; exact ht3) (by omega)
  rwa [hAl] at this
 have hap := sappend_ok (K := []) (H2.out.keep hu3) (Nat.le_trans (by
  have := H2.out.log.lt lg (mem_lfoot.2 (.inl rfl)); omega) hu3.size) (by omega) hrow (fun x hx => (hAd x hx).2) (by omega) (by simp) (by simp [openD]) (by simp [openD]) (fun _ => by rw [hAm]; rw [show (openD []).1 = [] from rfl, twoF_add.1]; decide) (by simp)
 have HAP := Lib.hid hap
 have HAm := Lib.hid (And.intro hAm (And.intro hAl fun x hx => (hAd x hx).1))
 clear hap hAd hrow ht1 ht2 ht3 hu3 hA hAm hAl H2 HO
 refine HAP.out.mono ?_
 rintro e w4 (⟨-, rfl, fv', sv', L', G', hl4, hL', -, -, -⟩ | ⟨⟨x, hx, hlong⟩, -, -⟩)
 ·rw [HAm.out.1, show (openD []).1 = [] from rfl, twoF_add.1] at hl4
  have H4 := Lib.hid hl4
  have HSg := Lib.hid (segs_ok w4 hl4.log (by simp))
  have hlen4 : ([] ++ L').length = 2 := by
   have := congrArg List.length hL'
   simpa [HAm.out.2.1] using this
  have hd4 : ∀ x ∈ [] ++ L', x.d.length ≤ 100000 := fun x hx => by
   have : x.fr ∈ L'.map FrR.fr := List.mem_map.2 ⟨x, by simpa using hx, rfl⟩
   rw [hL', HAm.out.1] at this
   have : x.d = [97] ∨ x.d = [98] := by
    simp only [twoF, List.mem_cons, List.not_mem_nil, or_false, FrR.fr, Prod.mk.injEq] at this
    exact this.imp (·.2) (·.2)
   rcases this with e | e <;> rw [e] <;> decide
  have HLen := Lib.hid fun (X : World) (u : Upd [] w4 X) => llen_ok X (hl4.log.keep u) (by rw [hlen4]; decide) hd4
  rw [hlen4] at HLen
  clear hl4 hL' hlen4 hd4
  go_wp2_with fail
  refine HSg.out.mono ?_
  rintro e w5 ⟨v5, rfl, ho5, hu5⟩
  rw [show [putFrame 1 [97] ++ putFrame 2 [98]].map List.length = [14] by rw [List.map_cons, twoF_add.2]; rfl] at ho5
  obtain ⟨c5, g5, hv5, hc5⟩ : ∃ c5 g5, v5 = .slice (some ⟨g5, 0, none⟩) 1 c5 ∧ ∀ X, Upd [] w5 X → X.cell? ⟨g5, 0, none⟩ = some (.int .i64 14) := by
   obtain ⟨a5, c5, rfl⟩ := ho5.slice
   obtain ⟨-, -, -, hat⟩ := ho5.at TI
   obtain ⟨g5, rfl, -, -, hca⟩ := hat 0 (by simp)
   exact ⟨c5, g5, rfl, fun X u => held1 u (hca 0 _ rfl)⟩
  subst hv5
  have H5 := Lib.hid (And.intro hc5 hu5)
  clear ho5 hc5 hu5
  go_wp2_with fail
  refine (HLen.out _ H5.out.2).mono ?_
  rintro e w6 ⟨rfl, hu6⟩
  have c6 := H5.out.1 _ hu6
  have HU6 := Lib.hid (((H4.out.keep H5.out.2).keep hu6).sg.upd)
  clear hu6
  go_wp2_with fail
  go_ret
  exact ⟨rfl, HU6.out⟩
 ·have := HAm.out.2.2 x hx
  omega
end Go.Proofs.YtgpefiacbipfpaaGreatDoor

namespace Go.Proofs.YtgpefiacbipfpaaGreatDoor
open Go.RowKit
theorem nameS_one {n : Nat} (h : n < 10) : nmS n = (⟨#[115, 101, 103, 46]⟩ : ByteArray) ++ (strOf [UInt8.ofNat (48 + n)] ++ (⟨#[]⟩ : ByteArray)) := by
 apply ByteArray.ext
 rw [ByteArray.data_append, ByteArray.data_append]
 simp [nmS, nameS, strOf, h]
theorem str_one (c : UInt8) : (strOf [c] ++ (⟨#[]⟩ : ByteArray)).size = 1 ∧ (strOf [c]).size = 1 ∧ strOf [c] ++ (⟨#[]⟩ : ByteArray) ≠ ⟨#[]⟩ := by
 have h : strOf [c] ++ (⟨#[]⟩ : ByteArray) = strOf [c] := by
  apply ByteArray.ext
  rw [ByteArray.data_append]
  simp [strOf]
 have h1 : (strOf [c]).size = 1 := rfl
 refine ⟨by rw [h]; exact h1, h1, fun e => ?_⟩
 rw [h] at e
 have := congrArg ByteArray.size e
 rw [h1] at this
 cases this
set_option maxRecDepth 100000 in
set_option maxHeartbeats 2000000 in
theorem rname_ok (w : World) (n : Nat) (hn : n < 10) : Calls Tryz.prog 12 #[.int .i64 n] w fun e w' => e = .returned (.string (nmS n)) ∧ Upd [] w w' := by
 have HN := Lib.hid (nameS_one hn)
 obtain ⟨c, hc⟩ : ∃ c, c = UInt8.ofNat (48 + n) := ⟨_, rfl⟩
 have hct : (c.toNat : Int) = 48 + (n : Int) := by rw [hc, UInt8.toNat_ofNat']; omega
 rw [← hc] at HN
 have HB : Hid (∀ (W : World) (B : Nat), W.heap[B]? = some (.cells #[.int .u8 (48 + (n : Int))] 5 (0, 0)) → (convert 23 9 (.slice (some ⟨B, 0, none⟩) 1 1)).run Tryz.prog W = .ok (.string (strOf [c])) W) := Lib.hid fun W B hB => Rd.str (rd_lit hB hct.symm)
 obtain ⟨S, hS⟩ : ∃ S, S = strOf [c] ++ (⟨#[]⟩ : ByteArray) := ⟨_, rfl⟩
 obtain ⟨s1, s2, s3⟩ := str_one c
 rw [← hS] at HN s1 s3
 have HS := Lib.hid hS
 have s4 : S.toList.isEmpty = false := by
  unfold ByteArray.toList
  rw [ByteArray.toList.loop, if_pos (by omega), ByteArray.toList.loop, if_neg (by omega)]
  rfl
 have hn9 : (n : Int) ≤ 9 := by omega
 have hmod : (n : Int).tmod 10 = (n : Int) := by rw [Int.tmod_eq_emod_of_nonneg (by omega)]; omega
 have hdiv : (n : Int).tdiv 10 = 0 := by rw [Int.tdiv_eq_ediv_of_nonneg (by omega)]; omega
 have hmod2 : (n : Int) % 10 = (n : Int) := by omega
 have hdiv2 : (n : Int) / 10 = 0 := by omega
 have hcv := HB.out (w.alloc (.cells #[.int .u8 (48 + (n : Int))] 5 (0, 0))) w.heap.size (heap_top _ _)
 clear hc hct hS
 go_enter Tryz.func12, Tryz.ntmps12
 go_wp2_with fail
 go_loopg [0, 3] 2 (fun gh s0 s3 wr => (gh = 2 ∧ s0 = .int .i64 n ∧ s3 = .string ⟨#[]⟩ ∧ wr = w) ∨ (gh = 1 ∧ s0 = .int .i64 0 ∧ s3 = .string S ∧ Hid (Upd [] w wr)))
 case atStart => exact .inl ⟨rfl, rfl, rfl, rfl⟩
 case round =>
  rcases hrel with ⟨rfl, rfl, rfl, rfl⟩ | ⟨rfl, rfl, rfl, HU⟩
  ·have HU := Lib.hid ((Upd.refl [] wr).alloc (.cells #[.int .u8 (48 + (n : Int))] 5 (0, 0)))
   rcases Nat.eq_zero_or_pos n with h0 | h0
   ·have h0' : ¬ (0 : Int) < (n : Int) := by omega
    subst h0
    replace hcv : (convert 23 9 (.slice (some ⟨wr.heap.size, 0, none⟩) 1 1)).run Tryz.prog (wr.alloc (.cells #[.int .u8 48] 5 (0, 0))) = .ok (.string (strOf [c])) (wr.alloc (.cells #[.int .u8 48] 5 (0, 0))) := hcv
    replace HU : Hid (Upd [] wr (wr.alloc (.cells #[.int .u8 48] 5 (0, 0)))) := HU
    go_wp2_with fail
    go_roundg 1
    case measure => omega
    case rel => exact .inr ⟨rfl, rfl, by rw [HS.out], HU⟩
   ·have h0' : (0 : Int) < (n : Int) := by omega
    go_wp2_with fail
    go_roundg 1
    case measure => omega
    case rel => exact .inr ⟨rfl, rfl, by rw [HS.out], HU⟩
  ·go_wp2_with fail
   go_ret
   exact ⟨by rw [HN.out]; rfl, HU.out⟩
end Go.Proofs.YtgpefiacbipfpaaGreatDoor

namespace Go.Proofs.YtgpefiacbipfpaaGreatDoor
open Go.RowKit Go.Maps
end Go.Proofs.YtgpefiacbipfpaaGreatDoor
