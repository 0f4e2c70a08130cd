/- A run behind others. A node's Extend. A node's At. A node as bytes. -/
import Derived.BigQuiet
import Derived.Deep.DeepCutAuto
import Derived.WalkMore
import Derived.Test.YtgpefiacbipfpaaGreatDoorC10
import Derived.Test.YtgpefiacbipfpaaGreatDoorC15
namespace Go.Proofs.YtgpefiacbipfpaaGreatDoor
open Go.RowKit Go.Maps
theorem OwnG.setLast {w : World} {base g c n : Nat} {rs0 : List Run} {x : Run} (h : OwnG cR 148 2 w base (.slice (some ⟨g, 0, none⟩) n c) (rs0 ++ [x])) (y : Nat) :
  OwnG cR 148 2 (w.setCell ⟨g, rs0.length * 2 + 1, none⟩ (.int .i64 y)) base (.slice (some ⟨g, 0, none⟩) n c) (rs0 ++ [(x.1, y)]) := by
 obtain ⟨h1, h2⟩ := h
 have e0 : (rs0 ++ [(x.1, y)]).length = (rs0 ++ [x]).length := by simp
 refine ⟨by rw [flatG_len TR], ?_⟩
 rcases h2 with ⟨h2, -⟩ | ⟨g', cap, cur, hv, hg, hh, r1, r2, r3, r4⟩
 ·cases h2
 ·cases hv
  refine .inr ⟨g, c, cur.setIfInBounds (rs0.length * 2 + 1) (.int .i64 y), by rw [e0], hg, ?_, by rw [e0]; exact r1, r2, by simpa using r3, ?_⟩
  ·rw [heap_setCell, if_pos rfl, hh]; rfl
  ·rw [e0, Array.toList_setIfInBounds, List.take_set, r4]
   have hf : flatG cR (rs0 ++ [x]) = flatG cR rs0 ++ [.int .i64 x.1, .int .i64 x.2] := by rw [flatG_app]; simp [flatG, cR]
   have hf2 : flatG cR (rs0 ++ [(x.1, y)]) = flatG cR rs0 ++ [.int .i64 x.1, .int .i64 y] := by rw [flatG_app]; simp [flatG, cR]
   have hl : (flatG cR rs0).length = rs0.length * 2 := flatG_len TR rs0
   rw [hf, hf2, List.set_append_right _ _ (by omega), hl]
   have : rs0.length * 2 + 1 - rs0.length * 2 = 1 := by omega
   rw [this]; rfl
def PutPost (w : World) (base : Nat) (v : Value) (l : List Run) (r : Ending) (w' : World) : Prop := ∃ v', r = .returned v' ∧ OwnG cR 148 2 w' base v' l ∧ Upd v.ownBlock.toList w w' ∧ (v'.ownBlock = v.ownBlock ∨ ∀ g, v'.ownBlock = some g → w.heap.size ≤ g)
theorem put_tail {w w2 w3 : World} {base : Nat} {v v' : Value} {a b : Nat} {rs : List Run} (he : putRun rs (a, b) = rs ++ [(a, b)]) (hu : Upd [] w w2) (ho : OwnG cR 148 2 w3 base v' (rs ++ [(a, b)])) {ty : TypeId} (hg : (w2.alloc (.cells #[.int .i64 a, .int .i64 b] ty)).grownBy w3 v.ownBlock) (hn : v'.ownBlock = v.ownBlock ∨ ∀ g, v'.ownBlock = some g → w2.heap.size + 1 ≤ g) :
  PutPost w base v (putRun rs (a, b)) (.returned v') w3 := by
 rw [he]
 have hu2 : Upd v.ownBlock.toList w2 w3 := by
  have := upd_row hg
  exact ⟨this.os, this.output, Nat.le_trans (by simp) this.size, fun k hk hn => by rw [this.block k (by simp; omega) hn, heap_alloc, if_neg (by omega)]⟩
 exact ⟨v', rfl, ho, (hu.mono (by simp)).trans hu2, hn.imp id fun q g hg => by have := q g hg; have := hu.size; omega⟩
set_option maxRecDepth 100000 in
set_option maxHeartbeats 4000000 in
theorem iput_ok (w : World) {base : Nat} {v : Value} {rs : List Run} (h : OwnG cR 148 2 w base v rs) (hb : base ≤ w.heap.size) (hl : rs.length ≤ 1000000) (a b : Nat) (ha : a ≤ 100000000) (hbb : b ≤ 100000000) (hrs : ∀ x ∈ rs, x.1 ≤ 100000000 ∧ x.2 ≤ 100000000) :
  Calls Tryz.prog 90 #[v, .agg #[.int .i64 a, .int .i64 b]] w (PutPost w base v (putRun rs (a, b))) := by
 have H := Lib.hid h
 obtain ⟨av, cv, m, hm, rfl⟩ := h.sliceM
 have HO : Hid (∀ W : World, Upd [] w W → OwnG cR 148 2 W base (.slice av m cv) rs) := Lib.hid fun W u => h.upd u (by simp)
 rcases List.eq_nil_or_concat rs with rfl | ⟨rs0, x, rfl⟩
 ·have hm0 : m = 0 := hm
  clear hm h hrs hl
  subst hm0
  go_enter Tryz.func90, Tryz.ntmps90
  go_wp2_with fail
  go_quiet (fail)
  go_upto_region 5 with (fail)
  have hX := heap_top w (.cells #[.int .i64 a, .int .i64 b] 148)
  have hu : Upd [] w ((w.alloc (.cells #[.int .i64 a, .int .i64 b] 148)).drewN nq) := ((Upd.refl [] w).alloc _).drewN nq
  have b0 : ((w.alloc (.cells #[.int .i64 a, .int .i64 b] 148)).drewN nq).cell? ⟨w.heap.size, 0, none⟩ = some (.int .i64 a) := cell_blk hX 0
  have b1 : ((w.alloc (.cells #[.int .i64 a, .int .i64 b] 148)).drewN nq).cell? ⟨w.heap.size, 1, none⟩ = some (.int .i64 b) := cell_blk hX 1
  clear hX
  generalize (w.alloc (.cells #[.int .i64 a, .int .i64 b] 148)).drewN nq = w2 at *
  have HU := Lib.hid hu
  have hs2 := hu.size
  clear hu
  go_wp2_with (first
   | (at_builtin; refine wpList_append_G TR rfl _ _ rfl (base := base) (l := []) (r := [(a, b)]) rfl (HO.out _ (HU.out.alloc _)) rfl (src_new TR (ty := 148) (heap_top _ _)) (oneR _) ?c1 ?c2 ?c3 ?_)
   | fail)
  case c1 => simp
  case c2 => simp
  case c3 => (try simp); omega
  intro v3 w3 ho3 hg3 hn3
  have HP := Lib.hid (put_tail (rs := []) rfl HU.out (by simpa using ho3) hg3 (hn3.imp id fun q g hg => by have := q g hg; (try simp at this); omega))
  obtain ⟨a3, c3, m3, -, rfl⟩ := ho3.sliceM
  clear ho3 hg3 hn3
  go_wp2_with fail
  go_ret
  exact HP.out
 ·rw [List.concat_eq_append] at *
  have hx := hrs x (by simp)
  obtain ⟨g, c', hv, hg1, hg2⟩ := h.headG (by simp)
  have hm' : m = rs0.length + 1 := by rw [hm]; simp
  simp only [Value.slice.injEq] at hv
  obtain ⟨rfl, -, rfl⟩ := hv
  have hat := (OwnG.at TR h).2.2.2 rs0.length (by simp)
  have hfz := hat.choose_spec.2.2.1
  obtain ⟨g', hg', -, hfr, hc⟩ := hat
  cases hg'
  have hxe : (rs0 ++ [x])[rs0.length]'(by simp) = x := by simp
  rw [hxe] at hc
  have hcap := (OwnG.at TR h).2.1
  have HQ : Hid (rs0.length = rs0.length) := Lib.hid rfl
  have hm1 : ((m : Nat) : Int) - 1 = (rs0.length : Int) := by omega
  have hlt0 : (0 : Int) ≤ (rs0.length : Int) := by omega
  have hlt1 : (rs0.length : Int) < (m : Int) := by omega
  have HM := Lib.hid hm'
  clear hm'
  obtain ⟨xa, xb⟩ := x
  dsimp only at hx
  have k0 : ∀ W, Upd [] w W → W.cell? ⟨g, rs0.length * 2, none⟩ = some (.int .i64 xa) := fun W u => cell_keep u (hc 0 _ rfl)
  have k1 : ∀ W, Upd [] w W → W.cell? ⟨g, rs0.length * 2 + 1, none⟩ = some (.int .i64 xb) := fun W u => cell_keep u (hc 1 _ rfl)
  have kf : ∀ W, Upd [] w W → W.frozen? ⟨g, rs0.length * 2 + 1, none⟩ = false := fun W u => by
   rw [← hfr (rs0.length * 2 + 1)]
   unfold World.frozen?
   rw [u.block g hg2 (by simp)]
  have HL : Hid (rs0.length ≤ 1000000) := Lib.hid (by simp at hl; omega)
  have hql : rs0.length ≤ 1000000 := HL.out
  have hw0 : Upd [] w (w.alloc (.cells #[.int .i64 a, .int .i64 b] 148)) := (Upd.refl [] w).alloc _
  have d0 := k0 _ hw0
  have d1 := k1 _ hw0
  have hng : g ≠ w.heap.size := by omega
  have K1 := Lib.hid k1
  have KF := Lib.hid kf
  have hput : putRun (rs0 ++ [(xa, xb)]) (a, b) = if xa + xb = a then rs0 ++ [(xa, xb + b)] else rs0 ++ [(xa, xb)] ++ [(a, b)] := putRun_snoc _ _ _
  have HPut := Lib.hid hput
  have hlen2 : (rs0 ++ [(xa, xb)]).length = rs0.length + 1 := by simp
  have HLen2 := Lib.hid hlen2
  clear hxe hc hm
  generalize hq : rs0.length = q at *
  have hq1' : (m : Int) ≤ (cv : Int) := by omega
  have hwx : IntKind.i64.wrap ((xa : Int) + xb) = (xa : Int) + xb := IntWalk.i64_in _ (by omega)
  have hwy : IntKind.i64.wrap ((xb : Int) + b) = (xb : Int) + b := IntWalk.i64_in _ (by omega)
  clear hfr h hrs hl hput hlen2 k0 k1 kf hw0
  have HQ2 := Lib.hid hq
  clear hq HQ
  by_cases hmg : xa + xb = a
  ·have hmg' : (xa : Int) + (xb : Int) = (a : Int) := by omega
   have hmg2 : ((xa : Int) + (xb : Int) == (a : Int)) = true := by simpa using hmg'
   go_enter Tryz.func90, Tryz.ntmps90
   go_wp2_with fail
   go_quiet (fail)
   go_upto_region 3 with (fail)
   have hX := heap_top w (.cells #[.int .i64 a, .int .i64 b] 148)
   have hu : Upd [] w ((w.alloc (.cells #[.int .i64 a, .int .i64 b] 148)).drewN nq) := ((Upd.refl [] w).alloc _).drewN nq
   have b1 : ((w.alloc (.cells #[.int .i64 a, .int .i64 b] 148)).drewN nq).drew.cell? ⟨w.heap.size, 1, none⟩ = some (.int .i64 b) := cell_blk hX 1
   clear hX
   generalize (w.alloc (.cells #[.int .i64 a, .int .i64 b] 148)).drewN nq = w2 at *
   have HU := Lib.hid hu
   have e1 := K1.out _ hu.drew
   have e2 := KF.out _ hu.drew
   clear hu d0 d1
   go_region
   all_goals
    go_wp2_with fail
    go_ret
    have HO2 := (HO.out _ HU.out.drew).setLast (xb + b)
    rw [HQ2.out] at HO2
    have e3 : ((xb + b : Nat) : Int) = (xb : Int) + b := by omega
    rw [e3] at HO2
    refine ⟨_, rfl, by rw [HPut.out, if_pos hmg]; exact HO2, (HU.out.drew.mono (by simp)).setCell (by simp [Value.ownBlock]) _ _, .inl rfl⟩
  ·have hmg' : ¬ (xa : Int) + (xb : Int) = (a : Int) := by omega
   have hmg2 : ((xa : Int) + (xb : Int) == (a : Int)) = false := by simpa using hmg'
   go_enter Tryz.func90, Tryz.ntmps90
   go_wp2_with fail
   go_quiet (fail)
   go_upto_region 5 with (fail)
   have hX := heap_top w (.cells #[.int .i64 a, .int .i64 b] 148)
   have hu : Upd [] w ((w.alloc (.cells #[.int .i64 a, .int .i64 b] 148)).drewN nq) := ((Upd.refl [] w).alloc _).drewN nq
   have b0 : ((w.alloc (.cells #[.int .i64 a, .int .i64 b] 148)).drewN nq).cell? ⟨w.heap.size, 0, none⟩ = some (.int .i64 a) := cell_blk hX 0
   have b1 : ((w.alloc (.cells #[.int .i64 a, .int .i64 b] 148)).drewN nq).cell? ⟨w.heap.size, 1, none⟩ = some (.int .i64 b) := cell_blk hX 1
   clear hX
   generalize (w.alloc (.cells #[.int .i64 a, .int .i64 b] 148)).drewN nq = w2 at *
   have HU := Lib.hid hu
   have hs2 := hu.size
   clear hu
   go_wp2_with (first
    | (at_builtin; refine wpList_append_G TR rfl _ _ rfl (base := base) (l := rs0 ++ [(xa, xb)]) (r := [(a, b)]) rfl (HO.out _ (HU.out.alloc _)) rfl (src_new TR (ty := 148) (heap_top _ _)) (oneR _) ?c1 ?c2 ?c3 ?_)
    | fail)
   case c1 => (simp only [List.length_append, List.length_cons, List.length_nil, HQ2.out]; omega)
   case c2 => (simp only [List.length_append, List.length_cons, List.length_nil, HQ2.out]; omega)
   case c3 => (try simp); omega
   intro v3 w3 ho3 hg3 hn3
   have HP := Lib.hid (put_tail (rs := rs0 ++ [(xa, xb)]) (by rw [HPut.out, if_neg hmg]) HU.out (by simpa using ho3) hg3 (hn3.imp id fun q g hg => by have := q g hg; (try simp at this); omega))
   obtain ⟨a3, c3, m3, -, rfl⟩ := ho3.sliceM
   clear ho3 hg3 hn3
   go_wp2_with fail
   go_ret
   exact HP.out
end Go.Proofs.YtgpefiacbipfpaaGreatDoor

namespace Go.Proofs.YtgpefiacbipfpaaGreatDoor
open Go.RowKit Go.Maps
theorem lenR_app (a b : List Run) : lenR (a ++ b) = lenR a + lenR b := by simp [lenR]
theorem lenR_putRun (l : List Run) (r : Run) : lenR (putRun l r) = lenR l + r.2 := by
 rcases List.eq_nil_or_concat l with rfl | ⟨l, x, rfl⟩
 ·simp [putRun_nil, lenR]
 ·rw [List.concat_eq_append, putRun_snoc]
  split
  ·rw [lenR_app, lenR_app]; simp [lenR]; omega
  ·rw [lenR_app]; simp [lenR]
theorem lenR_foldl (rs : List Run) : ∀ l, lenR (rs.foldl putRun l) = lenR l + lenR rs := by
 induction rs with
 | nil => intro l; simp [lenR]
 | cons r rs ih => intro l; rw [List.foldl_cons, ih, lenR_putRun]; simp [lenR]; omega
theorem fst_putRun {l : List Run} {r x : Run} (h : x ∈ putRun l r) : x.1 = r.1 ∨ ∃ y ∈ l, x.1 = y.1 := by
 rcases List.eq_nil_or_concat l with rfl | ⟨l, y, rfl⟩
 ·rw [putRun_nil, List.mem_singleton] at h; exact .inl (by rw [h])
 ·rw [List.concat_eq_append, putRun_snoc] at h
  rw [List.concat_eq_append]
  split at h
  ·rcases List.mem_append.1 h with h | h
   ·exact .inr ⟨x, by simp [h], rfl⟩
   ·rw [List.mem_singleton] at h; exact .inr ⟨y, by simp, by rw [h]⟩
  ·rcases List.mem_append.1 h with h | h
   ·exact .inr ⟨x, h, rfl⟩
   ·rw [List.mem_singleton] at h; exact .inl (by rw [h])
theorem snd_le {l : List Run} {x : Run} (h : x ∈ l) : x.2 ≤ lenR l := by
 induction l with
 | nil => simp at h
 | cons y l ih =>
  rcases List.mem_cons.1 h with rfl | h
  ·simp [lenR]
  ·have := ih h; simp [lenR] at this ⊢; omega
theorem putRun_length (l : List Run) (r : Run) : (putRun l r).length ≤ l.length + 1 := by
 rcases List.eq_nil_or_concat l with rfl | ⟨l, x, rfl⟩
 ·simp [putRun_nil]
 ·rw [List.concat_eq_append, putRun_snoc]
  split <;> simp
structure Small (l : List Run) (n : Nat) : Prop where
 one : ∀ x ∈ l, x.1 ≤ 100000
 sum : lenR l ≤ 100000
 len : l.length ≤ n
theorem Small.put {l : List Run} {n : Nat} (h : Small l n) {r : Run} (h1 : r.1 ≤ 100000) (h2 : lenR l + r.2 ≤ 100000) : Small (putRun l r) (n + 1) :=
 ⟨fun x hx => by rcases fst_putRun hx with e | ⟨y, hy, e⟩; omega; rw [e]; exact h.one y hy, by rw [lenR_putRun]; exact h2, by have := putRun_length l r; have := h.len; omega⟩
structure AddOk (rs : List Run) : Prop where
 pos : ∀ r ∈ rs, 1 ≤ r.2
 le : ∀ r ∈ rs, r.1 + r.2 ≤ 512
 len : rs.length ≤ 1000
def foldAt (runs rs : List Run) (i : Nat) : List Run := (rs.take i).foldl putRun runs
theorem foldAt_succ {runs rs : List Run} {i : Nat} {r : Run} (h : rs[i]? = some r) : foldAt runs rs (i + 1) = putRun (foldAt runs rs i) r := by
 unfold foldAt
 rw [List.take_add_one, h]
 simp
theorem foldAt_small {runs rs : List Run} {n : Nat} (h : Small runs n) (hok : AddOk rs) (hs : lenR runs + lenR rs ≤ 100000) : ∀ i, Small (foldAt runs rs i) (n + i) ∧ lenR (foldAt runs rs i) ≤ lenR runs + lenR rs
 | 0 => ⟨by simpa [foldAt] using h, by simp [foldAt]⟩
 | i + 1 => by
  have ih := foldAt_small h hok hs i
  by_cases hi : i < rs.length
  ·have e := foldAt_succ (runs := runs) (List.getElem?_eq_getElem hi)
   have hl : lenR (foldAt runs rs i) + rs[i].2 ≤ lenR runs + lenR rs := by
    unfold foldAt
    rw [lenR_foldl]
    have : lenR rs = lenR (rs.take i) + lenR (rs.drop i) := by rw [← lenR_app, List.take_append_drop]
    rw [List.drop_eq_getElem_cons hi] at this
    simp only [lenR, List.map_cons, List.sum_cons] at this ⊢
    omega
   rw [e]
   have hle := hok.le rs[i] (List.getElem_mem hi)
   exact ⟨ih.1.put (by omega) (by omega), by rw [lenR_putRun]; exact hl⟩
  ·have e : foldAt runs rs (i + 1) = foldAt runs rs i := by unfold foldAt; rw [List.take_of_length_le (by omega), List.take_of_length_le (by omega)]
   rw [e]
   exact ⟨⟨ih.1.one, ih.1.sum, by have := ih.1.len; omega⟩, ih.2⟩
theorem lenR_drop {rs : List Run} {i : Nat} {r : Run} (h : rs[i]? = some r) : lenR (rs.drop i) = r.2 + lenR (rs.drop (i + 1)) := by
 obtain ⟨hi, rfl⟩ := List.getElem?_eq_some_iff.1 h
 rw [List.drop_eq_getElem_cons hi]
 unfold lenR
 rw [List.map_cons, List.sum_cons]
theorem RdG.runs {w : World} {a : Option Addr} {n c : Nat} {rs : List Run} (h : RdG cR 2 w (.slice a n c) rs) {i : Nat} {r : Run} (hr : rs[i]? = some r) : ∃ b off, a = some ⟨b, off, none⟩ ∧ w.cell? ⟨b, off + i * 2, none⟩ = some (.int .i64 r.1) ∧ w.cell? ⟨b, off + i * 2 + 1, none⟩ = some (.int .i64 r.2) := by
 obtain ⟨⟨a', c', hv, -, -, hat⟩, -⟩ := h
 simp only [Value.slice.injEq] at hv
 obtain ⟨rfl, -, rfl⟩ := hv
 obtain ⟨hi, rfl⟩ := List.getElem?_eq_some_iff.1 hr
 obtain ⟨b, off, rfl, hc⟩ := hat i hi
 exact ⟨b, off, rfl, hc 0 _ rfl, hc 1 _ rfl⟩
set_option maxRecDepth 100000 in
set_option maxHeartbeats 4000000 in
theorem extend_ok (w : World) {base q size : Nat} {rv : Value} {runs : List Run} (h : NodeR w base q size rv runs) (hbase : base ≤ w.heap.size) (hs : size ≤ 32768) (hsm : Small runs 1000) (n : Nat) (hn : size + n ≤ 32768) {v : Value} {rs : List Run} (hv : RdG cR 2 w v rs) (hok : AddOk rs) (hlen : lenR rs = blksOf (size + n) - blksOf size) (hlr : lenR runs ≤ 1000) :
  Calls Tryz.prog 44 #[.pointer (some ⟨q, 0, none⟩), .int .i64 n, v] w fun r w' => r = .returned (.int .i64 0) ∧ ∃ rv', NodeR w' base q (size + n) rv' (rs.foldl putRun runs) ∧ Upd [q] w w' ∧ ∀ g, rv'.ownBlock = some g → w.heap.size ≤ g := by
 have HN := Lib.hid h
 have hql := lt_of_blk h.1
 have HNd := Lib.hid (need_ok w h hs n (by omega))
 rw [if_neg (by omega), if_neg (by omega), ← hlen] at HNd
 have HRn := Lib.hid (iruns_ok w h (by have := hsm.len; omega))
 have hl64 : lenR rs ≤ 64 := by rw [hlen]; unfold blksOf; omega
 obtain ⟨av, cv, rfl, hc1, hc2, -⟩ := hv.slice
 have HV := Lib.hid hv
 have HOK := Lib.hid hok
 have HSM := Lib.hid hsm
 have hL := hok.len
 have HS : Hid (∀ i, i < rs.length → ∃ y, rs[i]? = some y) := Lib.hid fun i h => ⟨_, List.getElem?_eq_getElem h⟩
 have HFS := Lib.hid fun i => foldAt_small hsm hok (by omega) i
 have HFin : Hid (lenR (rs.drop rs.length) = 0 ∧ foldAt runs rs rs.length = rs.foldl putRun runs) := Lib.hid ⟨by simp [lenR], by simp [foldAt]⟩
 have HD0 : Hid (lenR rs = lenR (rs.drop 0)) := Lib.hid (by simp)
 have HF0 : Hid (foldAt runs rs 0 = runs) := Lib.hid (by simp [foldAt])
 generalize rs.length = L at *
 clear h hv hok hlen hsm
 go_enter Tryz.func44, Tryz.ntmps44
 go_wp2_with fail
 refine HNd.out.mono ?_
 rintro r w1 ⟨rfl, ha1⟩
 have hu1 : Upd [] w w1 := (Upd.refl [] w).alike ha1
 have hN1 : NodeR w1 base q size rv runs := ⟨(hu1.block q hql (by simp)).trans HN.out.1, HN.out.2.upd hu1 (by simp)⟩
 have HR1 := Lib.hid (iruns_ok w1 hN1 (by have := HSM.out.len; omega))
 have HU1 := Lib.hid hu1
 have hsz : w1.heap.size = w.heap.size := by rw [ha1.1]
 have HSZ := Lib.hid hsz
 clear ha1 hu1 hN1 HNd HRn hsz
 generalize hld : lenR rs = ld at *
 go_wp2_with fail
 refine HR1.out.mono ?_
 rintro r w2 ⟨v2, rfl, ho2, hu2⟩
 have H2 := Lib.hid (And.intro (ho2.base (by rw [HSZ.out]; exact Nat.le_refl _) : OwnG cR 148 2 w2 w.heap.size v2 runs) (HU1.out.trans hu2))
 obtain ⟨a2, c2, m2, -, rfl⟩ := ho2.sliceM
 clear ho2 hu2 HR1
 go_wp2_with fail
 go_loopg [7, 9, 25] L (fun gh v7 v9 v25 wr => ∃ (i : Nat) (nd : Nat) (a9 : Option Addr) (m9 c9 : Nat), v7 = .int .i64 nd ∧ v9 = .slice a9 m9 c9 ∧ v25 = .int .i64 i ∧ i ≤ L ∧ gh = L - i ∧ Hid (nd = lenR (rs.drop i)) ∧ Hid (OwnG cR 148 2 wr w.heap.size (.slice a9 m9 c9) (foldAt runs rs i) ∧ Upd [] w wr))
 case atStart => exact ⟨0, ld, a2, _, _, rfl, rfl, rfl, by omega, rfl, Lib.hid HD0.out, Lib.hid ⟨by rw [HF0.out]; exact H2.out.1, H2.out.2⟩⟩
 case round =>
  obtain ⟨i, nd, a9, m9, c9, rfl, rfl, rfl, hi, rfl, HND, H3⟩ := hrel
  by_cases hil : i < L
  ·have hlt : (i : Int) < (L : Int) := by omega
   obtain ⟨y, hy⟩ := HS.out i hil
   obtain ⟨b, off, rfl, k0, k1⟩ := (HV.out.upd TR H3.out.2 (by simp)).runs hy
   have hym := List.mem_of_getElem? hy
   have hp := HOK.out.pos y hym
   have hle := HOK.out.le y hym
   have hdr := lenR_drop hy
   have HFa := Lib.hid (foldAt_succ (runs := runs) hy)
   have hnd : y.2 ≤ nd := by rw [HND.out, hdr]; omega
   have hnd2 : nd - y.2 = lenR (rs.drop (i + 1)) := by rw [HND.out, hdr]; omega
   have HND2 := Lib.hid hnd2
   have hnd64 : nd ≤ 64 := by
    rw [HND.out]
    have : lenR rs = lenR (rs.take i) + lenR (rs.drop i) := by rw [← lenR_app, List.take_append_drop]
    omega
   obtain ⟨ya, yb⟩ := y
   dsimp only at *
   clear hdr hnd2 hy hym
   go_wp2_with fail
   have hsm1 := (HFS.out i).1
   have hs1 := H3.out.2.size
   refine (iput_ok (wr.alloc _) (H3.out.1.upd ((Upd.refl [] wr).alloc _) (by simp)) (by simp; omega) (by have := hsm1.len; omega) ya yb (by omega) (by omega) (fun x hx => ⟨by have := hsm1.one x hx; omega, by have := snd_le hx; have := hsm1.sum; omega⟩)).mono ?_
   rintro r w5 ⟨v5, rfl, ho5, hu5, hn5⟩
   rw [← HFa.out] at ho5
   have H5 : Hid (OwnG cR 148 2 w5 w.heap.size v5 (foldAt runs rs (i + 1)) ∧ Upd [] w w5) := Lib.hid ⟨ho5, (H3.out.2.alloc _).next hu5 (fun g hg hlt => by
    exfalso
    have e : (Value.slice a9 m9 c9).ownBlock = some g := by simpa using hg
    have := (H3.out.1.block g e).1; omega)⟩
   obtain ⟨a5, c5, m5, -, rfl⟩ := ho5.sliceM
   have e1 : ((nd : Int) - (yb : Int)) = ((nd - yb : Nat) : Int) := by omega
   clear ho5 hu5 hn5 hsm1 k0 k1
   rw [e1]
   go_wp2_with fail
   go_roundg (L - (i + 1))
   case rel => exact ⟨i + 1, nd - yb, a5, _, _, by first | rfl | go_num, rfl, by go_num, by omega, rfl, HND2, H5⟩
   case measure => omega
  ·have hlt : ¬ (i : Int) < (L : Int) := by omega
   obtain rfl : i = L := by omega
   have hnd0 : nd = 0 := by rw [HND.out, HFin.out.1]
   subst hnd0
   have hB := HN.out.1
   have hB3 := (H3.out.2.block q hql (by simp)).trans hB
   have c0 : wr.cell? ⟨q, 0, none⟩ = some (.int .i64 size) := cell_blk hB3 0
   have c1 : wr.cell? ⟨q, 1, none⟩ = some rv := cell_blk hB3 1
   have f0 := frozen_blk hB3 0
   have f1 := frozen_blk hB3 1
   have HB3 := Lib.hid hB3
   have hs3 := H3.out.2.size
   have hw1 : IntKind.i64.wrap ((size : Int) + n) = (size : Int) + n := IntWalk.i64_in _ (by omega)
   clear hB hB3
   go_wp2_with fail
   go_ret
   have hu : Upd [q] wr ((wr.setCell ⟨q, 0, none⟩ (.int .i64 ((size : Int) + n))).setCell ⟨q, 1, none⟩ (.slice a9 m9 c9)) := ((Upd.refl _ _).setCell (by simp) _ _).setCell (by simp) _ _
   have hB5 : ((wr.setCell ⟨q, 0, none⟩ (.int .i64 ((size : Int) + n))).setCell ⟨q, 1, none⟩ (.slice a9 m9 c9)).heap[q]? = some (.cells #[.int .i64 ((size : Int) + n), .slice a9 m9 c9] 143 (0, 0)) := by
    rw [heap_setCell, if_pos rfl, heap_setCell, if_pos rfl, HB3.out]; rfl
   have hown := H3.out.1
   rw [HFin.out.2] at hown
   refine ⟨rfl, _, ⟨?_, ?_⟩, (H3.out.2.mono (by simp)).trans hu, fun g hg => (H3.out.1.block g hg).1⟩
   ·rw [hB5]
    show some (Obj.cells #[.int .i64 ((size : Int) + n), _] _ _) = some (Obj.cells #[.int .i64 ((size + n : Nat) : Int), _] _ _)
    rw [Int.natCast_add]
   ·exact (hown.upd hu (fun j hj e => by have := (H3.out.1.block j e).1; simp at hj; omega)).base hbase
end Go.Proofs.YtgpefiacbipfpaaGreatDoor

namespace Go.Proofs.YtgpefiacbipfpaaGreatDoor
open Go.RowKit Go.Maps
theorem expand_at {rs : List Run} {i k b : Nat} {r : Run} (h : rs[i]? = some r) (hb : (expand (rs.drop i))[k]? = some b) : (k < r.2 ∧ b = r.1 + k) ∨ (r.2 ≤ k ∧ (expand (rs.drop (i + 1)))[k - r.2]? = some b) := by
 obtain ⟨hi, rfl⟩ := List.getElem?_eq_some_iff.1 h
 rw [List.drop_eq_getElem_cons hi, expand_cons] at hb
 by_cases hk : k < rs[i].2
 ·left
  rw [List.getElem?_append_left (by rw [List.length_range']; exact hk), List.getElem?_range' hk] at hb
  cases hb
  exact ⟨hk, by omega⟩
 ·right
  rw [List.getElem?_append_right (by rw [List.length_range']; omega), List.length_range'] at hb
  exact ⟨by omega, hb⟩
set_option maxRecDepth 100000 in
set_option maxHeartbeats 4000000 in
theorem iat_ok (w : World) {base q size : Nat} {rv : Value} {runs : List Run} (h : NodeR w base q size rv runs) (hs : size ≤ 32768) (hsm : Small runs 100000) (n : Nat) (hn : n < size) {b : Nat} (hb : (expand runs)[n / 512]? = some b) :
  Calls Tryz.prog 45 #[.pointer (some ⟨q, 0, none⟩), .int .i64 n] w fun r w' => r = .returned (.tuple #[.int .i64 b, .int .i64 (n % 512 : Nat), .int .i64 0]) ∧ Upd [] w w' := by
 have c0 : w.cell? ⟨q, 0, none⟩ = some (.int .i64 size) := cell_blk h.1 0
 have c1 : w.cell? ⟨q, 1, none⟩ = some rv := cell_blk h.1 1
 have hrd := OwnG.rd TR h.2
 obtain ⟨av, cv, rfl, hc1, hc2, -⟩ := hrd.slice
 have HV := Lib.hid hrd
 have HSM := Lib.hid hsm
 have hL := hsm.len
 have HS : Hid (∀ i, i < runs.length → ∃ y, runs[i]? = some y) := Lib.hid fun i h => ⟨_, List.getElem?_eq_getElem h⟩
 have HB0 : Hid ((expand (runs.drop 0))[n / 512]? = some b) := Lib.hid (by simpa using hb)
 have HEnd : Hid (expand (runs.drop runs.length) = []) := Lib.hid (by simp [expand])
 have hn1 : (n : Int) < (size : Int) := by omega
 have hd1 : decide ((n : Int) < 0) = false := decide_eq_false (by omega)
 have hd2 : decide (size ≤ n) = false := decide_eq_false (by omega)
 have hd3 : decide ((size : Int) ≤ (n : Int)) = false := decide_eq_false (by omega)
 generalize runs.length = L at *
 clear h hrd hsm hb
 go_enter Tryz.func45, Tryz.ntmps45
 go_wp2_with fail
 go_step3
 go_wp2_with fail
 go_step3
 go_wp2_with fail
 go_loopg [7, 32] L (fun gh v7 v32 wr => ∃ (i kk : Nat), v7 = .int .i64 kk ∧ v32 = .int .i64 i ∧ i ≤ L ∧ gh = L - i ∧ kk ≤ 64 ∧ Hid ((expand (runs.drop i))[kk]? = some b ∧ Upd [] w wr))
 case atStart => exact ⟨0, n / 512, by go_num, rfl, by omega, rfl, by omega, Lib.hid ⟨HB0.out, Upd.refl _ _⟩⟩
 case round =>
  obtain ⟨i, kk, rfl, rfl, hi, rfl, hk64, H1⟩ := hrel
  by_cases hil : i < L
  ·have hlt : (i : Int) < (L : Int) := by omega
   obtain ⟨y, hy⟩ := HS.out i hil
   obtain ⟨b0, off, rfl, k0, k1⟩ := (HV.out.upd TR H1.out.2 (by simp)).runs hy
   have hya := HSM.out.one y (List.mem_of_getElem? hy)
   have hyb := snd_le (List.mem_of_getElem? hy)
   have hsum := HSM.out.sum
   rcases expand_at hy H1.out.1 with ⟨hlt2, hbb⟩ | ⟨hge, hbb⟩
   ·have hlt2' : (kk : Int) < (y.2 : Int) := by omega
    have hbe : (b : Int) = (y.1 : Int) + (kk : Int) := by omega
    have HBE := Lib.hid hbe
    have hw1 : IntKind.i64.wrap ((y.1 : Int) + kk) = (y.1 : Int) + kk := IntWalk.i64_in _ (by omega)
    obtain ⟨ya, yb⟩ := y
    dsimp only at *
    clear hbe hy
    go_wp2_with fail
    rw [Exit.noGoto_ret]
    go_ret3
    refine ⟨?_, H1.out.2.alloc _⟩
    show Ending.returned (.tuple #[.int .i64 ((ya : Int) + kk), .int .i64 ((n : Int) % 512), .int .i64 0]) = _
    rw [HBE.out, show ((n % 512 : Nat) : Int) = (n : Int) % 512 by omega]
   ·have hlt2' : ¬ (kk : Int) < (y.2 : Int) := by omega
    obtain ⟨ya, yb⟩ := y
    dsimp only at *
    have HBB := Lib.hid hbb
    have e1 : (kk : Int) - (yb : Int) = ((kk - yb : Nat) : Int) := by omega
    have E1 := Lib.hid e1
    clear hbb hy e1
    go_wp2_with fail
    go_roundg (L - (i + 1))
    case rel => exact ⟨i + 1, kk - yb, by first | (rw [E1.out]) | go_num, by go_num, by omega, rfl, by omega, Lib.hid ⟨HBB.out, H1.out.2.alloc _⟩⟩
    case measure => omega
  ·exfalso
   obtain rfl : i = L := by omega
   have := H1.out.1
   rw [HEnd.out] at this
   simp at this
end Go.Proofs.YtgpefiacbipfpaaGreatDoor

namespace Go.Proofs.YtgpefiacbipfpaaGreatDoor
open Go.RowKit Go.Maps
def nodeAt (size : Nat) (runs : List Run) (i : Nat) : Bs := putU size ++ (putU runs.length ++ (runs.take i).flatMap runB)
theorem nodeAt_succ (size : Nat) {runs : List Run} {i : Nat} {r : Run} (h : runs[i]? = some r) : nodeAt size runs (i + 1) = (nodeAt size runs i ++ putU r.1) ++ putU r.2 := by
 unfold nodeAt
 rw [List.take_add_one, h]
 simp [runB]
theorem nodeAt_len {size : Nat} (hs : size ≤ 32768) {runs : List Run} (hsm : Small runs 1000) (i : Nat) : (nodeAt size runs i).length ≤ 20 + 20 * i := by
 induction i with
 | zero =>
  have h1 := putU_len64 (n := size) (by omega)
  have h2 := putU_len64 (n := runs.length) (by have := hsm.len; omega)
  simp [nodeAt]; omega
 | succ i ih =>
  by_cases hi : i < runs.length
  ·rw [nodeAt_succ size (List.getElem?_eq_getElem hi)]
   have h1 := putU_len64 (n := runs[i].1) (by have := hsm.one _ (List.getElem_mem hi); omega)
   have h2 := putU_len64 (n := runs[i].2) (by have := snd_le (List.getElem_mem hi); have := hsm.sum; omega)
   simp only [List.length_append]; omega
  ·have : nodeAt size runs (i + 1) = nodeAt size runs i := by unfold nodeAt; rw [List.take_of_length_le (by omega), List.take_of_length_le (by omega)]
   rw [this]; omega
set_option maxRecDepth 100000 in
set_option maxHeartbeats 4000000 in
theorem ibytes_ok (w : World) {base q size : Nat} {rv : Value} {runs : List Run} (h : NodeR w base q size rv runs) (hs : size ≤ 32768) (hsm : Small runs 1000) :
  Calls Tryz.prog 99 #[.pointer (some ⟨q, 0, none⟩)] w fun e w' => ∃ v', e = .returned v' ∧ Ow w' w.heap.size v' (putU size ++ putU runs.length ++ runs.flatMap runB) ∧ Upd [] w w' := by
 have hB := h.1
 have c0 : w.cell? ⟨q, 0, none⟩ = some (.int .i64 size) := cell_blk h.1 0
 have hrd := OwnG.rd TR h.2
 obtain ⟨av, cv, rfl, hc1, hc2, -⟩ := hrd.slice
 have HV := Lib.hid hrd
 have HSM := Lib.hid hsm
 have hL := hsm.len
 have HB := Lib.hid hB
 have HS : Hid (∀ i, i < runs.length → ∃ y, runs[i]? = some y) := Lib.hid fun i h => ⟨_, List.getElem?_eq_getElem h⟩
 have HNl := Lib.hid fun i => nodeAt_len hs hsm i
 have HFin : Hid (nodeAt size runs runs.length = putU size ++ putU runs.length ++ runs.flatMap runB) := Lib.hid (by simp [nodeAt])
 have HP1 := Lib.hid (putUint_ok w (Rd.nil w) size (by omega) (by simp))
 have HP2 : Hid (∀ (W : World) (v : Value), Rd W v ([] ++ putU size) → Calls Tryz.prog 95 #[v, .int .u64 runs.length] W fun e w' => ∃ v', e = .returned v' ∧ Ow w' W.heap.size v' (nodeAt size runs 0) ∧ Upd [] W w') :=
  Lib.hid fun W v h => (putUint_ok W h runs.length (by omega) (by have := putU_len64 (n := size) (by omega); simp; omega)).mono fun e w' ⟨v', h1, h2, h3⟩ => ⟨v', h1, by simpa [nodeAt] using h2, h3⟩
 generalize hLn : runs.length = L at *
 clear h hrd hsm hB hLn
 go_enter Tryz.func99, Tryz.ntmps99
 go_wp2_with fail
 refine HP1.out.mono ?_
 rintro r w1 ⟨v1, rfl, ho, hU⟩
 have hb1 := (hU.block q (lt_of_blk HB.out) (by simp)).trans HB.out
 have c1 : w1.cell? ⟨q, 1, none⟩ = some (.slice av L cv) := cell_blk hb1 1
 have HU1 := Lib.hid hU
 have HB1 := Lib.hid hb1
 have HP2' := Lib.hid (HP2.out w1 v1 (Ow.rd ho))
 obtain ⟨a1, k1, m1, -, rfl⟩ := ho.sliceM
 clear ho hU hb1 HP1 HP2
 go_wp2_with fail
 refine HP2'.out.mono ?_
 rintro r w2 ⟨v2, rfl, ho, hU⟩
 have hb2 := (hU.block q (lt_of_blk HB1.out) (by simp)).trans HB1.out
 have c1' : w2.cell? ⟨q, 1, none⟩ = some (.slice av L cv) := cell_blk hb2 1
 have HU2 := Lib.hid (HU1.out.trans hU)
 have HO2 := Lib.hid (ho.base HU1.out.size)
 obtain ⟨a2, k2, m2, -, rfl⟩ := ho.sliceM
 clear ho hU hb2 HP2'
 go_wp2_with fail
 go_loopg [3, 27] L (fun gh v3 v27 wr => ∃ (i : Nat) (a3 : Option Addr) (m3 k3 : Nat), v3 = .slice a3 m3 k3 ∧ v27 = .int .i64 i ∧ i ≤ L ∧ gh = L - i ∧ Hid (Ow wr w.heap.size (.slice a3 m3 k3) (nodeAt size runs i) ∧ Upd [] w wr))
 case atStart => exact ⟨0, a2, _, _, rfl, rfl, by omega, rfl, Lib.hid ⟨HO2.out, HU2.out⟩⟩
 case round =>
  obtain ⟨i, a3, m3, k3, rfl, rfl, hi, rfl, H3⟩ := hrel
  by_cases hil : i < L
  ·have hlt : (i : Int) < (L : Int) := by omega
   obtain ⟨y, hy⟩ := HS.out i hil
   obtain ⟨b0, off, rfl, e0, e1⟩ := (HV.out.upd TR H3.out.2 (by simp)).runs hy
   have hya := HSM.out.one y (List.mem_of_getElem? hy)
   have hyb := snd_le (List.mem_of_getElem? hy)
   have hsum := HSM.out.sum
   have HY := Lib.hid (nodeAt_succ size hy)
   have hnl := HNl.out i
   obtain ⟨ya, yb⟩ := y
   dsimp only at *
   clear hy
   go_wp2_with fail
   generalize hW1 : wr.alloc _ = W1
   have hu1 : Upd [] wr W1 := by rw [← hW1]; exact (Upd.refl [] wr).alloc _
   have hX : W1.heap[wr.heap.size]? = some (.cells #[.int .i64 ya, .int .i64 yb] 148) := by rw [← hW1]; exact heap_top _ _
   clear hW1 e0 e1
   refine (putUint_ok W1 (Ow.rd (H3.out.1.upd hu1 (by simp))) ya (by omega) (by omega)).mono ?_
   rintro r w5 ⟨v5, rfl, ho5, hU5⟩
   have d1 : w5.cell? ⟨wr.heap.size, 1, none⟩ = some (.int .i64 yb) := cell_keep hU5 (cell_blk hX 1)
   have HU5 := Lib.hid ((H3.out.2.trans hu1).trans hU5)
   have hpl := putU_len64 (n := ya) (by omega)
   have HP5 := Lib.hid (putUint_ok w5 (Ow.rd ho5) yb (by omega) (by rw [List.length_append]; omega))
   obtain ⟨a5, k5, m5, -, rfl⟩ := ho5.sliceM
   clear ho5 hU5 hX hu1
   go_wp2_with fail
   refine HP5.out.mono ?_
   rintro r w6 ⟨v6, rfl, ho6, hU6⟩
   rw [← HY.out] at ho6
   have H6 := Lib.hid (And.intro (ho6.base HU5.out.size) (HU5.out.trans hU6))
   obtain ⟨a6, k6, m6, -, rfl⟩ := ho6.sliceM
   clear ho6 hU6 HP5
   go_wp2_with fail
   go_roundg (L - (i + 1))
   case rel => exact ⟨i + 1, a6, _, _, rfl, by go_num, by omega, rfl, H6⟩
   case measure => omega
  ·have hlt : ¬ (i : Int) < (L : Int) := by omega
   obtain rfl : i = L := by omega
   go_wp2_with fail
   go_ret
   exact ⟨_, rfl, by have := H3.out.1; rw [HFin.out, List.append_assoc] at this; exact this, H3.out.2⟩
end Go.Proofs.YtgpefiacbipfpaaGreatDoor
