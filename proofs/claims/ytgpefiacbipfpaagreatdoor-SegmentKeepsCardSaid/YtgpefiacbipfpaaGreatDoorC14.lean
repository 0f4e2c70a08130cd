/- A file's node in memory: New, Size, blocks, Runs. A node's Need. A node's Copy. A run behind others. -/
import Derived.Deep.RegionHeld3
import Derived.BigQuiet
import Derived.Deep.DeepCutAuto
import Derived.Test.YtgpefiacbipfpaaGreatDoorC10
import Derived.Test.YtgpefiacbipfpaaGreatDoorC12
namespace Go.Proofs.YtgpefiacbipfpaaGreatDoor
open Go.RowKit Go.Maps
abbrev boxN (size : Nat) (rv : Value) : Obj := .cells #[.int .i64 size, rv] 143 (0, 0)
def NodeR (w : World) (base q size : Nat) (rv : Value) (runs : List Run) : Prop := w.heap[q]? = some (boxN size rv) ∧ OwnG cR 148 2 w base rv runs
set_option maxRecDepth 100000 in
theorem inew_ok (w : World) : Calls Tryz.prog 39 #[] w fun e w' => e = .returned (.pointer (some ⟨w.heap.size, 0, none⟩)) ∧ NodeR w' w.heap.size w.heap.size 0 (.slice none 0 0) [] ∧ Upd [] w w' ∧ w'.heap.size = w.heap.size + 1 := by
 go_enter Tryz.func39, Tryz.ntmps39
 go_wp2_with fail
 go_ret
 exact ⟨rfl, ⟨heap_top _ _, OwnG.nil _ _⟩, (Upd.refl [] w).alloc _, by simp⟩
set_option maxRecDepth 100000 in
theorem isize_ok (w : World) {base q size : Nat} {rv : Value} {runs : List Run} (h : NodeR w base q size rv runs) : Calls Tryz.prog 43 #[.pointer (some ⟨q, 0, none⟩)] w fun e w' => e = .returned (.int .i64 size) ∧ w' = w := by
 have c0 := cell_blk h.1 0
 simp only [List.getElem?_toArray, List.getElem?_cons_zero] at c0
 clear h
 go_enter Tryz.func43, Tryz.ntmps43
 go_wp2_with fail
 go_ret
 exact ⟨rfl, rfl⟩
set_option maxRecDepth 100000 in
theorem isize_nil (w : World) : Calls Tryz.prog 43 #[.pointer none] w fun e w' => e = .returned (.int .i64 0) ∧ w' = w := by
 go_enter Tryz.func43, Tryz.ntmps43
 go_wp2_with fail
 go_ret
 exact ⟨rfl, rfl⟩
set_option maxRecDepth 100000 in
theorem iblocks_ok (w : World) (n : Nat) (hn : n ≤ 1000000) : Calls Tryz.prog 86 #[.int .i64 n] w fun e w' => e = .returned (.int .i64 ((n + 511) / 512 : Nat)) ∧ w' = w := by
 go_enter Tryz.func86, Tryz.ntmps86
 go_wp2_with fail
 go_ret
 refine ⟨?_, rfl⟩
 have e : ((n : Int) + 512 - 1) / 512 = (((n + 511) / 512 : Nat) : Int) := by omega
 show Ending.returned (.int .i64 (((n : Int) + 512 - 1) / 512)) = _
 rw [e]
set_option maxRecDepth 100000 in
theorem iruns_ok (w : World) {base q size : Nat} {rv : Value} {runs : List Run} (h : NodeR w base q size rv runs) (hl : runs.length ≤ 1000000) : Calls Tryz.prog 89 #[.pointer (some ⟨q, 0, none⟩)] w fun e w' => ∃ v', e = .returned v' ∧ OwnG cR 148 2 w' w.heap.size v' runs ∧ Upd [] w w' := by
 have c1 := cell_blk h.1 1
 simp only [List.getElem?_toArray, List.getElem?_cons_zero, List.getElem?_cons_succ] at c1
 have HC := Lib.hid (cloneR_ok w (OwnG.rd TR h.2) (by omega))
 clear h
 go_enter Tryz.func89, Tryz.ntmps89
 go_wp2_with fail
 refine HC.out.mono ?_
 rintro e w1 ⟨v', rfl, ho, hu⟩
 have H1 := Lib.hid (And.intro ho hu)
 clear ho hu
 go_wp2_with fail
 go_ret
 exact ⟨v', rfl, H1.out.1, H1.out.2⟩
end Go.Proofs.YtgpefiacbipfpaaGreatDoor

namespace Go.Proofs.YtgpefiacbipfpaaGreatDoor
open Go.RowKit Go.Maps
def blksOf (n : Nat) : Nat := (n + 511) / 512
set_option maxRecDepth 100000 in
set_option maxHeartbeats 2000000 in
theorem need_ok (w : World) {base q size : Nat} {rv : Value} {runs : List Run} (h : NodeR w base q size rv runs) (hs : size ≤ 32768) (n : Nat) (hn : n ≤ 140737488355328) :
  Calls Tryz.prog 41 #[.pointer (some ⟨q, 0, none⟩), .int .i64 n] w fun e w' => e = .returned (.tuple #[.int .i64 (if 32768 < size + n then 0 else blksOf (size + n) - blksOf size : Nat), .int .i64 (if 32768 < size + n then 60 else 0 : Nat)]) ∧ w'.Alike w := by
 have c0 := cell_blk h.1 0
 simp only [List.getElem?_toArray, List.getElem?_cons_zero] at c0
 clear h
 by_cases hlt : 32768 < size + n
 ·have h1 : (32768 : Int) - (size : Int) < (n : Int) := by omega
  rw [if_pos hlt, if_pos hlt]
  go_enter Tryz.func41, Tryz.ntmps41
  go_wp2_with fail
  go_ret2
  exact ⟨rfl, rfl, rfl, rfl⟩
 ·have h1 : ¬ (32768 : Int) - (size : Int) < (n : Int) := by omega
  rw [if_neg hlt, if_neg hlt]
  have hb : ∀ W, Calls Tryz.prog 86 #[.int .i64 size] W fun e w' => e = .returned (.int .i64 (blksOf size : Nat)) ∧ w' = W := fun W => iblocks_ok W size (by omega)
  have hb2 : ∀ W, Calls Tryz.prog 86 #[.int .i64 ((size : Int) + n)] W fun e w' => e = .returned (.int .i64 (blksOf (size + n) : Nat)) ∧ w' = W := fun W => by
   have := iblocks_ok W (size + n) (by omega)
   rwa [Int.natCast_add] at this
  have HB := Lib.hid hb
  have HB2 := Lib.hid hb2
  have hsub : blksOf size ≤ blksOf (size + n) := by unfold blksOf; omega
  have hbd : blksOf (size + n) ≤ 64 := by unfold blksOf; omega
  have hw1 : IntKind.i64.wrap ((size : Int) + n) = (size : Int) + n := IntWalk.i64_in _ (by omega)
  have e3 : (blksOf (size + n) : Int) - (blksOf size : Int) = ((blksOf (size + n) - blksOf size : Nat) : Int) := by omega
  have hw2 : IntKind.i64.wrap ((blksOf (size + n) : Int) - (blksOf size : Int)) = ((blksOf (size + n) - blksOf size : Nat) : Int) := by rw [IntWalk.i64_in _ (by omega)]; exact e3
  have E3 := Lib.hid e3
  clear hb hb2 e3
  generalize blksOf (size + n) = b2 at *
  generalize blksOf size = b1 at *
  go_enter Tryz.func41, Tryz.ntmps41
  go_wp2_with fail
  go_region_held3 (fun w' => w'.cell? ⟨q, 0, none⟩ = some (.int .i64 size))
   (first
    | (with_reducible exact c0)
    | (with_reducible exact held1 (Upd.refl [] w).drew c0))
   (first
    | (go_at_call 86; (with_reducible refine (HB.out _).mono ?_); rintro e w5 ⟨rfl, rfl⟩)
    | (go_at_call 86; (with_reducible refine (HB2.out _).mono ?_); rintro e w5 ⟨rfl, rfl⟩))
  go_wp2_with fail
  go_ret2
  exact ⟨rfl, by first | exact alike_drew _ | exact alike_refl _⟩
end Go.Proofs.YtgpefiacbipfpaaGreatDoor

namespace Go.Proofs.YtgpefiacbipfpaaGreatDoor
open Go.RowKit Go.Maps
set_option maxRecDepth 100000 in
set_option maxHeartbeats 2000000 in
theorem icopy_ok (w : World) {base q size : Nat} {rv : Value} {runs : List Run} (h : NodeR w base q size rv runs) (hl : runs.length ≤ 1000000) :
  Calls Tryz.prog 113 #[.pointer (some ⟨q, 0, none⟩)] w fun e w' => ∃ q' rv', e = .returned (.pointer (some ⟨q', 0, none⟩)) ∧ NodeR w' w.heap.size q' size rv' runs ∧ w.heap.size ≤ q' ∧ Upd [] w w' := by
 have c0 := cell_blk h.1 0
 have c1 := cell_blk h.1 1
 simp only [List.getElem?_toArray, List.getElem?_cons_zero, List.getElem?_cons_succ] at c0 c1
 have hrd := OwnG.rd TR h.2
 obtain ⟨a, c, m, hm, rfl⟩ := h.2.sliceM
 have HC := Lib.hid fun (W : World) (u : Upd [] w W) => cloneR_ok W (hrd.keep TR u) (by omega)
 clear h hrd hm
 go_enter Tryz.func113, Tryz.ntmps113
 go_wp2_with fail
 go_region_held3 (fun w' => w'.cell? ⟨q, 0, none⟩ = some (.int .i64 size) ∧ w'.cell? ⟨q, 1, none⟩ = some (.slice a m c))
  (first
   | (with_reducible exact held2 (Upd.refl [] w).drew ⟨c0, c1⟩)
   | (with_reducible exact held2 hv6 ⟨c0, c1⟩)
   | (with_reducible exact held2 (hv6.alloc _) ⟨c0, c1⟩))
  (first
   | (go_at_call 139; (with_reducible refine (HC.out _ ?_).mono ?_); (exact (Upd.refl [] w).drew); rintro e w6 ⟨v6, rfl, ho6, hu6⟩; obtain ⟨a6, c6, m6, hm6, rfl⟩ := ho6.sliceM; have hv6 : Upd [] w w6 := (Upd.refl [] w).drew.trans hu6; have HO6 := Lib.hid ho6; clear hm6))
 go_wp2_with fail
 go_ret
 exact ⟨w6.heap.size, _, rfl, ⟨heap_top _ _, HO6.out.upd ((Upd.refl [] w6).alloc _) (by simp)⟩, hv6.size, hv6.alloc _⟩
end Go.Proofs.YtgpefiacbipfpaaGreatDoor

namespace Go.Proofs.YtgpefiacbipfpaaGreatDoor
open Go.RowKit Go.Maps
theorem OwnG.setLast {w : World} {base g c n : Nat} {rs0 : List Run} {x : Run} (h : OwnG cR 148 2 w base (.slice (some ⟨g, 0, none⟩) n c) (rs0 ++ [x])) (y : Nat) :
  OwnG cR 148 2 (w.setCell ⟨g, rs0.length * 2 + 1, none⟩ (.int .i64 y)) base (.slice (some ⟨g, 0, none⟩) n c) (rs0 ++ [(x.1, y)]) := by
 obtain ⟨h1, h2⟩ := h
 have e0 : (rs0 ++ [(x.1, y)]).length = (rs0 ++ [x]).length := by simp
 refine ⟨by rw [flatG_len TR], ?_⟩
 rcases h2 with ⟨h2, -⟩ | ⟨g', cap, cur, hv, hg, hh, r1, r2, r3, r4⟩
 ·cases h2
 ·cases hv
  refine .inr ⟨g, c, cur.setIfInBounds (rs0.length * 2 + 1) (.int .i64 y), by rw [e0], hg, ?_, by rw [e0]; exact r1, r2, by simpa using r3, ?_⟩
  ·rw [heap_setCell, if_pos rfl, hh]; rfl
  ·rw [e0, Array.toList_setIfInBounds, List.take_set, r4]
   have hf : flatG cR (rs0 ++ [x]) = flatG cR rs0 ++ [.int .i64 x.1, .int .i64 x.2] := by rw [flatG_app]; simp [flatG, cR]
   have hf2 : flatG cR (rs0 ++ [(x.1, y)]) = flatG cR rs0 ++ [.int .i64 x.1, .int .i64 y] := by rw [flatG_app]; simp [flatG, cR]
   have hl : (flatG cR rs0).length = rs0.length * 2 := flatG_len TR rs0
   rw [hf, hf2, List.set_append_right _ _ (by omega), hl]
   have : rs0.length * 2 + 1 - rs0.length * 2 = 1 := by omega
   rw [this]; rfl
def PutPost (w : World) (base : Nat) (v : Value) (l : List Run) (r : Ending) (w' : World) : Prop := ∃ v', r = .returned v' ∧ OwnG cR 148 2 w' base v' l ∧ Upd v.ownBlock.toList w w' ∧ (v'.ownBlock = v.ownBlock ∨ ∀ g, v'.ownBlock = some g → w.heap.size ≤ g)
theorem put_tail {w w2 w3 : World} {base : Nat} {v v' : Value} {a b : Nat} {rs : List Run} (he : putRun rs (a, b) = rs ++ [(a, b)]) (hu : Upd [] w w2) (ho : OwnG cR 148 2 w3 base v' (rs ++ [(a, b)])) {ty : TypeId} (hg : (w2.alloc (.cells #[.int .i64 a, .int .i64 b] ty)).grownBy w3 v.ownBlock) (hn : v'.ownBlock = v.ownBlock ∨ ∀ g, v'.ownBlock = some g → w2.heap.size + 1 ≤ g) :
  PutPost w base v (putRun rs (a, b)) (.returned v') w3 := by
 rw [he]
 have hu2 : Upd v.ownBlock.toList w2 w3 := by
  have := upd_row hg
  exact ⟨this.os, this.output, Nat.le_trans (by simp) this.size, fun k hk hn => by rw [this.block k (by simp; omega) hn, heap_alloc, if_neg (by omega)]⟩
 exact ⟨v', rfl, ho, (hu.mono (by simp)).trans hu2, hn.imp id fun q g hg => by have := q g hg; have := hu.size; omega⟩
set_option maxRecDepth 100000 in
set_option maxHeartbeats 4000000 in
theorem iput_ok (w : World) {base : Nat} {v : Value} {rs : List Run} (h : OwnG cR 148 2 w base v rs) (hb : base ≤ w.heap.size) (hl : rs.length ≤ 1000000) (a b : Nat) (ha : a ≤ 100000000) (hbb : b ≤ 100000000) (hrs : ∀ x ∈ rs, x.1 ≤ 100000000 ∧ x.2 ≤ 100000000) :
  Calls Tryz.prog 90 #[v, .agg #[.int .i64 a, .int .i64 b]] w (PutPost w base v (putRun rs (a, b))) := by
 have H := Lib.hid h
 obtain ⟨av, cv, m, hm, rfl⟩ := h.sliceM
 have HO : Hid (∀ W : World, Upd [] w W → OwnG cR 148 2 W base (.slice av m cv) rs) := Lib.hid fun W u => h.upd u (by simp)
 rcases List.eq_nil_or_concat rs with rfl | ⟨rs0, x, rfl⟩
 ·have hm0 : m = 0 := hm
  clear hm h hrs hl
  subst hm0
  go_enter Tryz.func90, Tryz.ntmps90
  go_wp2_with fail
  go_quiet (fail)
  go_upto_region 5 with (fail)
  have hX := heap_top w (.cells #[.int .i64 a, .int .i64 b] 148)
  have hu : Upd [] w ((w.alloc (.cells #[.int .i64 a, .int .i64 b] 148)).drewN nq) := ((Upd.refl [] w).alloc _).drewN nq
  have b0 : ((w.alloc (.cells #[.int .i64 a, .int .i64 b] 148)).drewN nq).cell? ⟨w.heap.size, 0, none⟩ = some (.int .i64 a) := cell_blk hX 0
  have b1 : ((w.alloc (.cells #[.int .i64 a, .int .i64 b] 148)).drewN nq).cell? ⟨w.heap.size, 1, none⟩ = some (.int .i64 b) := cell_blk hX 1
  clear hX
  generalize (w.alloc (.cells #[.int .i64 a, .int .i64 b] 148)).drewN nq = w2 at *
  have HU := Lib.hid hu
  have hs2 := hu.size
  clear hu
  go_wp2_with (first
   | (at_builtin; refine wpList_append_G TR rfl _ _ rfl (base := base) (l := []) (r := [(a, b)]) rfl (HO.out _ (HU.out.alloc _)) rfl (src_new TR (ty := 148) (heap_top _ _)) (oneR _) ?c1 ?c2 ?c3 ?_)
   | fail)
  case c1 => simp
  case c2 => simp
  case c3 => (try simp); omega
  intro v3 w3 ho3 hg3 hn3
  have HP := Lib.hid (put_tail (rs := []) rfl HU.out (by simpa using ho3) hg3 (hn3.imp id fun q g hg => by have := q g hg; (try simp at this); omega))
  obtain ⟨a3, c3, m3, -, rfl⟩ := ho3.sliceM
  clear ho3 hg3 hn3
  go_wp2_with fail
  go_ret
  exact HP.out
 ·rw [List.concat_eq_append] at *
  have hx := hrs x (by simp)
  obtain ⟨g, c', hv, hg1, hg2⟩ := h.headG (by simp)
  have hm' : m = rs0.length + 1 := by rw [hm]; simp
  simp only [Value.slice.injEq] at hv
  obtain ⟨rfl, -, rfl⟩ := hv
  have hat := (OwnG.at TR h).2.2.2 rs0.length (by simp)
  have hfz := hat.choose_spec.2.2.1
  obtain ⟨g', hg', -, hfr, hc⟩ := hat
  cases hg'
  have hxe : (rs0 ++ [x])[rs0.length]'(by simp) = x := by simp
  rw [hxe] at hc
  have hcap := (OwnG.at TR h).2.1
  have HQ : Hid (rs0.length = rs0.length) := Lib.hid rfl
  have hm1 : ((m : Nat) : Int) - 1 = (rs0.length : Int) := by omega
  have hlt0 : (0 : Int) ≤ (rs0.length : Int) := by omega
  have hlt1 : (rs0.length : Int) < (m : Int) := by omega
  have HM := Lib.hid hm'
  clear hm'
  obtain ⟨xa, xb⟩ := x
  dsimp only at hx
  have k0 : ∀ W, Upd [] w W → W.cell? ⟨g, rs0.length * 2, none⟩ = some (.int .i64 xa) := fun W u => cell_keep u (hc 0 _ rfl)
  have k1 : ∀ W, Upd [] w W → W.cell? ⟨g, rs0.length * 2 + 1, none⟩ = some (.int .i64 xb) := fun W u => cell_keep u (hc 1 _ rfl)
  have kf : ∀ W, Upd [] w W → W.frozen? ⟨g, rs0.length * 2 + 1, none⟩ = false := fun W u => by
   rw [← hfr (rs0.length * 2 + 1)]
   unfold World.frozen?
   rw [u.block g hg2 (by simp)]
  have HL : Hid (rs0.length ≤ 1000000) := Lib.hid (by simp at hl; omega)
  have hql : rs0.length ≤ 1000000 := HL.out
  have hw0 : Upd [] w (w.alloc (.cells #[.int .i64 a, .int .i64 b] 148)) := (Upd.refl [] w).alloc _
  have d0 := k0 _ hw0
  have d1 := k1 _ hw0
  have hng : g ≠ w.heap.size := by omega
  have K1 := Lib.hid k1
  have KF := Lib.hid kf
  have hput : putRun (rs0 ++ [(xa, xb)]) (a, b) = if xa + xb = a then rs0 ++ [(xa, xb + b)] else rs0 ++ [(xa, xb)] ++ [(a, b)] := putRun_snoc _ _ _
  have HPut := Lib.hid hput
  have hlen2 : (rs0 ++ [(xa, xb)]).length = rs0.length + 1 := by simp
  have HLen2 := Lib.hid hlen2
  clear hxe hc hm
  generalize hq : rs0.length = q at *
  have hq1' : (m : Int) ≤ (cv : Int) := by omega
  have hwx : IntKind.i64.wrap ((xa : Int) + xb) = (xa : Int) + xb := IntWalk.i64_in _ (by omega)
  have hwy : IntKind.i64.wrap ((xb : Int) + b) = (xb : Int) + b := IntWalk.i64_in _ (by omega)
  clear hfr h hrs hl hput hlen2 k0 k1 kf hw0
  have HQ2 := Lib.hid hq
  clear hq HQ
  by_cases hmg : xa + xb = a
  ·have hmg' : (xa : Int) + (xb : Int) = (a : Int) := by omega
   have hmg2 : ((xa : Int) + (xb : Int) == (a : Int)) = true := by simpa using hmg'
   go_enter Tryz.func90, Tryz.ntmps90
   go_wp2_with fail
   go_quiet (fail)
   go_upto_region 3 with (fail)
   have hX := heap_top w (.cells #[.int .i64 a, .int .i64 b] 148)
   have hu : Upd [] w ((w.alloc (.cells #[.int .i64 a, .int .i64 b] 148)).drewN nq) := ((Upd.refl [] w).alloc _).drewN nq
   have b1 : ((w.alloc (.cells #[.int .i64 a, .int .i64 b] 148)).drewN nq).drew.cell? ⟨w.heap.size, 1, none⟩ = some (.int .i64 b) := cell_blk hX 1
   clear hX
   generalize (w.alloc (.cells #[.int .i64 a, .int .i64 b] 148)).drewN nq = w2 at *
   have HU := Lib.hid hu
   have e1 := K1.out _ hu.drew
   have e2 := KF.out _ hu.drew
   clear hu d0 d1
   go_region
   all_goals
    go_wp2_with fail
    go_ret
    have HO2 := (HO.out _ HU.out.drew).setLast (xb + b)
    rw [HQ2.out] at HO2
    have e3 : ((xb + b : Nat) : Int) = (xb : Int) + b := by omega
    rw [e3] at HO2
    refine ⟨_, rfl, by rw [HPut.out, if_pos hmg]; exact HO2, (HU.out.drew.mono (by simp)).setCell (by simp [Value.ownBlock]) _ _, .inl rfl⟩
  ·have hmg' : ¬ (xa : Int) + (xb : Int) = (a : Int) := by omega
   have hmg2 : ((xa : Int) + (xb : Int) == (a : Int)) = false := by simpa using hmg'
   go_enter Tryz.func90, Tryz.ntmps90
   go_wp2_with fail
   go_quiet (fail)
   go_upto_region 5 with (fail)
   have hX := heap_top w (.cells #[.int .i64 a, .int .i64 b] 148)
   have hu : Upd [] w ((w.alloc (.cells #[.int .i64 a, .int .i64 b] 148)).drewN nq) := ((Upd.refl [] w).alloc _).drewN nq
   have b0 : ((w.alloc (.cells #[.int .i64 a, .int .i64 b] 148)).drewN nq).cell? ⟨w.heap.size, 0, none⟩ = some (.int .i64 a) := cell_blk hX 0
   have b1 : ((w.alloc (.cells #[.int .i64 a, .int .i64 b] 148)).drewN nq).cell? ⟨w.heap.size, 1, none⟩ = some (.int .i64 b) := cell_blk hX 1
   clear hX
   generalize (w.alloc (.cells #[.int .i64 a, .int .i64 b] 148)).drewN nq = w2 at *
   have HU := Lib.hid hu
   have hs2 := hu.size
   clear hu
   go_wp2_with (first
    | (at_builtin; refine wpList_append_G TR rfl _ _ rfl (base := base) (l := rs0 ++ [(xa, xb)]) (r := [(a, b)]) rfl (HO.out _ (HU.out.alloc _)) rfl (src_new TR (ty := 148) (heap_top _ _)) (oneR _) ?c1 ?c2 ?c3 ?_)
    | fail)
   case c1 => (simp only [List.length_append, List.length_cons, List.length_nil, HQ2.out]; omega)
   case c2 => (simp only [List.length_append, List.length_cons, List.length_nil, HQ2.out]; omega)
   case c3 => (try simp); omega
   intro v3 w3 ho3 hg3 hn3
   have HP := Lib.hid (put_tail (rs := rs0 ++ [(xa, xb)]) (by rw [HPut.out, if_neg hmg]) HU.out (by simpa using ho3) hg3 (hn3.imp id fun q g hg => by have := q g hg; (try simp at this); omega))
   obtain ⟨a3, c3, m3, -, rfl⟩ := ho3.sliceM
   clear ho3 hg3 hn3
   go_wp2_with fail
   go_ret
   exact HP.out
end Go.Proofs.YtgpefiacbipfpaaGreatDoor
