/- The codec's walks: PutText, Put32, table, Sum. The codec's walks: Sum. The codec's walks: U32, Uint, Text. The codec's walks: Text, PutFrame, Frame. -/
import Derived.Lib.AppendStr
import Derived.Laws.Tables
import Derived.Laws.Rows
import Derived.Deep.WholeRow
import Derived.Deep.MidRow
import Derived.BigQuiet
import Derived.Laws.IdiomStrings
import Derived.Test.YtgpefiacbipfpaaGreatDoorC02
namespace Go.Proofs.YtgpefiacbipfpaaGreatDoor
open Go.RowKit
theorem strCells8 (s : ByteArray) : Lib.strCells s = flatG c8 s.data.toList := by
 rw [flat8]; simp [Lib.strCells]
set_option maxRecDepth 100000 in
set_option maxHeartbeats 1000000 in
theorem putText_ok (w : World) {v : Value} {l : Bs} (h : Rd w v l) (s : ByteArray) (hs : s.size ≤ 1000000) (hl : l.length ≤ 100000000) : Calls Tryz.prog 98 #[v, .string s] w fun e w' => ∃ v', e = .returned v' ∧ Ow w' w.heap.size v' (l ++ (putU s.size ++ s.data.toList)) ∧ Upd [] w w' := by
 have HC := Lib.hid (putUint_ok w h s.size (by omega) hl)
 clear h
 go_enter Tryz.func98, Tryz.ntmps98
 go_wp2_with fail
 refine HC.out.mono ?_
 rintro e w1 ⟨v1, rfl, hown, hU⟩
 have HU := Lib.hid hU
 have hsz := hU.size
 have hx := putU_len64 (n := s.size) (by omega)
 obtain ⟨i0, hi0, hz0, hz1, hz2⟩ := info_parts (show (Tryz.prog.info? 5).map (fun i => (i.zero, i.size, i.bytes)) = some (some (.int .u8 0), 1, 1) by kernel_rfl)
 have hlen : (l ++ putU s.size).length ≤ 100000010 := by rw [List.length_append]; omega
 clear hU HC
 go_wp2_with (at_builtin; refine Lib.wpList_append_own_string _ rfl _ _ 23 9 rfl w.heap.size 5 i0 Tryz.underlying23 Tryz.underlying9 hi0 hz0 hz1 hz2 _ _ _ rfl hown s rfl ?c1 ?c2 ?c3 ?_)
 case c1 => unfold maxLen; omega
 case c2 => omega
 case c3 => omega
 intro v2 w2 hown2 hg2 _
 have HU2 : Hid (Upd [] w w2) := Lib.hid (HU.out.grown hg2 (fun k hk => (hown.block k hk).1))
 clear hg2 HU hown
 go_wp2_with fail
 go_ret
 refine ⟨_, rfl, ?_, HU2.out⟩
 unfold Ow OwnG
 rw [← List.append_assoc, flatG_app, List.length_append, ← strCells8]
 simpa using hown2
theorem src_bytes4 (w : World) {x0 x1 x2 x3 : Int} {b0 b1 b2 b3 : UInt8} (h0 : x0 = b0.toNat) (h1 : x1 = b1.toNat) (h2 : x2 = b2.toNat) (h3 : x3 = b3.toNat) (ty : TypeId) :
  SrcG c8 (w.alloc (.cells #[.int .u8 x0, .int .u8 x1, .int .u8 x2, .int .u8 x3] ty)) (some ⟨w.heap.size, 0, none⟩) [b0, b1, b2, b3] :=
 src_new T8 (by subst h0 h1 h2 h3; exact heap_top _ _)
theorem byte_sh {n : Nat} (h : n < 4294967296) : (n : Int) % 256 = ((loB n).toNat : Int) ∧ (n : Int) / 256 % 256 = ((loB (n >>> 8)).toNat : Int) ∧ (n : Int) / 65536 % 256 = ((loB (n >>> 16)).toNat : Int) ∧ (n : Int) / 16777216 = ((loB (n >>> 24)).toNat : Int) := by
 simp only [loB, UInt8.toNat_ofNat', Nat.shiftRight_eq_div_pow]
 omega
set_option maxRecDepth 100000 in
set_option maxHeartbeats 1000000 in
theorem put32_ok (w : World) {v : Value} {l : Bs} (h : Rd w v l) (n : Nat) (hn : n < 4294967296) (hl : l.length ≤ 100000000) : Calls Tryz.prog 119 #[v, .int .u32 n] w fun e w' => ∃ v', e = .returned v' ∧ Ow w' w.heap.size v' (l ++ put32 n) ∧ Upd [] w w' := by
 obtain ⟨a, c, rfl, h1, h2, h3⟩ := h.slice
 have HR := Lib.hid (h.rdy w.heap.size)
 have HS := Lib.hid (byte_sh hn)
 clear h
 go_enter Tryz.func119, Tryz.ntmps119
 go_wp2_with fail
 refine (room_ok w a l.length c h1 h2 h3).mono ?_
 rintro e w1 ⟨rfl, rfl⟩
 go_wp2_with (at_builtin; refine wpList_append_ready T8 rfl _ _ rfl (base := w.heap.size) (l := l) rfl (HR.out.keep T8 ((Upd.refl [] w).alloc _)) rfl (src_bytes4 _ HS.out.1 HS.out.2.1 HS.out.2.2.1 HS.out.2.2.2 _) (by simp) (one8 _) ?c1 ?c2 ?c3 ?_)
 case c1 => (first | omega | (simp; done) | (simp; omega))
 case c2 => (first | omega | (simp; done) | (simp; omega))
 case c3 => (first | omega | (simp; done) | (simp; omega))
 intro v2 w2 hown2 hb2
 have HU2 : Hid (Upd [] w w2) := Lib.hid (((Upd.refl [] w).alloc _).below hb2 (Nat.le_refl _))
 clear hb2 HR
 go_wp2_with fail
 go_ret
 exact ⟨_, rfl, hown2, HU2.out⟩
abbrev tabC : Array Value := #[.int .u32 (crcTab 0), .int .u32 (crcTab 1), .int .u32 (crcTab 2), .int .u32 (crcTab 3), .int .u32 (crcTab 4), .int .u32 (crcTab 5), .int .u32 (crcTab 6), .int .u32 (crcTab 7),
 .int .u32 (crcTab 8), .int .u32 (crcTab 9), .int .u32 (crcTab 10), .int .u32 (crcTab 11), .int .u32 (crcTab 12), .int .u32 (crcTab 13), .int .u32 (crcTab 14), .int .u32 (crcTab 15)]
def tabUpto (i : Nat) : Array Value := ((List.range 16).map fun j => Value.int .u32 (if j < i then crcTab j else 0)).toArray
theorem tabUpto_set {i : Nat} (h : i < 16) : (tabUpto i).setIfInBounds i (.int .u32 (crcTab i)) = tabUpto (i + 1) := by
 apply Array.ext'
 simp only [tabUpto, Array.toList_setIfInBounds]
 apply List.ext_getElem?
 intro j
 simp only [List.getElem?_set, List.length_map, List.length_range, List.getElem?_map]
 by_cases e : i = j
 ·subst e; simp [h]
 ·rw [if_neg e]
  by_cases hj : j < 16
  ·simp only [List.getElem?_range hj, Option.map_some]
   congr 2
   by_cases h1 : j < i
   ·rw [if_pos h1, if_pos (by omega)]
   ·rw [if_neg h1, if_neg (by omega)]
  ·rw [List.getElem?_eq_none (by simp; omega)]; simp
theorem tabUpto_all : tabUpto 16 = tabC := rfl
theorem tabUpto_size (i : Nat) : (tabUpto i).size = 16 := by simp [tabUpto]
theorem tabUpto_one (i : Nat) : (tabUpto i).all (·.oneCell') = true := by
 rw [Array.all_eq_true_iff_forall_mem]
 intro v hv
 simp only [tabUpto, List.mem_toArray, List.mem_map] at hv
 obtain ⟨j, -, rfl⟩ := hv
 rfl
def crcSteps : Nat → Nat → Nat
 | 0, r => r
 | k + 1, r => crcSteps k (crcStep r)
theorem crcStep_int {r : Nat} (h : r < 4294967296) : bits .xor .u32 ((r : Int) / 2) (2197175160 * bits .and .u32 (r : Int) 1 % 4294967296) = ((crcStep r : Nat) : Int) := by
 have h1 := (bits32 (a := r) (b := 1) h (by omega)).2.1
 have h1' : bits .and .u32 (r : Int) 1 = ((r &&& 1 : Nat) : Int) := h1
 rw [h1']
 have e1 : (r : Int) / (2 : Int) = ((r >>> 1 : Nat) : Int) := by rw [Nat.shiftRight_eq_div_pow]; omega
 have e2 : (2197175160 * ((r &&& 1 : Nat) : Int)) % 4294967296 = ((0x82f63b78 * (r &&& 1) % 2 ^ 32 : Nat) : Int) := by omega
 rw [e1, e2]
 exact (bits32 (by rw [Nat.shiftRight_eq_div_pow]; omega) (Nat.mod_lt _ (by decide))).2.2
set_option maxRecDepth 100000 in
set_option maxHeartbeats 1000000 in
theorem table_ok (w : World) : Calls Tryz.prog 155 #[] w fun e w' => e = .returned (.agg tabC) ∧ Upd [] w w' := by
 go_enter Tryz.func155, Tryz.ntmps155
 go_wp2_with fail
 have hA : Hid (((w.alloc (.cells (tabUpto 0) 216)).alloc (.cells (tabUpto 0) 216)).heap[w.heap.size]? = some (.cells (tabUpto 0) 216 (0, 0)) ∧ ((w.alloc (.cells (tabUpto 0) 216)).alloc (.cells (tabUpto 0) 216)).heap[w.heap.size + 1]? = some (.cells (tabUpto 0) 216 (0, 0))) := by
  refine Lib.hid ⟨?_, ?_⟩
  ·rw [heap_alloc, if_neg (by simp), heap_top]
  ·rw [heap_alloc, if_pos (by simp)]
 go_loopg [4] 16 (fun k v wr => ∃ i : Nat, v = .int .i64 i ∧ i ≤ 16 ∧ k = 16 - i ∧ Hid (wr.heap[w.heap.size]? = some (.cells (tabUpto 0) 216 (0, 0)) ∧ wr.heap[w.heap.size + 1]? = some (.cells (tabUpto i) 216 (0, 0))) ∧ Hid (Upd [] w wr))
 case atStart => exact ⟨0, rfl, by omega, rfl, hA, Lib.hid (((Upd.refl [] w).alloc _).alloc _)⟩
 case round =>
  obtain ⟨i, rfl, hi, rfl, HB, HU⟩ := hrel
  obtain ⟨W1, rfl⟩ : ∃ W1, W1 = wr := ⟨_, rfl⟩
  have f1 : W1.frozen? ⟨w.heap.size + 1, i, none⟩ = false := frozen_blk HB.out.2 _
  by_cases h16 : i < 16
  ·have c1 : W1.cell? ⟨w.heap.size + 1, i, none⟩ = some (.int .u32 0) := by
    rw [cell_blk HB.out.2]
    simp [tabUpto, h16]
   have hlt : (i : Int) < 16 := by omega
   go_wp2_with fail
   go_loopg [3, 9] 4 (fun k r v wr => ∃ j x : Nat, v = .int .i64 j ∧ r = .int .u32 x ∧ j ≤ 4 ∧ k = 4 - j ∧ x < 4294967296 ∧ Hid (crcSteps (4 - j) x = crcTab i) ∧ wr = W1)
   case atStart => exact ⟨0, i, rfl, rfl, by omega, rfl, by omega, Lib.hid rfl, rfl⟩
   case round =>
    obtain ⟨j, x, rfl, rfl, hj, rfl, hx, HX, rfl⟩ := hrel
    by_cases h4 : j < 4
    ·have hlt4 : (j : Int) < 4 := by omega
     go_wp2_with fail
     go_roundg (4 - (j + 1))
     case rel => exact ⟨j + 1, crcStep x, by go_num, by rw [← crcStep_int hx], by omega, rfl, crcStep_lt hx, Lib.hid (by rw [← HX.out, show 4 - j = (4 - (j + 1)) + 1 by omega]; rfl), rfl⟩
     case measure => omega
    ·have hlt4 : ¬ (j : Int) < 4 := by omega
     obtain rfl : j = 4 := by omega
     have hX := HX.out
     simp only [Nat.sub_self, crcSteps] at hX
     subst hX
     go_wp2_with fail
     go_roundg (16 - (i + 1))
     case rel =>
      refine ⟨i + 1, by go_num, by omega, rfl, Lib.hid ⟨?_, ?_⟩, Lib.hid ?_⟩
      ·rw [heap_setCell, if_neg (by omega)]; exact HB.out.1
      ·rw [heap_setCell, if_pos rfl, HB.out.2]
       show some (Obj.cells ((tabUpto i).setIfInBounds i _) _ _) = _
       rw [tabUpto_set h16]
      ·exact HU.out.setCellNew (by omega) _ _
     case measure => omega
  ·have hlt : ¬ (i : Int) < 16 := by omega
   obtain rfl : i = 16 := by omega
   go_wp2_with (first
    | (refine wpList_load_row rfl 216 _ rfl (w.heap.size + 1) rfl _ (tabUpto 16) (0, 0) _ HB.out.2 Tryz.underlying216 rfl (by rw [tabUpto_size]; kernel_rfl) ?_)
    | (refine wpList_store_row rfl 216 _ _ rfl w.heap.size (tabUpto 16) rfl rfl _ (tabUpto 0) HB.out.1 (by rw [tabUpto_size]; kernel_rfl) (by rw [tabUpto_size, tabUpto_size]) (tabUpto_one 16) ?_)
    | fail)
   have hb : (W1.setRow w.heap.size (tabUpto 16)).heap[w.heap.size]? = some (.cells (tabUpto 16) 216 (0, 0)) := setRow_heap W1 _ _ _ _ _ HB.out.1
   refine bodyPost_ret (v := .agg (tabUpto 16)) (results_cell_row Tryz.results155 _ _ w.heap.size _ (tabUpto 16) (0, 0) _ rfl hb Tryz.underlying216 rfl (by rw [tabUpto_size]; kernel_rfl)) rfl ?_
   exact ⟨rfl, ⟨HU.out.os, HU.out.output, by simpa [World.setRow] using HU.out.size, fun k hk hn => by rw [setRow_other W1 _ k _ (by omega)]; exact HU.out.block k hk hn⟩⟩
end Go.Proofs.YtgpefiacbipfpaaGreatDoor

namespace Go.Proofs.YtgpefiacbipfpaaGreatDoor
open Go.RowKit
theorem tabC_at {i : Nat} (h : i < 16) : tabC[i]? = some (.int .u32 (crcTab i)) := by
 rw [← tabUpto_all]
 simp [tabUpto, h]
def crcHalf (x : Nat) : Nat := (x >>> 4) ^^^ crcTab (x &&& 15)
theorem crcByte_halves (r : Nat) (c : UInt8) : crcByte r c = crcHalf (crcHalf (r ^^^ c.toNat)) := rfl
theorem half_facts {x : Nat} (hx : x < 4294967296) : ∃ a y : Nat, a < 16 ∧ a = x &&& 15 ∧ y = crcHalf x ∧ y < 4294967296 ∧ bits .and .u32 (x : Int) 15 = (a : Int) ∧ bits .xor .u32 ((x : Int) / 16) (crcTab a : Int) = (y : Int) := by
 refine ⟨x &&& 15, crcHalf x, and15_lt x, rfl, rfl, crcHalf_lt hx, (bits32 (b := 15) hx (by omega)).2.1, ?_⟩
 have e1 : (x : Int) / (16 : Int) = ((x >>> 4 : Nat) : Int) := by rw [Nat.shiftRight_eq_div_pow]; omega
 rw [e1]
 exact (bits32 (by rw [Nat.shiftRight_eq_div_pow]; omega) (crcTab_lt (Nat.lt_trans (and15_lt x) (by decide)))).2.2
theorem fold_take_succ (l : Bs) (i : Nat) (h : i < l.length) (r : Nat) : (l.take (i + 1)).foldl crcByte r = crcByte ((l.take i).foldl crcByte r) l[i] := by
 rw [List.take_add_one, List.getElem?_eq_getElem h, List.foldl_append]
 rfl
set_option maxRecDepth 100000 in
set_option maxHeartbeats 2000000 in
theorem sum_ok (w : World) {v : Value} {l : Bs} (h : Rd w v l) : Calls Tryz.prog 120 #[v] w fun e w' => e = .returned (.int .u32 (sumB l)) ∧ Upd [] w w' := by
 obtain ⟨a, c, rfl, h1, h2, h3⟩ := h.slice
 have HR := Lib.hid h
 clear h
 go_enter Tryz.func120, Tryz.ntmps120
 go_wp2_with fail
 refine (table_ok w).mono ?_
 rintro e w1 ⟨rfl, hU1⟩
 have HU1 := Lib.hid hU1
 clear hU1
 go_wp2_with (first
    | (refine wpList_store_row rfl 216 _ _ rfl w1.heap.size tabC rfl rfl _ _ (heap_top _ _) (by kernel_rfl) rfl (tabUpto_one 16) ?_)
    | fail)
 have hW0 : Hid (((w1.alloc (.cells tabC 216)).heap[w1.heap.size]? = some (.cells tabC 216 (0, 0))) ∧ Upd [] w (w1.alloc (.cells tabC 216))) := Lib.hid ⟨heap_top _ _, HU1.out.alloc _⟩
 have hset : ∀ o : Array Value, (w1.alloc (.cells o 216)).setRow w1.heap.size tabC = w1.alloc (.cells tabC 216) := fun o => World.setRow_alloc_new _ _ _ _
 rewrite [hset]
 clear hset
 go_loopg [4, 10] l.length (fun k r v wr => ∃ i x : Nat, v = .int .i64 i ∧ r = .int .u32 x ∧ i ≤ l.length ∧ k = l.length - i ∧ x < 4294967296 ∧ Hid (x = (l.take i).foldl crcByte 0xffffffff) ∧ Hid (wr.heap[w1.heap.size]? = some (.cells tabC 216 (0, 0)) ∧ Upd [] w wr))
 case atStart => exact ⟨0, 4294967295, rfl, rfl, by omega, rfl, by omega, Lib.hid rfl, hW0⟩
 case round =>
  obtain ⟨i, x, rfl, rfl, hi, rfl, hx, HX, HB⟩ := hrel
  by_cases hil : i < l.length
  ·have hlt : (i : Int) < (l.length : Int) := by omega
   obtain ⟨-, -, -, hcell⟩ := (HR.out.keep HB.out.2).cell
   obtain ⟨b, off, rfl, hc⟩ := hcell (by omega)
   have hcb := hc i hil
   clear hc hcell
   obtain ⟨d, hd⟩ : ∃ d : Nat, d = l[i].toNat := ⟨_, rfl⟩
   have hd8 : d < 256 := by rw [hd]; exact l[i].toNat_lt
   rw [← hd] at hcb
   obtain ⟨x0, hx0⟩ : ∃ y : Nat, y = x ^^^ d := ⟨_, rfl⟩
   have hx0l : x0 < 4294967296 := by rw [hx0]; exact Nat.xor_lt_two_pow (n := 32) hx (by omega)
   have e0 : bits .xor .u32 (x : Int) (d : Int) = (x0 : Int) := by rw [hx0]; exact (bits32 hx (by omega)).2.2
   obtain ⟨a1, x1, ha1, ha1e, hx1e, hx1, f1, f2⟩ := half_facts hx0l
   obtain ⟨a2, x2, ha2, ha2e, hx2e, hx2, f3, f4⟩ := half_facts hx1
   have c1 : wr.cell? ⟨w1.heap.size, a1, none⟩ = some (.int .u32 (crcTab a1)) := by rw [cell_blk HB.out.1]; exact tabC_at ha1
   have c2 : wr.cell? ⟨w1.heap.size, a2, none⟩ = some (.int .u32 (crcTab a2)) := by rw [cell_blk HB.out.1]; exact tabC_at ha2
   have HX2 : Hid (x2 = (l.take (i + 1)).foldl crcByte 0xffffffff) := Lib.hid (by rw [fold_take_succ l i hil, ← HX.out, crcByte_halves, ← hd, ← hx0, ← hx1e, ← hx2e])
   clear HX hx0 hx1e hx2e ha1e ha2e hd
   go_wp2_with fail
   go_roundg (l.length - (i + 1))
   case rel => exact ⟨i + 1, x2, by go_num, rfl, by omega, rfl, hx2, HX2, HB⟩
   case measure => omega
  ·have hlt : ¬ (i : Int) < (l.length : Int) := by omega
   obtain rfl : i = l.length := by omega
   go_wp2_with fail
   go_ret
   have hX := HX.out
   rw [List.take_length] at hX
   have e : bits .xor .u32 IntKind.u32.max (x : Int) = ((4294967295 ^^^ x : Nat) : Int) := (bits32 (a := 4294967295) (by omega) hx).2.2
   refine ⟨?_, HB.out.2⟩
   rw [e, hX]
   rfl
end Go.Proofs.YtgpefiacbipfpaaGreatDoor

namespace Go.Proofs.YtgpefiacbipfpaaGreatDoor
open Go.RowKit
theorem four (l : Bs) (h : 4 ≤ l.length) : ∃ y0 y1 y2 y3 : Nat, y0 < 256 ∧ y1 < 256 ∧ y2 < 256 ∧ y3 < 256 ∧ l[0].toNat = y0 ∧ l[1].toNat = y1 ∧ l[2].toNat = y2 ∧ l[3].toNat = y3 ∧ get32 l = y0 ||| y1 <<< 8 ||| y2 <<< 16 ||| y3 <<< 24 := by
 match l, h with
 | x0 :: x1 :: x2 :: x3 :: r, _ => exact ⟨_, _, _, _, x0.toNat_lt, x1.toNat_lt, x2.toNat_lt, x3.toNat_lt, rfl, rfl, rfl, rfl, rfl⟩
theorem four_bits {y0 y1 y2 y3 : Nat} (h0 : y0 < 256) (h1 : y1 < 256) (h2 : y2 < 256) (h3 : y3 < 256) :
  bits .or .u32 (bits .or .u32 (bits .or .u32 (y0 : Int) ((y1 : Int) * 256)) ((y2 : Int) * 65536)) ((y3 : Int) * 16777216) = ((y0 ||| y1 <<< 8 ||| y2 <<< 16 ||| y3 <<< 24 : Nat) : Int) := by
 have e1 : (y1 : Int) * (256 : Int) = ((y1 <<< 8 : Nat) : Int) := by rw [Nat.shiftLeft_eq]; omega
 have e2 : (y2 : Int) * (65536 : Int) = ((y2 <<< 16 : Nat) : Int) := by rw [Nat.shiftLeft_eq]; omega
 have e3 : (y3 : Int) * (16777216 : Int) = ((y3 <<< 24 : Nat) : Int) := by rw [Nat.shiftLeft_eq]; omega
 have b1 : y1 <<< 8 < 4294967296 := by rw [Nat.shiftLeft_eq]; omega
 have b2 : y2 <<< 16 < 4294967296 := by rw [Nat.shiftLeft_eq]; omega
 have b3 : y3 <<< 24 < 4294967296 := by rw [Nat.shiftLeft_eq]; omega
 have o1 : y0 ||| y1 <<< 8 < 4294967296 := Nat.or_lt_two_pow (n := 32) (by omega) b1
 have o2 : y0 ||| y1 <<< 8 ||| y2 <<< 16 < 4294967296 := Nat.or_lt_two_pow (n := 32) o1 b2
 rw [e1, e2, e3, (bits32 (by omega) b1).1, (bits32 o1 b2).1, (bits32 o2 b3).1]
set_option maxRecDepth 100000 in
set_option maxHeartbeats 2000000 in
theorem u32_ok (w : World) {v : Value} {l : Bs} (h : Rd w v l) : Calls Tryz.prog 153 #[v] w fun e w' => e = .returned (.tuple #[.int .u32 (if l.length < 4 then 0 else get32 l), .int .i64 (if l.length < 4 then 10 else 0)]) ∧ Upd [] w w' := by
 obtain ⟨a, c, rfl, h1, h2, h3⟩ := h.slice
 by_cases h4 : l.length < 4
 ·have hlt : (l.length : Int) < 4 := by omega
  rw [if_pos h4, if_pos h4]
  clear h
  go_enter Tryz.func153, Tryz.ntmps153
  go_wp2_with fail
  go_ret2
  exact ⟨rfl, Upd.refl _ _⟩
 ·have hlt : ¬ (l.length : Int) < 4 := by omega
  rw [if_neg h4, if_neg h4]
  obtain ⟨-, -, -, hcell⟩ := h.cell
  obtain ⟨b, off, rfl, hc⟩ := hcell (by omega)
  obtain ⟨y0, y1, y2, y3, g0, g1, g2, g3, q0, q1, q2, q3, hg⟩ := four l (by omega)
  have c0 := hc 0 (by omega)
  have c1 := hc 1 (by omega)
  have c2 := hc 2 (by omega)
  have c3 := hc 3 (by omega)
  rw [q0, Nat.add_zero] at c0
  rw [q1] at c1
  rw [q2] at c2
  rw [q3] at c3
  rw [hg]
  have HG := Lib.hid (four_bits g0 g1 g2 g3)
  have l1 : (1 : Int) < (l.length : Int) := by omega
  have l2 : (2 : Int) < (l.length : Int) := by omega
  have l3 : (3 : Int) < (l.length : Int) := by omega
  have l0 : (0 : Int) < (l.length : Int) := by omega
  clear h hcell hc q0 q1 q2 q3 hg
  go_enter Tryz.func153, Tryz.ntmps153
  go_wp2_with fail
  go_region
  go_wp2_with fail
  go_ret2
  exact ⟨by rw [HG.out]; rfl, (Upd.refl _ _).drew⟩
theorem getU_stop {l : Bs} {i acc : Nat} (h : i = l.length) (hi : i < 10) : getU (10 - i) i acc (l.drop i) = (0, 0, 10) := by
 rw [h, List.drop_length, show 10 - l.length = (9 - l.length) + 1 by omega]; rfl
theorem getU_byte {l : Bs} {i acc : Nat} (h : i < l.length) (hi : i < 10) : getU (10 - i) i acc (l.drop i) =
  let acc' := (acc ||| (l[i].toNat % 128) <<< (7 * i)) % 2 ^ 64
  if 128 ≤ l[i].toNat then getU (10 - (i + 1)) (i + 1) acc' (l.drop (i + 1))
  else if (0 < i ∧ l[i].toNat = 0) ∨ (i = 9 ∧ 1 < l[i].toNat) then (0, 0, 11)
  else (acc', i + 1, 0) := by
 rw [List.drop_eq_getElem_cons h, show 10 - i = (10 - (i + 1)) + 1 by omega]
 rfl
theorem shl_fact {x y i : Nat} (hx : x < 18446744073709551616) (hy : y < 2 ^ 8) (_hi : i < 10) :
  bits .or .u64 (x : Int) (IntKind.u64.wrap (IntKind.u64.wrap (bits .and .u8 (y : Int) 127) * 2 ^ (7 * i))) = (((x ||| (y % 128) <<< (7 * i)) % 2 ^ 64 : Nat) : Int) := by
 have h1 : bits .and .u8 (y : Int) 127 = ((y % 128 : Nat) : Int) := by
  refine ((bits8 (b := 127) hy (by omega)).2.1).trans ?_
  rw [show (127 : Nat) = 2 ^ 7 - 1 from rfl, Nat.and_two_pow_sub_one_eq_mod]
 have h2 : IntKind.u64.wrap ((y % 128 : Nat) : Int) = ((y % 128 : Nat) : Int) := by rw [IntKind.wrap_u64]; omega
 have h3 : ((y % 128 : Nat) : Int) * 2 ^ (7 * i) = (((y % 128) <<< (7 * i) : Nat) : Int) := by rw [Nat.shiftLeft_eq]; simp
 have h4 : IntKind.u64.wrap (((y % 128) <<< (7 * i) : Nat) : Int) = ((((y % 128) <<< (7 * i)) % 2 ^ 64 : Nat) : Int) := by
  rw [IntKind.wrap_u64]; omega
 rw [h1, h2, h3, h4]
 refine ((bits64 hx (Nat.mod_lt _ (by decide))).1).trans ?_
 rw [Nat.or_mod_two_pow, Nat.mod_eq_of_lt (show x < 2 ^ 64 from hx)]
set_option maxRecDepth 100000 in
set_option maxHeartbeats 2000000 in
theorem uint_ok (w : World) {v : Value} {l : Bs} (h : Rd w v l) : Calls Tryz.prog 130 #[v] w fun e w' => e = .returned (.tuple #[.int .u64 (getUint l).1, .int .i64 (getUint l).2.1, .int .i64 (getUint l).2.2]) ∧ w' = w := by
 obtain ⟨a, c, rfl, h1, h2, h3⟩ := h.slice
 have HR := Lib.hid h
 clear h
 generalize hR : getUint l = R
 have HE := Lib.hid hR.symm
 clear hR
 go_enter Tryz.func130, Tryz.ntmps130
 go_wp2_with fail
 go_loopg [5, 8] 10 (fun k r v wr => ∃ i x : Nat, v = .int .i64 i ∧ r = .int .u64 x ∧ i ≤ 10 ∧ i ≤ l.length ∧ k = 10 - i ∧ x < 18446744073709551616 ∧ Hid (R = getU (10 - i) i x (l.drop i)) ∧ wr = w)
 case atStart => exact ⟨0, 0, rfl, rfl, by omega, by omega, rfl, by omega, HE, rfl⟩
 case round =>
  obtain ⟨i, x, rfl, rfl, hi, hil, rfl, hx, HX, rfl⟩ := hrel
  by_cases h10 : i < 10
  ·have hlt : (i : Int) < 10 := by omega
   by_cases hl : i = l.length
   ·have hX := HX.out
    rw [getU_stop hl h10] at hX
    subst hX
    have he : (i : Int) = (l.length : Int) := by omega
    clear HX
    go_wp2_with fail
    go_ret3
    exact ⟨rfl, rfl⟩
   ·have he : ¬ (i : Int) = (l.length : Int) := by omega
    have hlt2 : (i : Int) < (l.length : Int) := by omega
    have hX := HX.out
    rw [getU_byte (by omega) h10] at hX
    have HX2 := Lib.hid hX
    obtain ⟨-, -, -, hcell⟩ := HR.out.cell
    obtain ⟨b, off, rfl, hc⟩ := hcell (by omega)
    have hcb := hc i (by omega)
    clear hc hcell hX HX
    generalize l[i]'(by omega) = d at *
    have hd8 := d.toNat_lt
    generalize d.toNat = y at *
    have HS := Lib.hid (shl_fact (x := x) (y := y) (i := i) hx hd8 h10)
    go_wp2_with fail
    all_goals (try simp only [beq_iff_eq, beq_eq_false_iff_ne, ne_eq] at *)
    all_goals first
     | (go_ret3
        have hR : R = (0, 0, 11) := by rw [HX2.out, if_neg (by omega), if_pos (by omega)]
        rw [hR]
        exact ⟨rfl, rfl⟩)
     | (go_ret3
        have hR : R = ((x ||| (y % 128) <<< (7 * i)) % 2 ^ 64, i + 1, 0) := by rw [HX2.out, if_neg (by omega), if_neg (by omega)]
        rw [hR]
        refine ⟨?_, rfl⟩
        show Ending.returned (.tuple #[.int .u64 (bits .or .u64 (x : Int) (IntKind.u64.wrap (IntKind.u64.wrap (bits .and .u8 (y : Int) 127) * 2 ^ (7 * i)))), .int .i64 ((i : Int) + 1), .int .i64 0]) = _
        rw [HS.out]
        rfl)
     | (obtain rfl : i = 9 := by omega
        go_ret3
        have hR : R = ((x ||| (y % 128) <<< (7 * 9)) % 2 ^ 64, 9 + 1, 0) := by rw [HX2.out, if_neg (by omega), if_neg (by omega)]
        rw [hR]
        refine ⟨?_, rfl⟩
        show Ending.returned (.tuple #[.int .u64 (bits .or .u64 (x : Int) (IntKind.u64.wrap (IntKind.u64.wrap (bits .and .u8 (y : Int) 127) * 2 ^ (7 * 9)))), .int .i64 10, .int .i64 0]) = _
        rw [HS.out]
        rfl)
     | (have hR : R = getU (10 - (i + 1)) (i + 1) ((x ||| (y % 128) <<< (7 * i)) % 2 ^ 64) (l.drop (i + 1)) := by rw [HX2.out, if_pos (by omega)]
        go_roundg (10 - (i + 1))
        case rel => exact ⟨i + 1, (x ||| (y % 128) <<< (7 * i)) % 2 ^ 64, by go_num, by rw [HS.out], by omega, by omega, rfl, Nat.mod_lt _ (by decide), Lib.hid hR, rfl⟩
        case measure => omega)
  ·have hlt : ¬ (i : Int) < 10 := by omega
   obtain rfl : i = 10 := by omega
   have hX := HX.out
   simp only [Nat.sub_self, getU] at hX
   subst hX
   go_wp2_with fail
   go_ret3
   exact ⟨rfl, rfl⟩
end Go.Proofs.YtgpefiacbipfpaaGreatDoor

namespace Go.Proofs.YtgpefiacbipfpaaGreatDoor
open Go.RowKit
def strOf (l : Bs) : ByteArray := ⟨l.toArray⟩
theorem Rd.part {w : World} {b off n c : Nat} {l : Bs} (h : Rd w (.slice (some ⟨b, off, none⟩) n c) l) (i m : Nat) (him : i + m ≤ l.length) (c' : Nat) (hc : m ≤ c') (hc2 : c' ≤ c) : Rd w (.slice (some ⟨b, off + i, none⟩) m c') ((l.drop i).take m) := by
 obtain ⟨⟨a, cap, hv, h1, h2, h3⟩, -⟩ := h
 simp only [Value.slice.injEq] at hv
 obtain ⟨rfl, rfl, rfl⟩ := hv
 have hlen : ((l.drop i).take m).length = m := by rw [List.length_take, List.length_drop]; omega
 refine ⟨⟨some ⟨b, off + i, none⟩, c', by rw [hlen], by rw [hlen]; exact hc, Nat.le_trans hc2 h2, fun j hj => ?_⟩, fun n c e => by cases e⟩
 have hj' : j < m := by rw [hlen] at hj; exact hj
 obtain ⟨b', off', e, hcell⟩ := h3 (i + j) (by omega)
 cases e
 refine ⟨b, off + i, rfl, ?_⟩
 have e2 : ((l.drop i).take m)[j] = l[i + j]'(by omega) := by simp
 rw [e2]
 intro q u hu
 have := hcell q u hu
 rw [show off + i + j * 1 + q = off + (i + j) * 1 + q by omega]
 exact this
theorem Rd.conv {w : World} {b off n c : Nat} {l : Bs} (h : Rd w (.slice (some ⟨b, off, none⟩) n c) l) (k : Nat) (s : Bs) (hs : (l.drop k).take s.length = s) (cap : Nat) :
  (convert 23 9 (.slice (some ⟨b, off + k, none⟩) s.length cap)).run Tryz.prog w = .ok (.string (strOf s)) w := by
 refine run_convert_bytes_back (P := Tryz.prog) w 23 9 5 ⟨b, off + k, none⟩ cap s Tryz.underlying23 Tryz.underlying5 Tryz.underlying9 fun j hj => ?_
 rw [add_plainG]
 have hl : s.length ≤ l.length - k := by
  have := congrArg List.length hs
  rw [List.length_take, List.length_drop] at this
  omega
 obtain ⟨-, -, -, hcell⟩ := h.cell
 have hn := h.cell.1
 obtain ⟨b', off', e, hc⟩ := hcell (by omega)
 cases e
 have := hc (k + j) (by omega)
 rw [show off + k + j = off + (k + j) by omega, this]
 have e2 : s[j] = ((l.drop k).take s.length)[j]'(by rw [hs]; exact hj) := by simp only [hs]
 rw [e2]
 simp
set_option maxRecDepth 100000 in
set_option maxHeartbeats 2000000 in
theorem text_walk (w : World) (b off L c n k most : Nat) (s : ByteArray) (h1 : L ≤ c) (h2 : c ≤ 9223372036854775807) (hk : k + n ≤ L) (hkc : ¬ c = k) (hn : n ≤ most) (hm : most ≤ 1000000)
  (HC : Calls Tryz.prog 130 #[.slice (some ⟨b, off, none⟩) L c] w fun e w' => e = .returned (.tuple #[.int .u64 n, .int .i64 k, .int .i64 0]) ∧ w' = w)
  (hconv : ∀ cap, (convert 23 9 (.slice (some ⟨b, off + k, none⟩) n cap)).run Tryz.prog w = .ok (.string s) w) :
  Calls Tryz.prog 134 #[.slice (some ⟨b, off, none⟩) L c, .int .i64 most] w fun e w' => e = .returned (.tuple #[.string s, .int .i64 (k + n : Nat), .int .i64 0]) ∧ w' = w := by
 have HC := Lib.hid HC
 have n1 : ¬ (most : Int) < 0 := by omega
 have n2 : ¬ (most : Int) < (n : Int) := by omega
 have n3 : ¬ ((L : Int) - (k : Int)) < (n : Int) := by omega
 go_enter Tryz.func134, Tryz.ntmps134
 go_wp2_with fail
 refine HC.out.mono ?_
 rintro e w1 ⟨rfl, rfl⟩
 go_wp2_with fail
 go_ret3
 refine ⟨?_, rfl⟩
 show Ending.returned (.tuple #[.string s, .int .i64 ((k : Int) + (n : Int)), .int .i64 0]) = _
 rw [Int.natCast_add]
theorem text_ok (w : World) {v : Value} {s r : Bs} (h : Rd w v (putU s.length ++ (s ++ r))) (most : Nat) (h0 : 1 ≤ s.length) (hs : s.length ≤ most) (hm : most ≤ 1000000) :
  Calls Tryz.prog 134 #[v, .int .i64 most] w fun e w' => e = .returned (.tuple #[.string (strOf s), .int .i64 ((putU s.length).length + s.length : Nat), .int .i64 0]) ∧ w' = w := by
 obtain ⟨a, c, rfl, h1, h2, h3⟩ := h.slice
 have hu := uint_ok w h
 rw [getUint_putU (by omega)] at hu
 have hlen : (putU s.length ++ (s ++ r)).length = (putU s.length).length + (s.length + r.length) := by rw [List.length_append, List.length_append]
 obtain ⟨-, -, -, hcell⟩ := h.cell
 obtain ⟨b, off, rfl, -⟩ := hcell (by omega)
 refine text_walk w b off _ c s.length (putU s.length).length most (strOf s) h1 h2 (by omega) (by omega) hs hm hu fun cap => h.conv _ s ?_ cap
 rw [List.drop_left, List.take_left]
theorem rd_byte (w : World) (B : Nat) {k : UInt8} {ty : TypeId} (h : w.heap[B]? = some (.cells #[.int .u8 k.toNat] ty (0, 0))) : Rd w (.slice (some ⟨B, 0, none⟩) 1 1) [k] :=
 ⟨⟨some ⟨B, 0, none⟩, 1, rfl, Nat.le_refl _, by unfold maxLen; omega, fun i hi => ⟨B, 0, rfl, fun j u hu => by
  obtain rfl : i = 0 := by simpa using hi
  have := cell_blk h (0 + 0 * 1 + j)
  rw [this]
  simpa using hu⟩⟩, fun n c e => by cases e⟩
abbrev boxFr (k : UInt8) (v : Value) : Obj := .cells #[.int .u8 k.toNat, v] 25
set_option maxRecDepth 100000 in
set_option maxHeartbeats 2000000 in
theorem putFrame_ok (w : World) {v u : Value} {l d : Bs} (h : Rd w v l) (k : UInt8) (hd : Rd w u d) (hd2 : d.length ≤ 2000) (hl : l.length ≤ 100000000) :
  Calls Tryz.prog 62 #[v, .agg #[.int .u8 k.toNat, u]] w fun e w' => ∃ v', e = .returned (.tuple #[v', .int .i64 0]) ∧ Ow w' w.heap.size v' (l ++ putFrame k d) ∧ Upd [] w w' := by
 obtain ⟨a, c, rfl, h1, h2, h3⟩ := hd.slice
 have HL := Lib.hid h
 have HD := Lib.hid hd
 clear h hd
 have hn : ¬ (2000 : Int) < (d.length : Int) := by omega
 go_enter Tryz.func62, Tryz.ntmps62
 go_wp2_with fail
 obtain ⟨W1, hW1⟩ : ∃ W, W = w.alloc (boxFr k (.slice a d.length c)) := ⟨_, rfl⟩
 have HU1 : Hid (Upd [] w W1) := Lib.hid (by rw [hW1]; exact (Upd.refl [] w).alloc _)
 have HB1 : Hid (W1.heap[w.heap.size]? = some (boxFr k (.slice a d.length c))) := Lib.hid (by rw [hW1]; exact heap_top _ _)
 have p0 : W1.cell? ⟨w.heap.size, 0, none⟩ = some (.int .u8 k.toNat) := cell_blk HB1.out 0
 have p1 : W1.cell? ⟨w.heap.size, 1, none⟩ = some (.slice a d.length c) := cell_blk HB1.out 1
 rewrite [← hW1]
 clear hW1
 have HC : Hid (∀ V : World, Upd [] (W1.drew.alloc (.cells #[.int .u8 k.toNat] 5)) V → Calls Tryz.prog 95 #[.slice (some ⟨W1.heap.size, 0, none⟩) 1 1, .int .u64 d.length] V fun e w' => ∃ v', e = .returned v' ∧ Ow w' V.heap.size v' ([k] ++ putU d.length) ∧ Upd [] V w') :=
  Lib.hid fun V u => putUint_ok V (Rd.keep (l := [k]) (rd_byte _ _ (heap_top _ _)) u) d.length (by omega) (by simp)
 have hwr : IntKind.u64.wrap (d.length : Int) = (d.length : Int) := by rw [IntKind.wrap_u64]; omega
 have hul : ([k] ++ putU d.length).length ≤ 20 := by have := putU_len64 (n := d.length) (by omega); simp; omega
 go_region_held3 (fun w' => w'.cell? ⟨w.heap.size, 0, none⟩ = some (.int .u8 k.toNat) ∧ w'.cell? ⟨w.heap.size, 1, none⟩ = some (.slice a d.length c))
  (first
   | (with_reducible exact held2 (Upd.refl [] W1).drew ⟨p0, p1⟩)
   | (with_reducible exact held2 ((Upd.refl [] W1).alloc _).drew ⟨p0, p1⟩)
   | (with_reducible exact held2 hv6 ⟨p0, p1⟩)
   | (with_reducible exact held2 hv7 ⟨p0, p1⟩))
  (first
   | (go_at_call 95; (with_reducible refine (HC.out _ ?_).mono ?_); (exact ⟨rfl, rfl, Nat.le_refl _, fun _ _ _ => rfl⟩); rintro e w6 ⟨v6, rfl, ho6, hu6⟩; have hv6 : Upd [] W1 w6 := ((Upd.refl [] W1).drew.alloc _).trans hu6)
   | (refine step_append_G T8 (by rfl) _ _ (by rfl) (base := (W1.drew.alloc (.cells #[.int .u8 k.toNat] 5)).heap.size) (v := v6) (l := [k] ++ putU d.length) (A := a) (c := c) (r := d) (by rfl) (by exact ho6) (by rfl) (by exact (HD.out.keep (HU1.out.trans hv6)).src) (one8 _) ?_ ?_ ?_ ?_; (omega); (omega); (exact hu6.size); intro v7 w7 ho7 hg7 _; have hv7 : Upd [] W1 w7 := hv6.grown hg7 (fun g hg => by have := (ho6.block g hg).1; simp at this; omega)))
 have HR7 : Hid (Rd w7 v7 (frameRest k d)) := Lib.hid (by have := Ow.rd ho7; simpa [frameRest] using this)
 have hU7 : Upd [] w w7 := HU1.out.trans hv7
 have HU7 := Lib.hid hU7
 have hrl : (frameRest k d).length ≤ 2020 := by simp only [List.length_append, List.length_cons, List.length_nil] at hul; simp only [frameRest, List.length_cons, List.length_append]; omega
 clear ho7 hg7 hv7 ho6 hu6 hv6 HC p0 p1 hU7
 have hsum := sumB_lt (frameRest k d)
 go_wp2_with fail
 refine (sum_ok w7 HR7.out).mono ?_
 rintro e w8 ⟨rfl, hU8⟩
 have HU8 := Lib.hid (HU7.out.trans hU8)
 have HR8 := Lib.hid (HR7.out.keep hU8)
 clear hU8
 go_wp2_with fail
 refine (put32_ok w8 (HL.out.keep HU8.out) (sumB (frameRest k d)) hsum hl).mono ?_
 rintro e w9 ⟨v9, rfl, ho9, hU9⟩
 have HU9 := Lib.hid (HU8.out.trans hU9)
 have HR9 := Lib.hid (HR8.out.keep hU9)
 have h98 := hU9.size
 have hw8 := HU8.out.size
 clear hU9
 obtain ⟨a7, c7, rfl, -⟩ := HR9.out.slice
 go_wp2_with (at_builtin; refine wpList_append_G T8 rfl _ _ rfl (l := l ++ put32 (sumB (frameRest k d))) rfl ho9 rfl HR9.out.src (one8 _) ?c1 ?c2 ?c3 ?_)
 case c1 => simp [put32]; omega
 case c2 => simp [put32]; omega
 case c3 => omega
 intro v10 w10 ho10 hg10 _
 have HU10 : Hid (Upd [] w w10) := Lib.hid (HU9.out.grown hg10 (fun g hg => by have := (ho9.block g hg).1; omega))
 clear hg10 ho9
 go_wp2_with fail
 go_ret2
 exact ⟨_, rfl, by have := ho10.base hw8; unfold putFrame; simpa using this, HU10.out⟩
end Go.Proofs.YtgpefiacbipfpaaGreatDoor
