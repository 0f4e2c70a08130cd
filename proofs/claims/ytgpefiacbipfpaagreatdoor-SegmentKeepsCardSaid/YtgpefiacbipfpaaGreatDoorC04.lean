/- The codec's walks: U32, Uint, Text. The codec's walks: Text, PutFrame, Frame. bytes.Clone, slices.Clone: another row of the same. (Printed by gclone.py.) A cache whose things are blocks as they are seen: got and put. -/
import Derived.BigQuiet
import Derived.Laws.IdiomStrings
import Derived.Lib.SliceRun
import Derived.Test.YtgpefiacbipfpaaGreatDoorC03
import Derived.Test.YtgpefiacbipfpaaGreatDoorC02
namespace Go.Proofs.YtgpefiacbipfpaaGreatDoor
open Go.RowKit
theorem four (l : Bs) (h : 4 ≤ l.length) : ∃ y0 y1 y2 y3 : Nat, y0 < 256 ∧ y1 < 256 ∧ y2 < 256 ∧ y3 < 256 ∧ l[0].toNat = y0 ∧ l[1].toNat = y1 ∧ l[2].toNat = y2 ∧ l[3].toNat = y3 ∧ get32 l = y0 ||| y1 <<< 8 ||| y2 <<< 16 ||| y3 <<< 24 := by
 match l, h with
 | x0 :: x1 :: x2 :: x3 :: r, _ => exact ⟨_, _, _, _, x0.toNat_lt, x1.toNat_lt, x2.toNat_lt, x3.toNat_lt, rfl, rfl, rfl, rfl, rfl⟩
theorem four_bits {y0 y1 y2 y3 : Nat} (h0 : y0 < 256) (h1 : y1 < 256) (h2 : y2 < 256) (h3 : y3 < 256) :
  bits .or .u32 (bits .or .u32 (bits .or .u32 (y0 : Int) ((y1 : Int) * 256)) ((y2 : Int) * 65536)) ((y3 : Int) * 16777216) = ((y0 ||| y1 <<< 8 ||| y2 <<< 16 ||| y3 <<< 24 : Nat) : Int) := by
 have e1 : (y1 : Int) * (256 : Int) = ((y1 <<< 8 : Nat) : Int) := by rw [Nat.shiftLeft_eq]; omega
 have e2 : (y2 : Int) * (65536 : Int) = ((y2 <<< 16 : Nat) : Int) := by rw [Nat.shiftLeft_eq]; omega
 have e3 : (y3 : Int) * (16777216 : Int) = ((y3 <<< 24 : Nat) : Int) := by rw [Nat.shiftLeft_eq]; omega
 have b1 : y1 <<< 8 < 4294967296 := by rw [Nat.shiftLeft_eq]; omega
 have b2 : y2 <<< 16 < 4294967296 := by rw [Nat.shiftLeft_eq]; omega
 have b3 : y3 <<< 24 < 4294967296 := by rw [Nat.shiftLeft_eq]; omega
 have o1 : y0 ||| y1 <<< 8 < 4294967296 := Nat.or_lt_two_pow (n := 32) (by omega) b1
 have o2 : y0 ||| y1 <<< 8 ||| y2 <<< 16 < 4294967296 := Nat.or_lt_two_pow (n := 32) o1 b2
 rw [e1, e2, e3, (bits32 (by omega) b1).1, (bits32 o1 b2).1, (bits32 o2 b3).1]
set_option maxRecDepth 100000 in
set_option maxHeartbeats 2000000 in
theorem u32_ok (w : World) {v : Value} {l : Bs} (h : Rd w v l) : Calls Tryz.prog 153 #[v] w fun e w' => e = .returned (.tuple #[.int .u32 (if l.length < 4 then 0 else get32 l), .int .i64 (if l.length < 4 then 10 else 0)]) ∧ Upd [] w w' := by
 obtain ⟨a, c, rfl, h1, h2, h3⟩ := h.slice
 by_cases h4 : l.length < 4
 ·have hlt : (l.length : Int) < 4 := by omega
  rw [if_pos h4, if_pos h4]
  clear h
  go_enter Tryz.func153, Tryz.ntmps153
  go_wp2_with fail
  go_ret2
  exact ⟨rfl, Upd.refl _ _⟩
 ·have hlt : ¬ (l.length : Int) < 4 := by omega
  rw [if_neg h4, if_neg h4]
  obtain ⟨-, -, -, hcell⟩ := h.cell
  obtain ⟨b, off, rfl, hc⟩ := hcell (by omega)
  obtain ⟨y0, y1, y2, y3, g0, g1, g2, g3, q0, q1, q2, q3, hg⟩ := four l (by omega)
  have c0 := hc 0 (by omega)
  have c1 := hc 1 (by omega)
  have c2 := hc 2 (by omega)
  have c3 := hc 3 (by omega)
  rw [q0, Nat.add_zero] at c0
  rw [q1] at c1
  rw [q2] at c2
  rw [q3] at c3
  rw [hg]
  have HG := Lib.hid (four_bits g0 g1 g2 g3)
  have l1 : (1 : Int) < (l.length : Int) := by omega
  have l2 : (2 : Int) < (l.length : Int) := by omega
  have l3 : (3 : Int) < (l.length : Int) := by omega
  have l0 : (0 : Int) < (l.length : Int) := by omega
  clear h hcell hc q0 q1 q2 q3 hg
  go_enter Tryz.func153, Tryz.ntmps153
  go_wp2_with fail
  go_region
  go_wp2_with fail
  go_ret2
  exact ⟨by rw [HG.out]; rfl, (Upd.refl _ _).drew⟩
theorem getU_stop {l : Bs} {i acc : Nat} (h : i = l.length) (hi : i < 10) : getU (10 - i) i acc (l.drop i) = (0, 0, 10) := by
 rw [h, List.drop_length, show 10 - l.length = (9 - l.length) + 1 by omega]; rfl
theorem getU_byte {l : Bs} {i acc : Nat} (h : i < l.length) (hi : i < 10) : getU (10 - i) i acc (l.drop i) =
  let acc' := (acc ||| (l[i].toNat % 128) <<< (7 * i)) % 2 ^ 64
  if 128 ≤ l[i].toNat then getU (10 - (i + 1)) (i + 1) acc' (l.drop (i + 1))
  else if (0 < i ∧ l[i].toNat = 0) ∨ (i = 9 ∧ 1 < l[i].toNat) then (0, 0, 11)
  else (acc', i + 1, 0) := by
 rw [List.drop_eq_getElem_cons h, show 10 - i = (10 - (i + 1)) + 1 by omega]
 rfl
theorem shl_fact {x y i : Nat} (hx : x < 18446744073709551616) (hy : y < 2 ^ 8) (_hi : i < 10) :
  bits .or .u64 (x : Int) (IntKind.u64.wrap (IntKind.u64.wrap (bits .and .u8 (y : Int) 127) * 2 ^ (7 * i))) = (((x ||| (y % 128) <<< (7 * i)) % 2 ^ 64 : Nat) : Int) := by
 have h1 : bits .and .u8 (y : Int) 127 = ((y % 128 : Nat) : Int) := by
  refine ((bits8 (b := 127) hy (by omega)).2.1).trans ?_
  rw [show (127 : Nat) = 2 ^ 7 - 1 from rfl, Nat.and_two_pow_sub_one_eq_mod]
 have h2 : IntKind.u64.wrap ((y % 128 : Nat) : Int) = ((y % 128 : Nat) : Int) := by rw [IntKind.wrap_u64]; omega
 have h3 : ((y % 128 : Nat) : Int) * 2 ^ (7 * i) = (((y % 128) <<< (7 * i) : Nat) : Int) := by rw [Nat.shiftLeft_eq]; simp
 have h4 : IntKind.u64.wrap (((y % 128) <<< (7 * i) : Nat) : Int) = ((((y % 128) <<< (7 * i)) % 2 ^ 64 : Nat) : Int) := by
  rw [IntKind.wrap_u64]; omega
 rw [h1, h2, h3, h4]
 refine ((bits64 hx (Nat.mod_lt _ (by decide))).1).trans ?_
 rw [Nat.or_mod_two_pow, Nat.mod_eq_of_lt (show x < 2 ^ 64 from hx)]
set_option maxRecDepth 100000 in
set_option maxHeartbeats 2000000 in
theorem uint_ok (w : World) {v : Value} {l : Bs} (h : Rd w v l) : Calls Tryz.prog 130 #[v] w fun e w' => e = .returned (.tuple #[.int .u64 (getUint l).1, .int .i64 (getUint l).2.1, .int .i64 (getUint l).2.2]) ∧ w' = w := by
 obtain ⟨a, c, rfl, h1, h2, h3⟩ := h.slice
 have HR := Lib.hid h
 clear h
 generalize hR : getUint l = R
 have HE := Lib.hid hR.symm
 clear hR
 go_enter Tryz.func130, Tryz.ntmps130
 go_wp2_with fail
 go_loopg [5, 8] 10 (fun k r v wr => ∃ i x : Nat, v = .int .i64 i ∧ r = .int .u64 x ∧ i ≤ 10 ∧ i ≤ l.length ∧ k = 10 - i ∧ x < 18446744073709551616 ∧ Hid (R = getU (10 - i) i x (l.drop i)) ∧ wr = w)
 case atStart => exact ⟨0, 0, rfl, rfl, by omega, by omega, rfl, by omega, HE, rfl⟩
 case round =>
  obtain ⟨i, x, rfl, rfl, hi, hil, rfl, hx, HX, rfl⟩ := hrel
  by_cases h10 : i < 10
  ·have hlt : (i : Int) < 10 := by omega
   by_cases hl : i = l.length
   ·have hX := HX.out
    rw [getU_stop hl h10] at hX
    subst hX
    have he : (i : Int) = (l.length : Int) := by omega
    clear HX
    go_wp2_with fail
    go_ret3
    exact ⟨rfl, rfl⟩
   ·have he : ¬ (i : Int) = (l.length : Int) := by omega
    have hlt2 : (i : Int) < (l.length : Int) := by omega
    have hX := HX.out
    rw [getU_byte (by omega) h10] at hX
    have HX2 := Lib.hid hX
    obtain ⟨-, -, -, hcell⟩ := HR.out.cell
    obtain ⟨b, off, rfl, hc⟩ := hcell (by omega)
    have hcb := hc i (by omega)
    clear hc hcell hX HX
    generalize l[i]'(by omega) = d at *
    have hd8 := d.toNat_lt
    generalize d.toNat = y at *
    have HS := Lib.hid (shl_fact (x := x) (y := y) (i := i) hx hd8 h10)
    go_wp2_with fail
    all_goals (try simp only [beq_iff_eq, beq_eq_false_iff_ne, ne_eq] at *)
    all_goals first
     | (go_ret3
        have hR : R = (0, 0, 11) := by rw [HX2.out, if_neg (by omega), if_pos (by omega)]
        rw [hR]
        exact ⟨rfl, rfl⟩)
     | (go_ret3
        have hR : R = ((x ||| (y % 128) <<< (7 * i)) % 2 ^ 64, i + 1, 0) := by rw [HX2.out, if_neg (by omega), if_neg (by omega)]
        rw [hR]
        refine ⟨?_, rfl⟩
        show Ending.returned (.tuple #[.int .u64 (bits .or .u64 (x : Int) (IntKind.u64.wrap (IntKind.u64.wrap (bits .and .u8 (y : Int) 127) * 2 ^ (7 * i)))), .int .i64 ((i : Int) + 1), .int .i64 0]) = _
        rw [HS.out]
        rfl)
     | (obtain rfl : i = 9 := by omega
        go_ret3
        have hR : R = ((x ||| (y % 128) <<< (7 * 9)) % 2 ^ 64, 9 + 1, 0) := by rw [HX2.out, if_neg (by omega), if_neg (by omega)]
        rw [hR]
        refine ⟨?_, rfl⟩
        show Ending.returned (.tuple #[.int .u64 (bits .or .u64 (x : Int) (IntKind.u64.wrap (IntKind.u64.wrap (bits .and .u8 (y : Int) 127) * 2 ^ (7 * 9)))), .int .i64 10, .int .i64 0]) = _
        rw [HS.out]
        rfl)
     | (have hR : R = getU (10 - (i + 1)) (i + 1) ((x ||| (y % 128) <<< (7 * i)) % 2 ^ 64) (l.drop (i + 1)) := by rw [HX2.out, if_pos (by omega)]
        go_roundg (10 - (i + 1))
        case rel => exact ⟨i + 1, (x ||| (y % 128) <<< (7 * i)) % 2 ^ 64, by go_num, by rw [HS.out], by omega, by omega, rfl, Nat.mod_lt _ (by decide), Lib.hid hR, rfl⟩
        case measure => omega)
  ·have hlt : ¬ (i : Int) < 10 := by omega
   obtain rfl : i = 10 := by omega
   have hX := HX.out
   simp only [Nat.sub_self, getU] at hX
   subst hX
   go_wp2_with fail
   go_ret3
   exact ⟨rfl, rfl⟩
end Go.Proofs.YtgpefiacbipfpaaGreatDoor

namespace Go.Proofs.YtgpefiacbipfpaaGreatDoor
open Go.RowKit
def strOf (l : Bs) : ByteArray := ⟨l.toArray⟩
theorem Rd.part {w : World} {b off n c : Nat} {l : Bs} (h : Rd w (.slice (some ⟨b, off, none⟩) n c) l) (i m : Nat) (him : i + m ≤ l.length) (c' : Nat) (hc : m ≤ c') (hc2 : c' ≤ c) : Rd w (.slice (some ⟨b, off + i, none⟩) m c') ((l.drop i).take m) := by
 obtain ⟨⟨a, cap, hv, h1, h2, h3⟩, -⟩ := h
 simp only [Value.slice.injEq] at hv
 obtain ⟨rfl, rfl, rfl⟩ := hv
 have hlen : ((l.drop i).take m).length = m := by rw [List.length_take, List.length_drop]; omega
 refine ⟨⟨some ⟨b, off + i, none⟩, c', by rw [hlen], by rw [hlen]; exact hc, Nat.le_trans hc2 h2, fun j hj => ?_⟩, fun n c e => by cases e⟩
 have hj' : j < m := by rw [hlen] at hj; exact hj
 obtain ⟨b', off', e, hcell⟩ := h3 (i + j) (by omega)
 cases e
 refine ⟨b, off + i, rfl, ?_⟩
 have e2 : ((l.drop i).take m)[j] = l[i + j]'(by omega) := by simp
 rw [e2]
 intro q u hu
 have := hcell q u hu
 rw [show off + i + j * 1 + q = off + (i + j) * 1 + q by omega]
 exact this
theorem Rd.conv {w : World} {b off n c : Nat} {l : Bs} (h : Rd w (.slice (some ⟨b, off, none⟩) n c) l) (k : Nat) (s : Bs) (hs : (l.drop k).take s.length = s) (cap : Nat) :
  (convert 23 9 (.slice (some ⟨b, off + k, none⟩) s.length cap)).run Tryz.prog w = .ok (.string (strOf s)) w := by
 refine run_convert_bytes_back (P := Tryz.prog) w 23 9 5 ⟨b, off + k, none⟩ cap s Tryz.underlying23 Tryz.underlying5 Tryz.underlying9 fun j hj => ?_
 rw [add_plainG]
 have hl : s.length ≤ l.length - k := by
  have := congrArg List.length hs
  rw [List.length_take, List.length_drop] at this
  omega
 obtain ⟨-, -, -, hcell⟩ := h.cell
 have hn := h.cell.1
 obtain ⟨b', off', e, hc⟩ := hcell (by omega)
 cases e
 have := hc (k + j) (by omega)
 rw [show off + k + j = off + (k + j) by omega, this]
 have e2 : s[j] = ((l.drop k).take s.length)[j]'(by rw [hs]; exact hj) := by simp only [hs]
 rw [e2]
 simp
set_option maxRecDepth 100000 in
set_option maxHeartbeats 2000000 in
theorem text_walk (w : World) (b off L c n k most : Nat) (s : ByteArray) (h1 : L ≤ c) (h2 : c ≤ 9223372036854775807) (hk : k + n ≤ L) (hkc : ¬ c = k) (hn : n ≤ most) (hm : most ≤ 1000000)
  (HC : Calls Tryz.prog 130 #[.slice (some ⟨b, off, none⟩) L c] w fun e w' => e = .returned (.tuple #[.int .u64 n, .int .i64 k, .int .i64 0]) ∧ w' = w)
  (hconv : ∀ cap, (convert 23 9 (.slice (some ⟨b, off + k, none⟩) n cap)).run Tryz.prog w = .ok (.string s) w) :
  Calls Tryz.prog 134 #[.slice (some ⟨b, off, none⟩) L c, .int .i64 most] w fun e w' => e = .returned (.tuple #[.string s, .int .i64 (k + n : Nat), .int .i64 0]) ∧ w' = w := by
 have HC := Lib.hid HC
 have n1 : ¬ (most : Int) < 0 := by omega
 have n2 : ¬ (most : Int) < (n : Int) := by omega
 have n3 : ¬ ((L : Int) - (k : Int)) < (n : Int) := by omega
 go_enter Tryz.func134, Tryz.ntmps134
 go_wp2_with fail
 refine HC.out.mono ?_
 rintro e w1 ⟨rfl, rfl⟩
 go_wp2_with fail
 go_ret3
 refine ⟨?_, rfl⟩
 show Ending.returned (.tuple #[.string s, .int .i64 ((k : Int) + (n : Int)), .int .i64 0]) = _
 rw [Int.natCast_add]
theorem text_ok (w : World) {v : Value} {s r : Bs} (h : Rd w v (putU s.length ++ (s ++ r))) (most : Nat) (h0 : 1 ≤ s.length) (hs : s.length ≤ most) (hm : most ≤ 1000000) :
  Calls Tryz.prog 134 #[v, .int .i64 most] w fun e w' => e = .returned (.tuple #[.string (strOf s), .int .i64 ((putU s.length).length + s.length : Nat), .int .i64 0]) ∧ w' = w := by
 obtain ⟨a, c, rfl, h1, h2, h3⟩ := h.slice
 have hu := uint_ok w h
 rw [getUint_putU (by omega)] at hu
 have hlen : (putU s.length ++ (s ++ r)).length = (putU s.length).length + (s.length + r.length) := by rw [List.length_append, List.length_append]
 obtain ⟨-, -, -, hcell⟩ := h.cell
 obtain ⟨b, off, rfl, -⟩ := hcell (by omega)
 refine text_walk w b off _ c s.length (putU s.length).length most (strOf s) h1 h2 (by omega) (by omega) hs hm hu fun cap => h.conv _ s ?_ cap
 rw [List.drop_left, List.take_left]
theorem rd_byte (w : World) (B : Nat) {k : UInt8} {ty : TypeId} (h : w.heap[B]? = some (.cells #[.int .u8 k.toNat] ty (0, 0))) : Rd w (.slice (some ⟨B, 0, none⟩) 1 1) [k] :=
 ⟨⟨some ⟨B, 0, none⟩, 1, rfl, Nat.le_refl _, by unfold maxLen; omega, fun i hi => ⟨B, 0, rfl, fun j u hu => by
  obtain rfl : i = 0 := by simpa using hi
  have := cell_blk h (0 + 0 * 1 + j)
  rw [this]
  simpa using hu⟩⟩, fun n c e => by cases e⟩
abbrev boxFr (k : UInt8) (v : Value) : Obj := .cells #[.int .u8 k.toNat, v] 25
set_option maxRecDepth 100000 in
set_option maxHeartbeats 2000000 in
theorem putFrame_ok (w : World) {v u : Value} {l d : Bs} (h : Rd w v l) (k : UInt8) (hd : Rd w u d) (hd2 : d.length ≤ 2000) (hl : l.length ≤ 100000000) :
  Calls Tryz.prog 62 #[v, .agg #[.int .u8 k.toNat, u]] w fun e w' => ∃ v', e = .returned (.tuple #[v', .int .i64 0]) ∧ Ow w' w.heap.size v' (l ++ putFrame k d) ∧ Upd [] w w' := by
 obtain ⟨a, c, rfl, h1, h2, h3⟩ := hd.slice
 have HL := Lib.hid h
 have HD := Lib.hid hd
 clear h hd
 have hn : ¬ (2000 : Int) < (d.length : Int) := by omega
 go_enter Tryz.func62, Tryz.ntmps62
 go_wp2_with fail
 obtain ⟨W1, hW1⟩ : ∃ W, W = w.alloc (boxFr k (.slice a d.length c)) := ⟨_, rfl⟩
 have HU1 : Hid (Upd [] w W1) := Lib.hid (by rw [hW1]; exact (Upd.refl [] w).alloc _)
 have HB1 : Hid (W1.heap[w.heap.size]? = some (boxFr k (.slice a d.length c))) := Lib.hid (by rw [hW1]; exact heap_top _ _)
 have p0 : W1.cell? ⟨w.heap.size, 0, none⟩ = some (.int .u8 k.toNat) := cell_blk HB1.out 0
 have p1 : W1.cell? ⟨w.heap.size, 1, none⟩ = some (.slice a d.length c) := cell_blk HB1.out 1
 rewrite [← hW1]
 clear hW1
 have HC : Hid (∀ V : World, Upd [] (W1.drew.alloc (.cells #[.int .u8 k.toNat] 5)) V → Calls Tryz.prog 95 #[.slice (some ⟨W1.heap.size, 0, none⟩) 1 1, .int .u64 d.length] V fun e w' => ∃ v', e = .returned v' ∧ Ow w' V.heap.size v' ([k] ++ putU d.length) ∧ Upd [] V w') :=
  Lib.hid fun V u => putUint_ok V (Rd.keep (l := [k]) (rd_byte _ _ (heap_top _ _)) u) d.length (by omega) (by simp)
 have hwr : IntKind.u64.wrap (d.length : Int) = (d.length : Int) := by rw [IntKind.wrap_u64]; omega
 have hul : ([k] ++ putU d.length).length ≤ 20 := by have := putU_len64 (n := d.length) (by omega); simp; omega
 go_region_held3 (fun w' => w'.cell? ⟨w.heap.size, 0, none⟩ = some (.int .u8 k.toNat) ∧ w'.cell? ⟨w.heap.size, 1, none⟩ = some (.slice a d.length c))
  (first
   | (with_reducible exact held2 (Upd.refl [] W1).drew ⟨p0, p1⟩)
   | (with_reducible exact held2 ((Upd.refl [] W1).alloc _).drew ⟨p0, p1⟩)
   | (with_reducible exact held2 hv6 ⟨p0, p1⟩)
   | (with_reducible exact held2 hv7 ⟨p0, p1⟩))
  (first
   | (go_at_call 95; (with_reducible refine (HC.out _ ?_).mono ?_); (exact ⟨rfl, rfl, Nat.le_refl _, fun _ _ _ => rfl⟩); rintro e w6 ⟨v6, rfl, ho6, hu6⟩; have hv6 : Upd [] W1 w6 := ((Upd.refl [] W1).drew.alloc _).trans hu6)
   | (refine step_append_G T8 (by rfl) _ _ (by rfl) (base := (W1.drew.alloc (.cells #[.int .u8 k.toNat] 5)).heap.size) (v := v6) (l := [k] ++ putU d.length) (A := a) (c := c) (r := d) (by rfl) (by exact ho6) (by rfl) (by exact (HD.out.keep (HU1.out.trans hv6)).src) (one8 _) ?_ ?_ ?_ ?_; (omega); (omega); (exact hu6.size); intro v7 w7 ho7 hg7 _; have hv7 : Upd [] W1 w7 := hv6.grown hg7 (fun g hg => by have := (ho6.block g hg).1; simp at this; omega)))
 have HR7 : Hid (Rd w7 v7 (frameRest k d)) := Lib.hid (by have := Ow.rd ho7; simpa [frameRest] using this)
 have hU7 : Upd [] w w7 := HU1.out.trans hv7
 have HU7 := Lib.hid hU7
 have hrl : (frameRest k d).length ≤ 2020 := by simp only [List.length_append, List.length_cons, List.length_nil] at hul; simp only [frameRest, List.length_cons, List.length_append]; omega
 clear ho7 hg7 hv7 ho6 hu6 hv6 HC p0 p1 hU7
 have hsum := sumB_lt (frameRest k d)
 go_wp2_with fail
 refine (sum_ok w7 HR7.out).mono ?_
 rintro e w8 ⟨rfl, hU8⟩
 have HU8 := Lib.hid (HU7.out.trans hU8)
 have HR8 := Lib.hid (HR7.out.keep hU8)
 clear hU8
 go_wp2_with fail
 refine (put32_ok w8 (HL.out.keep HU8.out) (sumB (frameRest k d)) hsum hl).mono ?_
 rintro e w9 ⟨v9, rfl, ho9, hU9⟩
 have HU9 := Lib.hid (HU8.out.trans hU9)
 have HR9 := Lib.hid (HR8.out.keep hU9)
 have h98 := hU9.size
 have hw8 := HU8.out.size
 clear hU9
 obtain ⟨a7, c7, rfl, -⟩ := HR9.out.slice
 go_wp2_with (at_builtin; refine wpList_append_G T8 rfl _ _ rfl (l := l ++ put32 (sumB (frameRest k d))) rfl ho9 rfl HR9.out.src (one8 _) ?c1 ?c2 ?c3 ?_)
 case c1 => simp [put32]; omega
 case c2 => simp [put32]; omega
 case c3 => omega
 intro v10 w10 ho10 hg10 _
 have HU10 : Hid (Upd [] w w10) := Lib.hid (HU9.out.grown hg10 (fun g hg => by have := (ho9.block g hg).1; omega))
 clear hg10 ho9
 go_wp2_with fail
 go_ret2
 exact ⟨_, rfl, by have := ho10.base hw8; unfold putFrame; simpa using this, HU10.out⟩
end Go.Proofs.YtgpefiacbipfpaaGreatDoor

namespace Go.Proofs.YtgpefiacbipfpaaGreatDoor
open Go.RowKit
structure RdG {α : Type} (f : α → List Value) (k : Nat) (w : World) (v : Value) (l : List α) : Prop where
 sl : SlAt k (CellsAt f) w v l
 nl : ∀ n c, v = .slice none n c → c = 0
theorem RdG.slice {α : Type} {f : α → List Value} {k : Nat} {w : World} {v : Value} {l : List α} (h : RdG f k w v l) : ∃ a c, v = .slice a l.length c ∧ l.length ≤ c ∧ c ≤ 9223372036854775807 ∧ (a = none → l.length = 0 ∧ c = 0) := by
 obtain ⟨⟨a, c, rfl, h1, h2, h3⟩, h4⟩ := h
 refine ⟨a, c, rfl, h1, by unfold maxLen at h2; omega, fun e => ?_⟩
 subst e
 have := h4 _ _ rfl
 omega
theorem RdG.upd {α : Type} {f : α → List Value} {k bytes : Nat} {st e : TypeId} (T : RowT f k bytes st e) {w w' : World} {v : Value} {l : List α} (h : RdG f k w v l) {F : List Nat} (u : Upd F w w') (hF : ∀ g, v.ownBlock = some g → g ∉ F) : RdG f k w' v l := ⟨SlAt.upd h.sl T u hF, h.nl⟩
theorem RdG.keep {α : Type} {f : α → List Value} {k bytes : Nat} {st e : TypeId} (T : RowT f k bytes st e) {w w' : World} {v : Value} {l : List α} (h : RdG f k w v l) (u : Upd [] w w') : RdG f k w' v l := h.upd T u (by simp)
theorem OwnG.rd {α : Type} {f : α → List Value} {k bytes : Nat} {st e : TypeId} (T : RowT f k bytes st e) {w : World} {base : Nat} {v : Value} {l : List α} (h : OwnG f e k w base v l) : RdG f k w v l := ⟨OwnG.sl T h, fun n c e => by
 rcases h.2 with ⟨h, -⟩ | ⟨g, cap, cur, h, -⟩
 ·rw [h] at e; cases e; rfl
 ·rw [h] at e; cases e⟩
theorem Rd.g {w : World} {v : Value} {l : Bs} (h : Rd w v l) : RdG c8 1 w v l := ⟨h.sl, h.nl⟩
theorem RdG.b {w : World} {v : Value} {l : Bs} (h : RdG c8 1 w v l) : Rd w v l := ⟨h.sl, h.nl⟩
abbrev cB (b : Bool) : List Value := [.bool b]
theorem TB : RowT cB 1 1 149 4 where
 len := fun _ => rfl
 pos := by omega
 und := Tryz.underlying149
 info := by
  obtain ⟨i, h, h1, h2, h3⟩ := info_parts (show (Tryz.prog.info? 4).map (fun i => (i.zero, i.size, i.bytes)) = some (some (.bool false), 1, 1) by kernel_rfl)
  exact ⟨i, _, h, h1, h2, h3, rfl⟩
theorem oneB (l : List Bool) : ∀ x ∈ l, ∀ u ∈ cB x, u.oneCell' = true := by
 intro x _ u hu
 simp only [cB, List.mem_cons, List.not_mem_nil, or_false] at hu
 subst hu; rfl
abbrev cR (r : Run) : List Value := [.int .i64 r.1, .int .i64 r.2]
theorem TR : RowT cR 2 16 90 148 where
 len := fun _ => rfl
 pos := by omega
 und := Tryz.underlying90
 info := by
  obtain ⟨i, h, h1, h2, h3⟩ := info_parts (show (Tryz.prog.info? 148).map (fun i => (i.zero, i.size, i.bytes)) = some (some (.agg #[.int .i64 0, .int .i64 0]), 2, 16) by kernel_rfl)
  exact ⟨i, _, h, h1, h2, h3, rfl⟩
theorem oneR (l : List Run) : ∀ x ∈ l, ∀ u ∈ cR x, u.oneCell' = true := by
 intro x _ u hu
 simp only [cR, List.mem_cons, List.not_mem_nil, or_false] at hu
 rcases hu with rfl | rfl <;> rfl
structure WrC where
 at_ : Nat
 a : Option Addr
 n : Nat
 c : Nat
abbrev cW (x : WrC) : List Value := [.int .i64 x.at_, .slice x.a x.n x.c]
theorem TW : RowT cW 2 32 101 168 where
 len := fun _ => rfl
 pos := by omega
 und := Tryz.underlying101
 info := by
  obtain ⟨i, h, h1, h2, h3⟩ := info_parts (show (Tryz.prog.info? 168).map (fun i => (i.zero, i.size, i.bytes)) = some (some (.agg #[.int .i64 0, .slice none 0 0]), 2, 32) by kernel_rfl)
  exact ⟨i, _, h, h1, h2, h3, rfl⟩
theorem oneW (l : List WrC) : ∀ x ∈ l, ∀ u ∈ cW x, u.oneCell' = true := by
 intro x _ u hu
 simp only [cW, List.mem_cons, List.not_mem_nil, or_false] at hu
 rcases hu with rfl | rfl <;> rfl
set_option maxRecDepth 100000 in
set_option maxHeartbeats 1000000 in
theorem clone8_ok (w : World) {v : Value} {l : List UInt8} (h : RdG c8 1 w v l) (hl : l.length ≤ 100000000) : Calls Tryz.prog 92 #[v] w fun e w' => ∃ v', e = .returned v' ∧ OwnG c8 5 1 w' w.heap.size v' l ∧ Upd [] w w' := by
 obtain ⟨a, c, rfl, h1, h2, h3⟩ := h.slice
 have HL := Lib.hid h
 clear h
 rcases a with _ | ad
 ·obtain ⟨h4, rfl⟩ := h3 rfl
  obtain rfl := List.eq_nil_of_length_eq_zero h4
  have hop : ∀ W, (binOp .eql 23 (.slice none 0 0) (.slice none 0 0)).run Tryz.prog W = .ok (.bool true) W := fun W => Lib.run_eql_slice_nil W _ _ _ _ _ _ _ T8.und
  go_enter Tryz.func92, Tryz.ntmps92
  go_wp2_with fail
  go_ret
  exact ⟨_, rfl, OwnG.nil _ _, Upd.refl _ _⟩
 ·have hop : ∀ W, (binOp .eql 23 (.slice (some ad) l.length c) (.slice none 0 0)).run Tryz.prog W = .ok (.bool false) W := fun W => Lib.run_eql_slice_nil W _ _ _ _ _ _ _ T8.und
  go_enter Tryz.func92, Tryz.ntmps92
  go_wp2_with (at_builtin; refine wpList_append_G T8 rfl _ _ rfl (l := []) (base := w.heap.size) rfl (OwnG.empty T8 (heap_top _ _) (Nat.le_refl _)) rfl (SlAt.srcG T8 (fun _ _ _ h => h) (HL.out.keep T8 ((Upd.refl [] w).alloc _)).sl) (one8 _) ?c1 ?c2 ?c3 ?_)
  case c1 => (first | omega | (simp; done) | (simp; omega))
  case c2 => (first | omega | (simp; done) | (simp; omega))
  case c3 => (first | omega | (simp; done) | (simp; omega))
  intro v2 w2 hown2 hg2 _
  have HU2 : Hid (Upd [] w w2) := Lib.hid (((Upd.refl [] w).alloc _).grown hg2 (fun g hg => by simp [Value.ownBlock] at hg; omega))
  clear hg2
  go_wp2_with fail
  go_ret
  exact ⟨_, rfl, by simpa using hown2, HU2.out⟩
set_option maxRecDepth 100000 in
set_option maxHeartbeats 1000000 in
theorem cloneB_ok (w : World) {v : Value} {l : List Bool} (h : RdG cB 1 w v l) (hl : l.length ≤ 100000000) : Calls Tryz.prog 112 #[v] w fun e w' => ∃ v', e = .returned v' ∧ OwnG cB 4 1 w' w.heap.size v' l ∧ Upd [] w w' := by
 obtain ⟨a, c, rfl, h1, h2, h3⟩ := h.slice
 have HL := Lib.hid h
 clear h
 rcases a with _ | ad
 ·obtain ⟨h4, rfl⟩ := h3 rfl
  obtain rfl := List.eq_nil_of_length_eq_zero h4
  have hop : ∀ W, (binOp .eql 149 (.slice none 0 0) (.slice none 0 0)).run Tryz.prog W = .ok (.bool true) W := fun W => Lib.run_eql_slice_nil W _ _ _ _ _ _ _ TB.und
  go_enter Tryz.func112, Tryz.ntmps112
  go_wp2_with fail
  go_ret
  exact ⟨_, rfl, OwnG.nil _ _, Upd.refl _ _⟩
 ·have hop : ∀ W, (binOp .eql 149 (.slice (some ad) l.length c) (.slice none 0 0)).run Tryz.prog W = .ok (.bool false) W := fun W => Lib.run_eql_slice_nil W _ _ _ _ _ _ _ TB.und
  go_enter Tryz.func112, Tryz.ntmps112
  go_wp2_with (at_builtin; refine wpList_append_G TB rfl _ _ rfl (l := []) (base := w.heap.size) rfl (OwnG.empty TB (heap_top _ _) (Nat.le_refl _)) rfl (SlAt.srcG TB (fun _ _ _ h => h) (HL.out.keep TB ((Upd.refl [] w).alloc _)).sl) (oneB _) ?c1 ?c2 ?c3 ?_)
  case c1 => (first | omega | (simp; done) | (simp; omega))
  case c2 => (first | omega | (simp; done) | (simp; omega))
  case c3 => (first | omega | (simp; done) | (simp; omega))
  intro v2 w2 hown2 hg2 _
  have HU2 : Hid (Upd [] w w2) := Lib.hid (((Upd.refl [] w).alloc _).grown hg2 (fun g hg => by simp [Value.ownBlock] at hg; omega))
  clear hg2
  go_wp2_with fail
  go_ret
  exact ⟨_, rfl, by simpa using hown2, HU2.out⟩
set_option maxRecDepth 100000 in
set_option maxHeartbeats 1000000 in
theorem cloneR_ok (w : World) {v : Value} {l : List Run} (h : RdG cR 2 w v l) (hl : l.length ≤ 100000000) : Calls Tryz.prog 139 #[v] w fun e w' => ∃ v', e = .returned v' ∧ OwnG cR 148 2 w' w.heap.size v' l ∧ Upd [] w w' := by
 obtain ⟨a, c, rfl, h1, h2, h3⟩ := h.slice
 have HL := Lib.hid h
 clear h
 rcases a with _ | ad
 ·obtain ⟨h4, rfl⟩ := h3 rfl
  obtain rfl := List.eq_nil_of_length_eq_zero h4
  have hop : ∀ W, (binOp .eql 90 (.slice none 0 0) (.slice none 0 0)).run Tryz.prog W = .ok (.bool true) W := fun W => Lib.run_eql_slice_nil W _ _ _ _ _ _ _ TR.und
  go_enter Tryz.func139, Tryz.ntmps139
  go_wp2_with fail
  go_ret
  exact ⟨_, rfl, OwnG.nil _ _, Upd.refl _ _⟩
 ·have hop : ∀ W, (binOp .eql 90 (.slice (some ad) l.length c) (.slice none 0 0)).run Tryz.prog W = .ok (.bool false) W := fun W => Lib.run_eql_slice_nil W _ _ _ _ _ _ _ TR.und
  go_enter Tryz.func139, Tryz.ntmps139
  go_wp2_with (at_builtin; refine wpList_append_G TR rfl _ _ rfl (l := []) (base := w.heap.size) rfl (OwnG.empty TR (heap_top _ _) (Nat.le_refl _)) rfl (SlAt.srcG TR (fun _ _ _ h => h) (HL.out.keep TR ((Upd.refl [] w).alloc _)).sl) (oneR _) ?c1 ?c2 ?c3 ?_)
  case c1 => (first | omega | (simp; done) | (simp; omega))
  case c2 => (first | omega | (simp; done) | (simp; omega))
  case c3 => (first | omega | (simp; done) | (simp; omega))
  intro v2 w2 hown2 hg2 _
  have HU2 : Hid (Upd [] w w2) := Lib.hid (((Upd.refl [] w).alloc _).grown hg2 (fun g hg => by simp [Value.ownBlock] at hg; omega))
  clear hg2
  go_wp2_with fail
  go_ret
  exact ⟨_, rfl, by simpa using hown2, HU2.out⟩
set_option maxRecDepth 100000 in
set_option maxHeartbeats 1000000 in
theorem cloneW_ok (w : World) {v : Value} {l : List WrC} (h : RdG cW 2 w v l) (hl : l.length ≤ 100000000) : Calls Tryz.prog 101 #[v] w fun e w' => ∃ v', e = .returned v' ∧ OwnG cW 168 2 w' w.heap.size v' l ∧ Upd [] w w' := by
 obtain ⟨a, c, rfl, h1, h2, h3⟩ := h.slice
 have HL := Lib.hid h
 clear h
 rcases a with _ | ad
 ·obtain ⟨h4, rfl⟩ := h3 rfl
  obtain rfl := List.eq_nil_of_length_eq_zero h4
  have hop : ∀ W, (binOp .eql 101 (.slice none 0 0) (.slice none 0 0)).run Tryz.prog W = .ok (.bool true) W := fun W => Lib.run_eql_slice_nil W _ _ _ _ _ _ _ TW.und
  go_enter Tryz.func101, Tryz.ntmps101
  go_wp2_with fail
  go_ret
  exact ⟨_, rfl, OwnG.nil _ _, Upd.refl _ _⟩
 ·have hop : ∀ W, (binOp .eql 101 (.slice (some ad) l.length c) (.slice none 0 0)).run Tryz.prog W = .ok (.bool false) W := fun W => Lib.run_eql_slice_nil W _ _ _ _ _ _ _ TW.und
  go_enter Tryz.func101, Tryz.ntmps101
  go_wp2_with (at_builtin; refine wpList_append_G TW rfl _ _ rfl (l := []) (base := w.heap.size) rfl (OwnG.empty TW (heap_top _ _) (Nat.le_refl _)) rfl (SlAt.srcG TW (fun _ _ _ h => h) (HL.out.keep TW ((Upd.refl [] w).alloc _)).sl) (oneW _) ?c1 ?c2 ?c3 ?_)
  case c1 => (first | omega | (simp; done) | (simp; omega))
  case c2 => (first | omega | (simp; done) | (simp; omega))
  case c3 => (first | omega | (simp; done) | (simp; omega))
  intro v2 w2 hown2 hg2 _
  have HU2 : Hid (Upd [] w w2) := Lib.hid (((Upd.refl [] w).alloc _).grown hg2 (fun g hg => by simp [Value.ownBlock] at hg; omega))
  clear hg2
  go_wp2_with fail
  go_ret
  exact ⟨_, rfl, by simpa using hown2, HU2.out⟩
end Go.Proofs.YtgpefiacbipfpaaGreatDoor

namespace Go.Proofs.YtgpefiacbipfpaaGreatDoor
open Go.RowKit
open Bc (Nd It Rep foot chain_at)
abbrev SvB := Bc.C.Sl
abbrev svV (s : Bc.C.Sl) : Value := .slice s.a s.n s.c
abbrev cfgB := Bc.C.cfg
theorem own_ne' {α : Type} {f : α → List Value} {e t : TypeId} {k base B : Nat} {W : World} {v : Value} {l : List α} {c : Array Value} {fr : Nat × Nat} (h : OwnG f e k W base v l) (hb : W.heap[B]? = some (.cells c t fr)) (ht : t ≠ e) : v.ownBlock ≠ some B := by
 intro hv
 rcases h.2 with ⟨rfl, -⟩ | ⟨g, cap, cur, rfl, -, hg, -⟩
 ·cases hv
 ·simp only [Value.ownBlock, Option.some.injEq] at hv
  subst hv
  rw [hg] at hb
  simp only [Option.some.injEq, Obj.cells.injEq] at hb
  exact ht hb.2.1.symm
theorem own_map {α : Type} {f : α → List Value} {e : TypeId} {k base B : Nat} {W : World} {v : Value} {l : List α} {es : Array MapEntry} {ck : Nat} (h : OwnG f e k W base v l) (hb : W.heap[B]? = some (.map es ck)) : v.ownBlock ≠ some B := by
 intro hv
 rcases h.2 with ⟨rfl, -⟩ | ⟨g, cap, cur, rfl, -, hg, -⟩
 ·cases hv
 ·simp only [Value.ownBlock, Option.some.injEq] at hv
  subst hv
  rw [hg] at hb
  cases hb
theorem row_foot {w : World} {c m : Nat} {most : Int} {l : List (Nd Int SvB)} (h : Rep cfgB w c m most l) {base : Nat} {v : Value} {b : Bs} (ho : OwnG c8 5 1 w base v b) : ∀ j ∈ foot c m l, v.ownBlock ≠ some j := by
 intro j hj
 simp only [foot, List.mem_cons, List.mem_map] at hj
 rcases hj with rfl | rfl | ⟨n, hn, rfl⟩
 ·exact own_ne' ho h.lay.cache (by decide)
 ·obtain ⟨es, ck, h1, -⟩ := h.map
  exact own_map ho h1
 ·obtain ⟨p, q, h1⟩ := chain_at cfgB h.lay.chain hn
  exact own_ne' ho h1 (by decide)
structure CaR (w : World) (c m : Nat) (l : List (Nd Int SvB)) (V : Nat → Bs) (FC : List Nat) : Prop where
 rep : Rep cfgB w c m 16 l
 few : l.length ≤ 16
 val : ∀ x ∈ l, ∃ kk : Nat, x.it.k = kk ∧ x.it.p = 0 ∧ OwnG c8 5 1 w 0 (svV x.it.v) (V kk)
 foot : ∀ k ∈ foot c m l, k ∈ FC
 vin : ∀ x ∈ l, ∀ g, (svV x.it.v).ownBlock = some g → g ∈ FC
theorem CaR.upd {w w' : World} {c m : Nat} {l : List (Nd Int SvB)} {V : Nat → Bs} {FC : List Nat} (h : CaR w c m l V FC) {F : List Nat} (u : Upd F w w') (hF : ∀ k ∈ FC, k ∉ F) : CaR w' c m l V FC :=
 ⟨h.rep.keep u fun k hk => hF k (h.foot k hk), h.few, fun x hx => by
  obtain ⟨kk, h1, h2, h3⟩ := h.val x hx
  exact ⟨kk, h1, h2, h3.upd u fun j hj e => hF j (h.vin x hx j e) hj⟩, h.foot, h.vin⟩
theorem CaR.congr {w : World} {c m : Nat} {l : List (Nd Int SvB)} {V V' : Nat → Bs} {FC : List Nat} (h : CaR w c m l V FC) (e : ∀ k, V' k = V k) : CaR w c m l V' FC :=
 ⟨h.rep, h.few, fun x hx => by obtain ⟨kk, h1, h2, h3⟩ := h.val x hx; exact ⟨kk, h1, h2, by rw [e]; exact h3⟩, h.foot, h.vin⟩
theorem hit_or {l : List (Nd Int SvB)} (x : Int) : (∀ n ∈ l, n.it.k ≠ x) ∨ ∃ l1 y l2, l = l1 ++ y :: l2 ∧ y.it.k = x := by
 by_cases h : ∃ y ∈ l, y.it.k = x
 ·obtain ⟨y, hy, hk⟩ := h
  obtain ⟨l1, l2, rfl⟩ := List.append_of_mem hy
  exact .inr ⟨l1, y, l2, rfl, hk⟩
 ·exact .inl fun n hn e => h ⟨n, hn, e⟩
def CGetPost (w : World) (c m : Nat) (_l : List (Nd Int SvB)) (V : Nat → Bs) (FC : List Nat) (x : Nat) (e : Ending) (w' : World) : Prop :=
 (∃ (v : SvB) (l' : List (Nd Int SvB)), e = .returned (.tuple #[svV v, .bool true]) ∧ OwnG c8 5 1 w' 0 (svV v) (V x) ∧ CaR w' c m l' V FC ∧ Upd FC w w') ∨ (e = .returned (.tuple #[.slice none 0 0, .bool false]) ∧ w' = w)
theorem cget_ok (w : World) {c m : Nat} {l : List (Nd Int SvB)} {V : Nat → Bs} {FC : List Nat} (h : CaR w c m l V FC) (x : Nat) : Calls Tryz.prog 91 #[.pointer (some ⟨c, 0, none⟩), .int .i64 x] w (CGetPost w c m l V FC x) := by
 rcases hit_or (l := l) (x : Int) with hx | ⟨l1, y, l2, rfl, hk⟩
 ·exact (Bc.C.get_miss w h.rep (x : Int) hx).mono fun e w' ⟨he, hw⟩ => .inr ⟨he, hw.symm⟩
 ·refine (Bc.C.get_hit w h.rep (x : Int) hk).mono ?_
  rintro e w' ⟨he, hR, hU⟩
  have hrow : ∀ n ∈ l1 ++ y :: l2, ∃ kk : Nat, n.it.k = kk ∧ n.it.p = 0 ∧ OwnG c8 5 1 w' 0 (svV n.it.v) (V kk) := fun n hn => by
   obtain ⟨kk, h1, h2, h3⟩ := h.val n hn
   exact ⟨kk, h1, h2, h3.upd hU fun j hj => row_foot h.rep h3 j hj⟩
  have hmem : ∀ n, n ∈ l1 ++ l2 ++ [y] → n ∈ l1 ++ y :: l2 := fun n hn => by simp at hn ⊢; grind
  refine .inl ⟨y.it.v, _, he, ?_, ⟨hR, by have := h.few; simp at this ⊢; omega, fun n hn => hrow n (hmem n hn), fun k hk => h.foot k ?_, fun n hn => h.vin n (hmem n hn)⟩, hU.mono fun k hk _ => h.foot k hk⟩
  ·obtain ⟨kk, h1, -, h3⟩ := hrow y (by simp)
   have : kk = x := by rw [hk] at h1; omega
   rw [← this]; exact h3
  ·simp only [foot, List.mem_cons, List.mem_map] at hk ⊢
   rcases hk with rfl | rfl | ⟨n, hn, rfl⟩
   ·simp
   ·simp
   ·exact .inr (.inr ⟨n, hmem n hn, rfl⟩)
def setV (V : Nat → Bs) (x : Nat) (d : Bs) : Nat → Bs := fun k => if k = x then d else V k
def CPutPost (w : World) (c m : Nat) (V : Nat → Bs) (FC : List Nat) (x : Nat) (v : SvB) (d : Bs) (e : Ending) (w' : World) : Prop :=
 ∃ (k' : Int) (v' : SvB) (b1 b2 : Bool) (l' : List (Nd Int SvB)) (FC' : List Nat), e = .returned (.tuple #[.int .i64 k', svV v', .bool b1, .bool b2, .int .i64 0]) ∧ CaR w' c m l' (setV V x d) FC' ∧ Upd FC w w' ∧ ∀ i ∈ FC', i ∈ FC ∨ (w.heap.size ≤ i ∧ i < w'.heap.size) ∨ (svV v).ownBlock = some i
theorem cput_ok (w : World) {c m : Nat} {l : List (Nd Int SvB)} {V : Nat → Bs} {FC : List Nat} (h : CaR w c m l V FC) (x : Nat) (v : SvB) {d : Bs} (hv : OwnG c8 5 1 w 0 (svV v) d) :
  Calls Tryz.prog 93 #[.pointer (some ⟨c, 0, none⟩), .int .i64 x, svV v, .bool false] w (CPutPost w c m V FC x v d) := by
 have hkeep : ∀ {w' : World}, Upd (foot c m l) w w' → ∀ n ∈ l, ∃ kk : Nat, n.it.k = kk ∧ n.it.p = 0 ∧ OwnG c8 5 1 w' 0 (svV n.it.v) (V kk) := fun hU n hn => by
  obtain ⟨kk, h1, h2, h3⟩ := h.val n hn
  exact ⟨kk, h1, h2, h3.upd hU fun j hj => row_foot h.rep h3 j hj⟩
 have hnew : ∀ {w' : World}, Upd (foot c m l) w w' → OwnG c8 5 1 w' 0 (svV v) d := fun hU => hv.upd hU fun j hj => row_foot h.rep hv j hj
 have hoth : ∀ {w' : World}, Upd (foot c m l) w w' → ∀ n ∈ l, n.it.k ≠ x → ∃ kk : Nat, n.it.k = kk ∧ n.it.p = 0 ∧ OwnG c8 5 1 w' 0 (svV n.it.v) (setV V x d kk) := fun hU n hn hne => by
  obtain ⟨kk, h1, h2, h3⟩ := hkeep hU n hn
  exact ⟨kk, h1, h2, by unfold setV; rw [if_neg (fun e => hne (by rw [h1, e]))]; exact h3⟩
 have hfu : ∀ {w' : World}, Upd (foot c m l) w w' → Upd FC w w' := fun hU => hU.mono fun k hk _ => h.foot k hk
 rcases hit_or (l := l) (x : Int) with hx | ⟨l1, y, l2, rfl, hk⟩
 ·by_cases hl : l.length = 16
  ·obtain ⟨y, l2, rfl⟩ : ∃ y l2, l = y :: l2 := by
    cases l with
    | nil => simp at hl
    | cons y l2 => exact ⟨y, l2, rfl⟩
   obtain ⟨_, _, hp0, _⟩ := h.val y (by simp)
   refine (Bc.C.put_goes (l1 := []) w h.rep (x : Int) hx v false (by rw [List.nil_append, hl]; rfl) (by simp) hp0).mono ?_
   rintro e w' ⟨a, he, hR, hU, ha⟩
   rw [List.nil_append] at hR
   refine ⟨_, _, _, _, _, a :: ((svV v).ownBlock.toList ++ FC), he, ⟨hR, by simp at hl ⊢; omega, fun n hn => ?_, fun k hk => ?_, fun n hn g hg => ?_⟩, hfu hU, fun i hi => ?_⟩
   ·rcases List.mem_append.1 hn with hn | hn
    ·exact hoth hU n (by simp [hn]) (hx n (by simp [hn]))
    ·simp only [List.mem_singleton] at hn; subst hn
     exact ⟨x, rfl, rfl, by unfold setV; rw [if_pos rfl]; exact hnew hU⟩
   ·simp only [foot, List.mem_cons, List.mem_map, List.mem_append, List.not_mem_nil, or_false] at hk ⊢
    rcases hk with rfl | rfl | ⟨n, hn | rfl, rfl⟩
    ·exact .inr (.inr (h.foot _ (by simp)))
    ·exact .inr (.inr (h.foot _ (by simp)))
    ·exact .inr (.inr (h.foot _ (by simp; exact .inr (.inr (.inr ⟨n, hn, rfl⟩)))))
    ·exact .inl rfl
   ·rcases List.mem_append.1 hn with hn | hn
    ·have := h.vin n (by simp [hn]) g hg
     simp [this]
    ·simp only [List.mem_singleton] at hn; subst hn
     simp [Option.mem_toList] at hg ⊢
     exact .inr (.inl hg)
   ·simp only [List.mem_cons, List.mem_append, Option.mem_toList] at hi
    rcases hi with rfl | hi | hi
    ·exact .inr (.inl ⟨ha, hR.lt (by simp)⟩)
    ·exact .inr (.inr hi)
    ·exact .inl hi
  ·refine (Bc.C.put_new w h.rep (x : Int) hx v false (by omega)).mono ?_
   rintro e w' ⟨a, he, hR, hU, ha⟩
   refine ⟨_, _, _, _, _, a :: ((svV v).ownBlock.toList ++ FC), he, ⟨hR, by have := h.few; simp; omega, fun n hn => ?_, fun k hk => ?_, fun n hn g hg => ?_⟩, hfu hU, fun i hi => ?_⟩
   ·rcases List.mem_append.1 hn with hn | hn
    ·exact hoth hU n hn (hx n hn)
    ·simp only [List.mem_singleton] at hn; subst hn
     exact ⟨x, rfl, rfl, by unfold setV; rw [if_pos rfl]; exact hnew hU⟩
   ·simp only [foot, List.mem_cons, List.mem_map, List.mem_append, List.not_mem_nil, or_false] at hk ⊢
    rcases hk with rfl | rfl | ⟨n, hn | rfl, rfl⟩
    ·exact .inr (.inr (h.foot _ (by simp)))
    ·exact .inr (.inr (h.foot _ (by simp)))
    ·exact .inr (.inr (h.foot _ (by simp; exact .inr (.inr ⟨n, hn, rfl⟩))))
    ·exact .inl rfl
   ·rcases List.mem_append.1 hn with hn | hn
    ·have := h.vin n hn g hg
     simp [this]
    ·simp only [List.mem_singleton] at hn; subst hn
     simp [Option.mem_toList] at hg ⊢
     exact .inr (.inl hg)
   ·simp only [List.mem_cons, List.mem_append, Option.mem_toList] at hi
    rcases hi with rfl | hi | hi
    ·exact .inr (.inl ⟨ha, hR.lt (by simp)⟩)
    ·exact .inr (.inr hi)
    ·exact .inl hi
 ·refine (Bc.C.put_there w h.rep (x : Int) hk v false).mono ?_
  rintro e w' ⟨he, hR, hU⟩
  obtain ⟨_, _, hp0, _⟩ := h.val y (by simp)
  have hkeys := h.rep.keys
  have hne : ∀ n ∈ l1 ++ l2, n.it.k ≠ x := fun n hn e => by
   rw [List.map_append, List.map_cons] at hkeys
   have h2 := List.nodup_append.1 hkeys
   rcases List.mem_append.1 hn with hn | hn
   ·exact h2.2.2 n.it.k (List.mem_map.2 ⟨n, hn, rfl⟩) y.it.k (by simp) (by rw [e, hk])
   ·exact (List.nodup_cons.1 h2.2.1).1 (List.mem_map.2 ⟨n, hn, by rw [e, hk]⟩)
  refine ⟨_, _, _, _, _, (svV v).ownBlock.toList ++ FC, he, ⟨hR, by have := h.few; simp at this ⊢; omega, fun n hn => ?_, fun k hk2 => ?_, fun n hn g hg => ?_⟩, hfu hU, fun i hi => ?_⟩
  ·rcases List.mem_append.1 hn with hn | hn
   ·exact hoth hU n (by simp at hn ⊢; grind) (hne n hn)
   ·simp only [List.mem_singleton] at hn; subst hn
    exact ⟨x, hk, hp0, by unfold setV; rw [if_pos rfl]; exact hnew hU⟩
  ·have : k ∈ foot c m (l1 ++ y :: l2) := by
    simp only [foot, List.mem_cons, List.mem_map, List.mem_append, List.not_mem_nil, or_false] at hk2 ⊢
    rcases hk2 with rfl | rfl | ⟨n, hn | rfl, rfl⟩
    ·simp
    ·simp
    ·exact .inr (.inr ⟨n, by grind, rfl⟩)
    ·exact .inr (.inr ⟨y, by simp, rfl⟩)
   simp [h.foot k this]
  ·rcases List.mem_append.1 hn with hn | hn
   ·have := h.vin n (by simp at hn ⊢; grind) g hg
    simp [this]
   ·simp only [List.mem_singleton] at hn; subst hn
    simp [Option.mem_toList] at hg ⊢
    exact .inl hg
  ·simp only [List.mem_append, Option.mem_toList] at hi
   rcases hi with hi | hi
   ·exact .inr (.inr hi)
   ·exact .inl hi
end Go.Proofs.YtgpefiacbipfpaaGreatDoor
