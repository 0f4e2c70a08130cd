/- The codec's walks: room, PutUint, PutText, Put32. -/
import Derived.Lib.AppendStr
import Derived.Laws.Tables
import Derived.Laws.Rows
import Derived.Deep.WholeRow
import Derived.Deep.MidRow
import Derived.BigQuiet
import Derived.Test.YtgpefiacbipfpaaGreatDoorC02
set_option maxRecDepth 100000
set_option maxHeartbeats 2000000
namespace Go.Proofs.YtgpefiacbipfpaaGreatDoor
open Go.RowKit
theorem BK (w : World) (a : Option Addr) (n c : Nat) (hn : n ≤ c) (hc : c ≤ 9223372036854775807) (h0 : a = none → n = 0 ∧ c = 0) : Calls Tryz.prog 143 #[.slice a n c] w fun e w' => e = .returned (.slice a n n) ∧ w = w' := by
 rcases a with _ | ⟨b, o, p⟩
 ·obtain ⟨rfl, rfl⟩ := h0 rfl
  go_in
  go_wp2_with fail
  go_ret
  exact ⟨rfl, rfl⟩
 go_in
 go_wp2_with fail
 go_ret
 exact ⟨rfl, rfl⟩
def xA (n : Nat) : UInt8 := UInt8.ofNat (n % 128 + 128)
def sW (n : Nat) : UInt8 := UInt8.ofNat n
theorem Lf : ∀ a : Fin 256, a.val ||| 128 = a.val % 128 + 128 := by decide
theorem Lg (n : Nat) : bits .or .u8 ((n : Int) % 256) 128 = ((xA n).toNat : Nat) := by
 have h := (EV (a := n % 256) (b := 128) (mP _ (by omega)) (by omega)).1
 have e : ((n : Int) % 256) = ((n % 256 : Nat) : Int) := by omega
 rw [e]
 refine h.trans ?_
 rw [xA, qD]
 congr 1
 have h1 : n % 256 = 128 * (n % 256 / 128) + n % 256 % 128 := (Nat.div_add_mod _ _).symm
 have h2 : n % 256 % 128 = n % 128 := by omega
 have h3 := Lf ⟨n % 256, mP _ (by omega)⟩
 dsimp only at h3
 rw [h3, h2]
 omega
theorem Lh {n : Nat} (h : n < 256) : (n : Int) = ((sW n).toNat : Nat) := by
 rw [sW, qD]; omega
theorem nX (w : World) {v : Value} {l : Bs} (h : Rd w v l) (n : Nat) (hn : n < 18446744073709551616) (hl : l.length ≤ 100000000) : Calls Tryz.prog 95 #[v, .int .u64 n] w fun e w' => ∃ v', e = .returned v' ∧ Ow w' w.heap.size v' (l ++ aN n) ∧ aB [] w w' := by
 obtain ⟨a, c, rfl, h1, h2, h3⟩ := h.slice
 have HR := aA (h.rdy w.heap.size)
 clear h
 go_in
 go_wp2_with fail
 refine (BK w a l.length c h1 h2 h3).mono ?_
 rintro e w1 ⟨rfl, rfl⟩
 go_wp2_with fail
 go_loopg [0, 1] n (fun k v u wr => ∃ lv : Bs, u = .int .u64 k ∧ k < 18446744073709551616 ∧ Hid (BI wr w.heap.size v lv) ∧ Hid (lv ++ aN k = l ++ aN n) ∧ Hid (aB [] w wr))
 case atStart => exact ⟨l, rfl, hn, HR, aA rfl, aA (aB.refl _ _)⟩
 case round =>
  obtain ⟨lv, rfl, hk, HV, HE, HU⟩ := hrel
  have hlv : lv.length ≤ 100000010 := by
   have h1 := bM List.length HE.out
   have h2 := gX (n := n) hn
   simp only [bD] at h1
   omega
  by_cases h128 : gk < 128
  ·have hc : ¬ (128 : Int) ≤ (gk : Int) := by omega
   have hB := HU.out.size
   go_wp2_with (at_builtin; refine BH T8 rfl _ _ rfl (base := w.heap.size) (l := lv) rfl (HV.out.keep T8 ((aB.refl [] wr).alloc _)) rfl (EU _ (Lh (n := gk) (by omega)) _) (by simp) (lQ _) ?c1 ?c2 ?c3 ?_)
   case c1 => (first | omega | (simp; omega))
   case c2 => (first | omega | (simp; omega))
   case c3 => (first | omega | (simp; omega))
   intro v2 w2 hown2 hb2
   have HU2 : Hid (aB [] w w2) := aA ((HU.out.alloc _).below hb2 (aQ _))
   have hE := HE.out
   rw [qH h128, ← sW] at hE
   clear hb2 HV HU HE
   go_wp2_with fail
   go_ret
   exact ⟨_, rfl, by rw [← hE]; exact hown2, HU2.out⟩
  have hc : (128 : Int) ≤ (gk : Int) := by omega
  have hB := HU.out.size
  go_wp2_with (at_builtin; refine BH T8 rfl _ _ rfl (base := w.heap.size) (l := lv) rfl (HV.out.keep T8 ((aB.refl [] wr).alloc _)) rfl (EU _ (Lg gk) _) (by simp) (lQ _) ?c1 ?c2 ?c3 ?_)
  case c1 => (first | omega | (simp; omega))
  case c2 => (first | omega | (simp; omega))
  case c3 => (first | omega | (simp; omega))
  intro v2 w2 hown2 hb2
  have HU2 : Hid (aB [] w w2) := aA ((HU.out.alloc _).below hb2 (aQ _))
  have HE2 : Hid ((lv ++ [xA gk]) ++ aN (gk / 128) = l ++ aN n) := aA (by rw [← HE.out, vC h128, ← xA, eJ]; rfl)
  have HV2 : Hid (BI w2 w.heap.size v2 (lv ++ [xA gk])) := aA (.inr hown2)
  clear hb2 HV HU HE hown2
  go_wp2_with fail
  go_roundg (gk / 128)
  case rel => exact ⟨_, by go_num, by omega, HV2, HE2, HU2⟩
  case measure => omega
theorem Lk (s : ByteArray) : Lib.strCells s = aP c8 s.data.toList := by
 rw [uF]; simp [Lib.strCells]
theorem Ll (w : World) {v : Value} {l : Bs} (h : Rd w v l) (s : ByteArray) (hs : s.size ≤ 1000000) (hl : l.length ≤ 100000000) : Calls Tryz.prog 98 #[v, .string s] w fun e w' => ∃ v', e = .returned v' ∧ Ow w' w.heap.size v' (l ++ (aN s.size ++ s.data.toList)) ∧ aB [] w w' := by
 have HC := aA (nX w h s.size (by omega) hl)
 clear h
 go_in
 go_wp2_with fail
 refine HC.out.mono ?_
 rintro e w1 ⟨v1, rfl, hown, hU⟩
 have HU := aA hU
 have hsz := hU.size
 have hx := gX (n := s.size) (by omega)
 obtain ⟨i0, hi0, hz0, hz1, hz2⟩ := kD (show (Tryz.prog.info? 5).map (fun i => (i.zero, i.size, i.bytes)) = some (some (.int .u8 0), 1, 1) by kernel_rfl)
 have hlen : (l ++ aN s.size).length ≤ 100000010 := by rw [bD]; omega
 clear hU HC
 go_wp2_with (at_builtin; refine Lib.wpList_append_own_string _ rfl _ _ 23 9 rfl w.heap.size 5 i0 Tryz.underlying23 Tryz.underlying9 hi0 hz0 hz1 hz2 _ _ _ rfl hown s rfl ?c1 ?c2 ?c3 ?_)
 case c1 => unfold maxLen; omega
 case c2 => omega
 case c3 => omega
 intro v2 w2 hown2 hg2 _
 have HU2 : Hid (aB [] w w2) := aA (HU.out.grown hg2 (fun k hk => (hown.block k hk).1))
 clear hg2 HU hown
 go_wp2_with fail
 go_ret
 refine ⟨_, rfl, ?_, HU2.out⟩
 unfold Ow aK
 rw [← eJ, pU, bD, ← Lk]
 simpa using hown2
theorem Lm (w : World) {x0 x1 x2 x3 : Int} {b0 b1 b2 b3 : UInt8} (h0 : x0 = b0.toNat) (h1 : x1 = b1.toNat) (h2 : x2 = b2.toNat) (h3 : x3 = b3.toNat) (ty : TypeId) :
  hZ c8 (w.alloc (.cells #[.int .u8 x0, .int .u8 x1, .int .u8 x2, .int .u8 x3] ty)) (some ⟨w.heap.size, 0, none⟩) [b0, b1, b2, b3] :=
 iS T8 (by subst h0 h1 h2 h3; exact aX _ _)
theorem Ln {n : Nat} (h : n < 4294967296) : (n : Int) % 256 = ((sW n).toNat : Int) ∧ (n : Int) / 256 % 256 = ((sW (n >>> 8)).toNat : Int) ∧ (n : Int) / 65536 % 256 = ((sW (n >>> 16)).toNat : Int) ∧ (n : Int) / 16777216 = ((sW (n >>> 24)).toNat : Int) := by
 simp only [sW, qD, tP]
 omega
theorem BL (w : World) {v : Value} {l : Bs} (h : Rd w v l) (n : Nat) (hn : n < 4294967296) (hl : l.length ≤ 100000000) : Calls Tryz.prog 119 #[v, .int .u32 n] w fun e w' => ∃ v', e = .returned v' ∧ Ow w' w.heap.size v' (l ++ fD n) ∧ aB [] w w' := by
 obtain ⟨a, c, rfl, h1, h2, h3⟩ := h.slice
 have HR := aA (h.rdy w.heap.size)
 have HS := aA (Ln hn)
 clear h
 go_in
 go_wp2_with fail
 refine (BK w a l.length c h1 h2 h3).mono ?_
 rintro e w1 ⟨rfl, rfl⟩
 go_wp2_with (at_builtin; refine BH T8 rfl _ _ rfl (base := w.heap.size) (l := l) rfl (HR.out.keep T8 ((aB.refl [] w).alloc _)) rfl (Lm _ HS.out.1 HS.out.2.1 HS.out.2.2.1 HS.out.2.2.2 _) (by simp) (lQ _) ?c1 ?c2 ?c3 ?_)
 case c1 => (first | omega | (simp; done) | (simp; omega))
 case c2 => (first | omega | (simp; done) | (simp; omega))
 case c3 => (first | omega | (simp; done) | (simp; omega))
 intro v2 w2 hown2 hb2
 have HU2 : Hid (aB [] w w2) := aA (((aB.refl [] w).alloc _).below hb2 (aQ _))
 clear hb2 HR
 go_wp2_with fail
 go_ret
 exact ⟨_, rfl, hown2, HU2.out⟩
abbrev qO : Array Value := #[.int .u32 (fZ 0), .int .u32 (fZ 1), .int .u32 (fZ 2), .int .u32 (fZ 3), .int .u32 (fZ 4), .int .u32 (fZ 5), .int .u32 (fZ 6), .int .u32 (fZ 7),
 .int .u32 (fZ 8), .int .u32 (fZ 9), .int .u32 (fZ 10), .int .u32 (fZ 11), .int .u32 (fZ 12), .int .u32 (fZ 13), .int .u32 (fZ 14), .int .u32 (fZ 15)]
def gT (i : Nat) : Array Value := ((List.range 16).map fun j => Value.int .u32 (if j < i then fZ j else 0)).toArray
theorem Lo {i : Nat} (h : i < 16) : (gT i).setIfInBounds i (.int .u32 (fZ i)) = gT (i + 1) := by
 apply Array.ext'
 simp only [gT, wO]
 apply wK
 intro j
 simp only [DM, dF, List.length_range, lL]
 by_cases e : i = j
 ·subst e; simp [h]
 rw [aE e]
 by_cases hj : j < 16
 ·simp only [List.getElem?_range hj, yP]
  congr 2
  by_cases h1 : j < i
  ·rw [aF h1, aF (by omega)]
  rw [aE h1, aE (by omega)]
 rw [gG (by simp; omega)]; simp
theorem Lp : gT 16 = qO := rfl
theorem xB (i : Nat) : (gT i).size = 16 := by simp [gT]
theorem EW (i : Nat) : (gT i).all (·.oneCell') = true := by
 rw [Array.all_eq_true_iff_forall_mem]
 intro v hv
 simp only [gT, List.mem_toArray, cV] at hv
 obtain ⟨j, -, rfl⟩ := hv
 rfl
def BM : Nat → Nat → Nat
 | 0, r => r
 | k + 1, r => BM k (fN r)
theorem Lq {r : Nat} (h : r < 4294967296) : bits .xor .u32 ((r : Int) / 2) (2197175160 * bits .and .u32 (r : Int) 1 % 4294967296) = ((fN r : Nat) : Int) := by
 have h1 := (oZ (a := r) (b := 1) h (by omega)).2.1
 have h1' : bits .and .u32 (r : Int) 1 = ((r &&& 1 : Nat) : Int) := h1
 rw [h1']
 have e1 : (r : Int) / (2 : Int) = ((r >>> 1 : Nat) : Int) := by rw [tP]; omega
 have e2 : (2197175160 * ((r &&& 1 : Nat) : Int)) % 4294967296 = ((0x82f63b78 * (r &&& 1) % 2 ^ 32 : Nat) : Int) := by omega
 rw [e1, e2]
 exact (oZ (by rw [tP]; omega) (mP _ (by decide))).2.2
theorem Lr (w : World) : Calls Tryz.prog 155 #[] w fun e w' => e = .returned (.agg qO) ∧ aB [] w w' := by
 go_in
 go_wp2_with fail
 have hA : Hid (((w.alloc (.cells (gT 0) 216)).alloc (.cells (gT 0) 216)).heap[w.heap.size]? = some (.cells (gT 0) 216 (0, 0)) ∧ ((w.alloc (.cells (gT 0) 216)).alloc (.cells (gT 0) 216)).heap[w.heap.size + 1]? = some (.cells (gT 0) 216 (0, 0))) := by
  refine aA ⟨?_, ?_⟩
  ·rw [heap_alloc, aE (by simp), aX]
  rw [heap_alloc, aF (by simp)]
 go_loopg [4] 16 (fun k v wr => ∃ i : Nat, v = .int .i64 i ∧ i ≤ 16 ∧ k = 16 - i ∧ Hid (wr.heap[w.heap.size]? = some (.cells (gT 0) 216 (0, 0)) ∧ wr.heap[w.heap.size + 1]? = some (.cells (gT i) 216 (0, 0))) ∧ Hid (aB [] w wr))
 case atStart => exact ⟨0, rfl, by omega, rfl, hA, aA (((aB.refl [] w).alloc _).alloc _)⟩
 case round =>
  obtain ⟨i, rfl, hi, rfl, HB, HU⟩ := hrel
  obtain ⟨W1, rfl⟩ : ∃ W1, W1 = wr := ⟨_, rfl⟩
  have f1 : W1.frozen? ⟨w.heap.size + 1, i, none⟩ = false := aZ HB.out.2 _
  by_cases h16 : i < 16
  ·have c1 : W1.cell? ⟨w.heap.size + 1, i, none⟩ = some (.int .u32 0) := by
    rw [aD HB.out.2]
    simp [gT, h16]
   have hlt : (i : Int) < 16 := by omega
   go_wp2_with fail
   go_loopg [3, 9] 4 (fun k r v wr => ∃ j x : Nat, v = .int .i64 j ∧ r = .int .u32 x ∧ j ≤ 4 ∧ k = 4 - j ∧ x < 4294967296 ∧ Hid (BM (4 - j) x = fZ i) ∧ wr = W1)
   case atStart => exact ⟨0, i, rfl, rfl, by omega, rfl, by omega, aA rfl, rfl⟩
   case round =>
    obtain ⟨j, x, rfl, rfl, hj, rfl, hx, HX, rfl⟩ := hrel
    by_cases h4 : j < 4
    ·have hlt4 : (j : Int) < 4 := by omega
     go_wp2_with fail
     go_roundg (4 - (j + 1))
     case rel => exact ⟨j + 1, fN x, by go_num, by rw [← Lq hx], by omega, rfl, vD hx, aA (by rw [← HX.out, show 4 - j = (4 - (j + 1)) + 1 by omega]; rfl), rfl⟩
     case measure => omega
    have hlt4 : ¬ (j : Int) < 4 := by omega
    obtain rfl : j = 4 := by omega
    have hX := HX.out
    simp only [tR, BM] at hX
    subst hX
    go_wp2_with fail
    go_roundg (16 - (i + 1))
    case rel =>
     refine ⟨i + 1, by go_num, by omega, rfl, aA ⟨?_, ?_⟩, aA ?_⟩
     ·rw [bJ, aE (by omega)]; exact HB.out.1
     ·rw [bJ, aF rfl, HB.out.2]
      show some (Obj.cells ((gT i).setIfInBounds i _) _ _) = _
      rw [Lo h16]
     exact HU.out.setCellNew (by omega) _ _
    case measure => omega
  have hlt : ¬ (i : Int) < 16 := by omega
  obtain rfl : i = 16 := by omega
  go_wp2_with (first
   | (refine wpList_load_row rfl 216 _ rfl (w.heap.size + 1) rfl _ (gT 16) (0, 0) _ HB.out.2 Tryz.underlying216 rfl (by rw [xB]; kernel_rfl) ?_)
   | (refine wpList_store_row rfl 216 _ _ rfl w.heap.size (gT 16) rfl rfl _ (gT 0) HB.out.1 (by rw [xB]; kernel_rfl) (by rw [xB, xB]) (EW 16) ?_)
   | fail)
  have hb : (W1.setRow w.heap.size (gT 16)).heap[w.heap.size]? = some (.cells (gT 16) 216 (0, 0)) := Bh W1 _ _ _ _ _ HB.out.1
  refine rO (v := .agg (gT 16)) (results_cell_row Tryz.results155 _ _ w.heap.size _ (gT 16) (0, 0) _ rfl hb Tryz.underlying216 rfl (by rw [xB]; kernel_rfl)) rfl ?_
  exact ⟨rfl, ⟨HU.out.os, HU.out.output, by simpa [World.setRow] using HU.out.size, fun k hk hn => by rw [setRow_other W1 _ k _ (by omega)]; exact HU.out.block k hk hn⟩⟩
theorem EX {i : Nat} (h : i < 16) : qO[i]? = some (.int .u32 (fZ i)) := by
 rw [← Lp]
 simp [gT, h]
def zK (x : Nat) : Nat := (x >>> 4) ^^^ fZ (x &&& 15)
theorem Ls (r : Nat) (c : UInt8) : mF r c = zK (zK (r ^^^ c.toNat)) := rfl
theorem EY {x : Nat} (hx : x < 4294967296) : ∃ a y : Nat, a < 16 ∧ a = x &&& 15 ∧ y = zK x ∧ y < 4294967296 ∧ bits .and .u32 (x : Int) 15 = (a : Int) ∧ bits .xor .u32 ((x : Int) / 16) (fZ a : Int) = (y : Int) := by
 refine ⟨x &&& 15, zK x, Bk x, rfl, rfl, Bn hx, (oZ (b := 15) hx (by omega)).2.1, ?_⟩
 have e1 : (x : Int) / (16 : Int) = ((x >>> 4 : Nat) : Int) := by rw [tP]; omega
 rw [e1]
 exact (oZ (by rw [tP]; omega) (Eg (yJ (Bk x) (by decide)))).2.2
theorem EZ (l : Bs) (i : Nat) (h : i < l.length) (r : Nat) : (l.take (i + 1)).foldl mF r = mF ((l.take i).foldl mF r) l[i] := by
 rw [iK, bL h, AT]
 rfl
theorem BN (w : World) {v : Value} {l : Bs} (h : Rd w v l) : Calls Tryz.prog 120 #[v] w fun e w' => e = .returned (.int .u32 (jU l)) ∧ aB [] w w' := by
 obtain ⟨a, c, rfl, h1, h2, h3⟩ := h.slice
 have HR := aA h
 clear h
 go_in
 go_wp2_with fail
 refine (Lr w).mono ?_
 rintro e w1 ⟨rfl, hU1⟩
 have HU1 := aA hU1
 clear hU1
 go_wp2_with (first
    | (refine wpList_store_row rfl 216 _ _ rfl w1.heap.size qO rfl rfl _ _ (aX _ _) (by kernel_rfl) rfl (EW 16) ?_)
    | fail)
 have hW0 : Hid (((w1.alloc (.cells qO 216)).heap[w1.heap.size]? = some (.cells qO 216 (0, 0))) ∧ aB [] w (w1.alloc (.cells qO 216))) := aA ⟨aX _ _, HU1.out.alloc _⟩
 have hset : ∀ o : Array Value, (w1.alloc (.cells o 216)).setRow w1.heap.size qO = w1.alloc (.cells qO 216) := fun o => World.setRow_alloc_new _ _ _ _
 rewrite [hset]
 clear hset
 go_loopg [4, 10] l.length (fun k r v wr => ∃ i x : Nat, v = .int .i64 i ∧ r = .int .u32 x ∧ i ≤ l.length ∧ k = l.length - i ∧ x < 4294967296 ∧ Hid (x = (l.take i).foldl mF 0xffffffff) ∧ Hid (wr.heap[w1.heap.size]? = some (.cells qO 216 (0, 0)) ∧ aB [] w wr))
 case atStart => exact ⟨0, 4294967295, rfl, rfl, by omega, rfl, by omega, aA rfl, hW0⟩
 case round =>
  obtain ⟨i, x, rfl, rfl, hi, rfl, hx, HX, HB⟩ := hrel
  by_cases hil : i < l.length
  ·have hlt : (i : Int) < (l.length : Int) := by omega
   obtain ⟨-, -, -, hcell⟩ := (HR.out.keep HB.out.2).cell
   obtain ⟨b, off, rfl, hc⟩ := hcell (by omega)
   have hcb := hc i hil
   clear hc hcell
   obtain ⟨d, hd⟩ : ∃ d : Nat, d = l[i].toNat := ⟨_, rfl⟩
   have hd8 : d < 256 := by rw [hd]; exact l[i].toNat_lt
   rw [← hd] at hcb
   obtain ⟨x0, hx0⟩ : ∃ y : Nat, y = x ^^^ d := ⟨_, rfl⟩
   have hx0l : x0 < 4294967296 := by rw [hx0]; exact wI (n := 32) hx (by omega)
   have e0 : bits .xor .u32 (x : Int) (d : Int) = (x0 : Int) := by rw [hx0]; exact (oZ hx (by omega)).2.2
   obtain ⟨a1, x1, ha1, ha1e, hx1e, hx1, f1, f2⟩ := EY hx0l
   obtain ⟨a2, x2, ha2, ha2e, hx2e, hx2, f3, f4⟩ := EY hx1
   have c1 : wr.cell? ⟨w1.heap.size, a1, none⟩ = some (.int .u32 (fZ a1)) := by rw [aD HB.out.1]; exact EX ha1
   have c2 : wr.cell? ⟨w1.heap.size, a2, none⟩ = some (.int .u32 (fZ a2)) := by rw [aD HB.out.1]; exact EX ha2
   have HX2 : Hid (x2 = (l.take (i + 1)).foldl mF 0xffffffff) := aA (by rw [EZ l i hil, ← HX.out, Ls, ← hd, ← hx0, ← hx1e, ← hx2e])
   clear HX hx0 hx1e hx2e ha1e ha2e hd
   go_wp2_with fail
   go_roundg (l.length - (i + 1))
   case rel => exact ⟨i + 1, x2, by go_num, rfl, by omega, rfl, hx2, HX2, HB⟩
   case measure => omega
  have hlt : ¬ (i : Int) < (l.length : Int) := by omega
  obtain rfl : i = l.length := by omega
  go_wp2_with fail
  go_ret
  have hX := HX.out
  rw [rL] at hX
  have e : bits .xor .u32 IntKind.u32.max (x : Int) = ((4294967295 ^^^ x : Nat) : Int) := (oZ (a := 4294967295) (by omega) hx).2.2
  refine ⟨?_, HB.out.2⟩
  rw [e, hX]
  rfl
theorem Fa (l : Bs) (h : 4 ≤ l.length) : ∃ y0 y1 y2 y3 : Nat, y0 < 256 ∧ y1 < 256 ∧ y2 < 256 ∧ y3 < 256 ∧ l[0].toNat = y0 ∧ l[1].toNat = y1 ∧ l[2].toNat = y2 ∧ l[3].toNat = y3 ∧ lM l = y0 ||| y1 <<< 8 ||| y2 <<< 16 ||| y3 <<< 24 := by
 match l, h with
 | x0 :: x1 :: x2 :: x3 :: r, _ => exact ⟨_, _, _, _, x0.toNat_lt, x1.toNat_lt, x2.toNat_lt, x3.toNat_lt, rfl, rfl, rfl, rfl, rfl⟩
theorem Lt {y0 y1 y2 y3 : Nat} (h0 : y0 < 256) (h1 : y1 < 256) (h2 : y2 < 256) (h3 : y3 < 256) :
  bits .or .u32 (bits .or .u32 (bits .or .u32 (y0 : Int) ((y1 : Int) * 256)) ((y2 : Int) * 65536)) ((y3 : Int) * 16777216) = ((y0 ||| y1 <<< 8 ||| y2 <<< 16 ||| y3 <<< 24 : Nat) : Int) := by
 have e1 : (y1 : Int) * (256 : Int) = ((y1 <<< 8 : Nat) : Int) := by rw [mO]; omega
 have e2 : (y2 : Int) * (65536 : Int) = ((y2 <<< 16 : Nat) : Int) := by rw [mO]; omega
 have e3 : (y3 : Int) * (16777216 : Int) = ((y3 <<< 24 : Nat) : Int) := by rw [mO]; omega
 have b1 : y1 <<< 8 < 4294967296 := by rw [mO]; omega
 have b2 : y2 <<< 16 < 4294967296 := by rw [mO]; omega
 have b3 : y3 <<< 24 < 4294967296 := by rw [mO]; omega
 have o1 : y0 ||| y1 <<< 8 < 4294967296 := yO (n := 32) (by omega) b1
 have o2 : y0 ||| y1 <<< 8 ||| y2 <<< 16 < 4294967296 := yO (n := 32) o1 b2
 rw [e1, e2, e3, (oZ (by omega) b1).1, (oZ o1 b2).1, (oZ o2 b3).1]
theorem Lu (w : World) {v : Value} {l : Bs} (h : Rd w v l) : Calls Tryz.prog 153 #[v] w fun e w' => e = .returned (.tuple #[.int .u32 (if l.length < 4 then 0 else lM l), .int .i64 (if l.length < 4 then 10 else 0)]) ∧ aB [] w w' := by
 obtain ⟨a, c, rfl, h1, h2, h3⟩ := h.slice
 by_cases h4 : l.length < 4
 ·have hlt : (l.length : Int) < 4 := by omega
  rw [aF h4, aF h4]
  clear h
  go_in
  go_wp2_with fail
  go_ret2
  exact ⟨rfl, aB.refl _ _⟩
 have hlt : ¬ (l.length : Int) < 4 := by omega
 rw [aE h4, aE h4]
 obtain ⟨-, -, -, hcell⟩ := h.cell
 obtain ⟨b, off, rfl, hc⟩ := hcell (by omega)
 obtain ⟨y0, y1, y2, y3, g0, g1, g2, g3, q0, q1, q2, q3, hg⟩ := Fa l (by omega)
 have c0 := hc 0 (by omega)
 have c1 := hc 1 (by omega)
 have c2 := hc 2 (by omega)
 have c3 := hc 3 (by omega)
 rw [q0, kU] at c0
 rw [q1] at c1
 rw [q2] at c2
 rw [q3] at c3
 rw [hg]
 have HG := aA (Lt g0 g1 g2 g3)
 have l1 : (1 : Int) < (l.length : Int) := by omega
 have l2 : (2 : Int) < (l.length : Int) := by omega
 have l3 : (3 : Int) < (l.length : Int) := by omega
 have l0 : (0 : Int) < (l.length : Int) := by omega
 clear h hcell hc q0 q1 q2 q3 hg
 go_in
 go_wp2_with fail
 go_region
 go_wp2_with fail
 go_ret2
 exact ⟨by rw [HG.out]; rfl, (aB.refl _ _).drew⟩
theorem Lx {l : Bs} {i acc : Nat} (h : i = l.length) (hi : i < 10) : dA (10 - i) i acc (l.drop i) = (0, 0, 10) := by
 rw [h, DN, show 10 - l.length = (9 - l.length) + 1 by omega]; rfl
theorem Ly {l : Bs} {i acc : Nat} (h : i < l.length) (hi : i < 10) : dA (10 - i) i acc (l.drop i) =
  let acc' := (acc ||| (l[i].toNat % 128) <<< (7 * i)) % 2 ^ 64
  if 128 ≤ l[i].toNat then dA (10 - (i + 1)) (i + 1) acc' (l.drop (i + 1))
  else if (0 < i ∧ l[i].toNat = 0) ∨ (i = 9 ∧ 1 < l[i].toNat) then (0, 0, 11)
  else (acc', i + 1, 0) := by
 rw [pP h, show 10 - i = (10 - (i + 1)) + 1 by omega]
 rfl
theorem Lz {x y i : Nat} (hx : x < 18446744073709551616) (hy : y < 2 ^ 8) (_hi : i < 10) :
  bits .or .u64 (x : Int) (IntKind.u64.wrap (IntKind.u64.wrap (bits .and .u8 (y : Int) 127) * 2 ^ (7 * i))) = (((x ||| (y % 128) <<< (7 * i)) % 2 ^ 64 : Nat) : Int) := by
 have h1 : bits .and .u8 (y : Int) 127 = ((y % 128 : Nat) : Int) := by
  refine ((EV (b := 127) hy (by omega)).2.1).trans ?_
  rw [show (127 : Nat) = 2 ^ 7 - 1 from rfl, Nat.and_two_pow_sub_one_eq_mod]
 have h2 : IntKind.u64.wrap ((y % 128 : Nat) : Int) = ((y % 128 : Nat) : Int) := by rw [nU]; omega
 have h3 : ((y % 128 : Nat) : Int) * 2 ^ (7 * i) = (((y % 128) <<< (7 * i) : Nat) : Int) := by rw [mO]; simp
 have h4 : IntKind.u64.wrap (((y % 128) <<< (7 * i) : Nat) : Int) = ((((y % 128) <<< (7 * i)) % 2 ^ 64 : Nat) : Int) := by
  rw [nU]; omega
 rw [h1, h2, h3, h4]
 refine ((Le hx (mP _ (by decide))).1).trans ?_
 rw [Nat.or_mod_two_pow, tO (show x < 2 ^ 64 from hx)]
theorem pC (w : World) {v : Value} {l : Bs} (h : Rd w v l) : Calls Tryz.prog 130 #[v] w fun e w' => e = .returned (.tuple #[.int .u64 (cX l).1, .int .i64 (cX l).2.1, .int .i64 (cX l).2.2]) ∧ w' = w := by
 obtain ⟨a, c, rfl, h1, h2, h3⟩ := h.slice
 have HR := aA h
 clear h
 generalize hR : cX l = R
 have HE := aA hR.symm
 clear hR
 go_in
 go_wp2_with fail
 go_loopg [5, 8] 10 (fun k r v wr => ∃ i x : Nat, v = .int .i64 i ∧ r = .int .u64 x ∧ i ≤ 10 ∧ i ≤ l.length ∧ k = 10 - i ∧ x < 18446744073709551616 ∧ Hid (R = dA (10 - i) i x (l.drop i)) ∧ wr = w)
 case atStart => exact ⟨0, 0, rfl, rfl, by omega, by omega, rfl, by omega, HE, rfl⟩
 case round =>
  obtain ⟨i, x, rfl, rfl, hi, hil, rfl, hx, HX, rfl⟩ := hrel
  by_cases h10 : i < 10
  ·have hlt : (i : Int) < 10 := by omega
   by_cases hl : i = l.length
   ·have hX := HX.out
    rw [Lx hl h10] at hX
    subst hX
    have he : (i : Int) = (l.length : Int) := by omega
    clear HX
    go_wp2_with fail
    go_ret3
    exact ⟨rfl, rfl⟩
   have he : ¬ (i : Int) = (l.length : Int) := by omega
   have hlt2 : (i : Int) < (l.length : Int) := by omega
   have hX := HX.out
   rw [Ly (by omega) h10] at hX
   have HX2 := aA hX
   obtain ⟨-, -, -, hcell⟩ := HR.out.cell
   obtain ⟨b, off, rfl, hc⟩ := hcell (by omega)
   have hcb := hc i (by omega)
   clear hc hcell hX HX
   generalize l[i]'(by omega) = d at *
   have hd8 := d.toNat_lt
   generalize d.toNat = y at *
   have HS := aA (Lz (x := x) (y := y) (i := i) hx hd8 h10)
   go_wp2_with fail
   all_goals (try simp only [beq_iff_eq, beq_eq_false_iff_ne, ne_eq] at *)
   all_goals first
    | (go_ret3
       have hR : R = (0, 0, 11) := by rw [HX2.out, aE (by omega), aF (by omega)]
       rw [hR]
       exact ⟨rfl, rfl⟩)
    | (go_ret3
       have hR : R = ((x ||| (y % 128) <<< (7 * i)) % 2 ^ 64, i + 1, 0) := by rw [HX2.out, aE (by omega), aE (by omega)]
       rw [hR]
       refine ⟨?_, rfl⟩
       show Ending.returned (.tuple #[.int .u64 (bits .or .u64 (x : Int) (IntKind.u64.wrap (IntKind.u64.wrap (bits .and .u8 (y : Int) 127) * 2 ^ (7 * i)))), .int .i64 ((i : Int) + 1), .int .i64 0]) = _
       rw [HS.out]
       rfl)
    | (obtain rfl : i = 9 := by omega
       go_ret3
       have hR : R = ((x ||| (y % 128) <<< (7 * 9)) % 2 ^ 64, 9 + 1, 0) := by rw [HX2.out, aE (by omega), aE (by omega)]
       rw [hR]
       refine ⟨?_, rfl⟩
       show Ending.returned (.tuple #[.int .u64 (bits .or .u64 (x : Int) (IntKind.u64.wrap (IntKind.u64.wrap (bits .and .u8 (y : Int) 127) * 2 ^ (7 * 9)))), .int .i64 10, .int .i64 0]) = _
       rw [HS.out]
       rfl)
    | (have hR : R = dA (10 - (i + 1)) (i + 1) ((x ||| (y % 128) <<< (7 * i)) % 2 ^ 64) (l.drop (i + 1)) := by rw [HX2.out, aF (by omega)]
       go_roundg (10 - (i + 1))
       case rel => exact ⟨i + 1, (x ||| (y % 128) <<< (7 * i)) % 2 ^ 64, by go_num, by rw [HS.out], by omega, by omega, rfl, mP _ (by decide), aA hR, rfl⟩
       case measure => omega)
  have hlt : ¬ (i : Int) < 10 := by omega
  obtain rfl : i = 10 := by omega
  have hX := HX.out
  simp only [tR, dA] at hX
  subst hX
  go_wp2_with fail
  go_ret3
  exact ⟨rfl, rfl⟩
end Go.Proofs.YtgpefiacbipfpaaGreatDoor
