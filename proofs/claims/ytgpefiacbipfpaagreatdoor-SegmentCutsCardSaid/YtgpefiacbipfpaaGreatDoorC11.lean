/- Which blocks are free, in memory: Blocks, Commit, Reset. A new map of free blocks. The document's codec: Sum, Put32, PutUint. Segment, in plain words: what is read of many files; a frame is put behind them. -/
import Derived.Deep.DeepCutAuto
import Derived.Test.YtgpefiacbipfpaaGreatDoorC10
import Derived.Test.YtgpefiacbipfpaaGreatDoorC00
import Derived.Test.YtgpefiacbipfpaaGreatDoorC03
import Derived.Test.YtgpefiacbipfpaaGreatDoorC07
namespace Go.Proofs.YtgpefiacbipfpaaGreatDoor
open Go.RowKit Go.Maps
abbrev boxA (nv lv : Value) : Obj := .cells #[nv, lv] 151 (0, 0)
abbrev OwB (w : World) (base : Nat) (v : Value) (l : List Bool) : Prop := OwnG cB 4 1 w base v l
structure MapR (w : World) (base q : Nat) (nv lv : Value) (now last : List Bool) : Prop where
 box : w.heap[q]? = some (boxA nv lv)
 now : OwB w base nv now
 last : OwB w base lv last
 ne1 : ∀ g, nv.ownBlock = some g → g ≠ q
 ne2 : ∀ g, lv.ownBlock = some g → g ≠ q
 fit : base ≤ w.heap.size
 sep : ∀ g, nv.ownBlock = some g → lv.ownBlock ≠ some g
set_option maxRecDepth 100000 in
theorem ablocks_ok (w : World) {base q : Nat} {nv lv : Value} {now last : List Bool} (h : MapR w base q nv lv now last) : Calls Tryz.prog 133 #[.pointer (some ⟨q, 0, none⟩)] w fun e w' => e = .returned (.int .i64 now.length) ∧ w' = w := by
 have c0 := cell_blk h.box 0
 simp only [List.getElem?_toArray, List.getElem?_cons_zero] at c0
 obtain ⟨a, c, m, hm, rfl⟩ := h.now.sliceM
 rw [← hm]
 clear h hm
 go_enter Tryz.func133, Tryz.ntmps133
 go_wp2_with fail
 go_ret
 exact ⟨rfl, rfl⟩
theorem boxA_last {w : World} {q : Nat} {nv lv : Value} (h : w.heap[q]? = some (boxA nv lv)) (v : Value) : (w.setCell ⟨q, 1, none⟩ v).heap[q]? = some (boxA nv v) := by
 rw [heap_setCell, if_pos rfl, h]; rfl
theorem boxA_now {w : World} {q : Nat} {nv lv : Value} (h : w.heap[q]? = some (boxA nv lv)) (v : Value) : (w.setCell ⟨q, 0, none⟩ v).heap[q]? = some (boxA v lv) := by
 rw [heap_setCell, if_pos rfl, h]; rfl
set_option maxRecDepth 100000 in
set_option maxHeartbeats 2000000 in
theorem acommit_ok (w : World) {base q : Nat} {nv lv : Value} {now last : List Bool} (h : MapR w base q nv lv now last) (hl : now.length ≤ 1000000) :
  Calls Tryz.prog 52 #[.pointer (some ⟨q, 0, none⟩)] w fun e w' => e = .returned (.tuple #[]) ∧ ∃ lv', MapR w' base q nv lv' now now ∧ Upd [q] w w' ∧ ∀ g, lv'.ownBlock = some g → w.heap.size ≤ g := by
 have c0 := cell_blk h.box 0
 simp only [List.getElem?_toArray, List.getElem?_cons_zero] at c0
 have HM := Lib.hid h
 have hq := lt_of_blk h.box
 have HC := Lib.hid (cloneB_ok w (OwnG.rd TB h.now) (by omega))
 clear h
 go_enter Tryz.func52, Tryz.ntmps52
 go_wp2_with fail
 refine HC.out.mono ?_
 rintro e w1 ⟨v1, rfl, ho, hu⟩
 obtain ⟨a1, k1, m1, hm1, rfl⟩ := ho.sliceM
 have hb1 := (hu.block q hq (by simp)).trans HM.out.box
 have HB1 := Lib.hid hb1
 have d1 := cell_blk hb1 1
 have f1 := frozen_blk hb1 1
 simp only [List.getElem?_toArray, List.getElem?_cons_zero, List.getElem?_cons_succ] at d1
 have H1 := Lib.hid (And.intro ho hu)
 clear ho hu hb1 hm1 HC
 go_wp2_with fail
 go_end0
 have hU : Upd [q] w1 (w1.setCell ⟨q, 1, none⟩ (.slice a1 m1 k1)) := (Upd.refl _ _).setCell (by simp) _ _
 have hlow : ∀ g, (Value.slice a1 m1 k1).ownBlock = some g → w.heap.size ≤ g := fun g hg => (H1.out.1.block g hg).1
 refine ⟨rfl, _, ⟨boxA_last HB1.out _, (HM.out.now.upd H1.out.2 (by simp)).upd hU (fun j hj e => ?_), ?_, HM.out.ne1, fun g hg => by have := hlow g hg; omega, Nat.le_trans HM.out.fit (Nat.le_trans H1.out.2.size hU.size), fun g h1 h2 => by have := (HM.out.now.block g h1).2; have := hlow g h2; omega⟩, (H1.out.2.mono (by simp)).trans hU, hlow⟩
 ·exact HM.out.ne1 j e (List.mem_singleton.1 hj)
 ·have ho2 := H1.out.1.upd hU (fun j hj e => by have := hlow j e; simp at hj; omega)
  exact ho2.base HM.out.fit
end Go.Proofs.YtgpefiacbipfpaaGreatDoor

namespace Go.Proofs.YtgpefiacbipfpaaGreatDoor
open Go.RowKit Go.Maps
theorem flatB_rep (n : Nat) : flatG cB (List.replicate n false) = List.replicate n (.bool false) := by
 induction n with
 | zero => rfl
 | succ n ih => rw [List.replicate_succ, List.replicate_succ, ← ih]; rfl
theorem madeB (n : Nat) : madeCells #[.bool false] (n * 1) = (flatG cB (List.replicate n false)).toArray := by
 rw [flatB_rep]
 apply Array.ext
 ·rw [size_madeCells]; simp
 ·intro i h1 h2
  simp [madeCells, Nat.mod_one]
theorem run_make_B (w : World) (n : Nat) (hn : n ≤ 1000000) : (Instr.makeSlice 149 (.int .i64 n) (.int .i64 n)).run Tryz.prog w = .ok (.slice (some ⟨w.heap.size, 0, none⟩) n n) (w.alloc (.cells (flatG cB (List.replicate n false)).toArray 4)) := by
 obtain ⟨i, h0, h1, h2, h3⟩ := info_parts (show (Tryz.prog.info? 4).map (fun i => (i.zero, i.size, i.bytes)) = some (some (.bool false), 1, 1) by kernel_rfl)
 have hrun := run_make (P := Tryz.prog) w 149 4 i _ TB.und h0 h1 .i64 .i64 (n : Int) (n : Int) (by omega) (Int.le_refl _) (by rw [h3]; omega) (by omega)
 rw [h2, Int.toNat_natCast] at hrun
 have e : madeCells (Value.bool false).cells (n * 1) = (flatG cB (List.replicate n false)).toArray := madeB n
 rw [e] at hrun
 exact hrun
theorem heap_top' (w : World) (o : Obj) (B : Nat) (h : B = w.heap.size) : (w.alloc o).heap[B]? = some o := by rw [h]; exact heap_top _ _
theorem heap3a (w : World) (X Y Z : Obj) : (((w.alloc X).alloc Y).alloc Z).heap[w.heap.size]? = some X := by
 rw [heap_alloc, if_neg (by simp; omega), heap_alloc, if_neg (by simp), heap_alloc, if_pos rfl]
theorem heap3b (w : World) (X Y Z : Obj) : (((w.alloc X).alloc Y).alloc Z).heap[w.heap.size + 1]? = some Y := by
 rw [heap_alloc, if_neg (by simp), heap_alloc, if_pos (by simp)]
theorem OwB.made {W : World} {base B n : Nat} (h : W.heap[B]? = some (.cells (flatG cB (List.replicate n false)).toArray 4 (0, 0))) (hb : base ≤ B) (hn : n ≤ 1000000) : OwB W base (.slice (some ⟨B, 0, none⟩) n n) (List.replicate n false) := by
 have e : (List.replicate n false).length = n := List.length_replicate ..
 refine ⟨by rw [flatG_len TB], .inr ⟨B, n, _, by rw [e], hb, h, by rw [e]; exact Nat.le_refl _, by unfold maxLen; omega, by rw [List.size_toArray, flatG_len TB, e], ?_⟩⟩
 exact List.take_of_length_le (by rw [flatG_len TB]; exact Nat.le_refl _)
set_option maxRecDepth 100000 in
set_option maxHeartbeats 2000000 in
theorem anew_ok (w : World) (n : Nat) (hn : n ≤ 512) : Calls Tryz.prog 82 #[.int .i64 n] w fun e w' => ∃ nv lv, e = .returned (.pointer (some ⟨w.heap.size + 1 + 1, 0, none⟩)) ∧ Upd [] w w' ∧ MapR w' w.heap.size (w.heap.size + 1 + 1) nv lv (List.replicate n false) (List.replicate n false) := by
 have hmk := fun W : World => run_make_B W n (by omega)
 go_enter Tryz.func82, Tryz.ntmps82
 go_wp2_with fail
 go_region
 all_goals
  go_wp2_with fail
  go_ret
  refine ⟨_, _, rfl, ?_, ⟨heap_top' _ _ _ (by simp), OwB.made ?_ ?_ (by omega), OwB.made ?_ ?_ (by omega), ?_, ?_, by simp; omega, ?_⟩⟩
 all_goals first
  | exact ((((Upd.refl [] w).alloc _).alloc _).alloc _).drew
  | (rw [heap_drew]; exact heap3a _ _ _ _)
  | (rw [heap_drew]; exact heap3b _ _ _ _)
  | exact Nat.le_refl _
  | exact Nat.le_succ _
  | (intro g hg; simp only [Value.ownBlock, Option.some.injEq] at hg; omega)
  | (intro g h1 h2; simp only [Value.ownBlock, Option.some.injEq] at h1 h2; omega)
end Go.Proofs.YtgpefiacbipfpaaGreatDoor

namespace Go.Proofs.YtgpefiacbipfpaaGreatDoor
open Go.RowKit
set_option maxRecDepth 100000 in
set_option maxHeartbeats 2000000 in
theorem rsum_ok (w : World) {v : Value} {l : Bs} (h : Rd w v l) : Calls Tryz.prog 36 #[v] w fun e w' => e = .returned (.int .u32 (sumB l)) ∧ w' = w := by
 obtain ⟨a, c, rfl, h1, h2, h3⟩ := h.slice
 obtain ⟨n, hn⟩ : ∃ n, n = l.length := ⟨_, rfl⟩
 have HR := Lib.hid h
 have HN := Lib.hid hn
 rw [← hn] at h1 h3 HR ⊢
 clear h hn
 go_enter Tryz.func36, Tryz.ntmps36
 go_wp2_with fail
 go_loopg [3, 4, 5, 6] (n + 1) (fun gh s3 s4 s5 s6 wr => wr = w ∧ ∃ i x : Nat, s4 = .int .i64 i ∧ s3 = .int .u32 x ∧ i ≤ n ∧ gh = n + 1 - i ∧ x < 4294967296 ∧ Hid (x = (l.take i).foldl crcByte 0xffffffff))
 case atStart => exact ⟨rfl, 0, 4294967295, rfl, rfl, by omega, rfl, by omega, Lib.hid rfl⟩
 case round =>
  obtain ⟨rfl, i, x, rfl, rfl, hi, rfl, hx, HX⟩ := hrel
  by_cases hin : i < n
  ·have hin' : (i : Int) < (n : Int) := by omega
   have hil : i < l.length := by rw [← HN.out]; exact hin
   obtain ⟨-, -, -, hcell⟩ := HR.out.cell
   obtain ⟨b, off, rfl, hc⟩ := hcell (by omega)
   have hcb := hc i hil
   obtain ⟨d, hd⟩ : ∃ d : Nat, d = l[i].toNat := ⟨_, rfl⟩
   have hd8 : d < 256 := by rw [hd]; exact l[i].toNat_lt
   rw [← hd] at hcb
   obtain ⟨x0, hx0⟩ : ∃ y : Nat, y = x ^^^ d := ⟨_, rfl⟩
   have hx0l : x0 < 4294967296 := by rw [hx0]; exact Nat.xor_lt_two_pow (n := 32) hx (by omega)
   have e0 : bits .xor .u32 (x : Int) (d : Int) = (x0 : Int) := by rw [hx0]; exact (bits32 hx (by omega)).2.2
   have HS : Hid ((l.take (i + 1)).foldl crcByte 0xffffffff = stepsN 8 x0) := Lib.hid (by rw [fold_take_succ l i hil, ← HX.out, crcByte_eight, ← hd, ← hx0])
   clear hc hcell hd hx0
   go_wp2_with fail
   go_loopg [3, 5, 6] 9 (fun gh s3 s5 s6 wq => wq = wr ∧ ∃ k y : Nat, s5 = .int .i64 k ∧ s3 = .int .u32 y ∧ k ≤ 8 ∧ gh = 9 - k ∧ y < 4294967296 ∧ Hid (y = stepsN k x0))
   case atStart => exact ⟨rfl, 0, x0, rfl, rfl, by omega, rfl, hx0l, Lib.hid rfl⟩
   case round =>
    obtain ⟨rfl, k, y, rfl, rfl, hk, rfl, hy, HY⟩ := hrel
    by_cases hk8 : k < 8
    ·have hk8' : (k : Int) < 8 := by omega
     obtain ⟨z, hz⟩ : ∃ z, z = crcStep y := ⟨_, rfl⟩
     have hzl : z < 4294967296 := by rw [hz]; exact crcStep_lt hy
     have HZ : Hid (z = stepsN (k + 1) x0) := Lib.hid (by rw [hz, HY.out]; rfl)
     have hbit := crcStep_bit hy
     rw [← hz] at hbit
     obtain ⟨hf, hhf⟩ : ∃ hf, hf = y / 2 := ⟨_, rfl⟩
     rw [← hhf] at hbit
     have hf1 : hf < 4294967296 := by omega
     have q1 : (y : Int) / 2 = (hf : Int) := by omega
     clear hz
     by_cases ho : y % 2 = 1
     ·have q2 : (y : Int) % 2 = 1 := by omega
      rw [if_pos ho] at hbit
      have e1 : bits .xor .u32 (hf : Int) 2197175160 = (z : Int) := by rw [hbit]; exact (bits32 hf1 (b := 2197175160) (by omega)).2.2
      clear hbit hhf ho
      go_wp2_with fail
      go_roundg (9 - (k + 1))
      case measure => omega
      case rel => exact ⟨rfl, k + 1, z, by go_num, rfl, by omega, rfl, hzl, HZ⟩
     ·have q2 : ¬ (y : Int) % 2 = 1 := by omega
      rw [if_neg ho] at hbit
      have q3 : (hf : Int) = (z : Int) := by omega
      clear hbit hhf ho
      go_wp2_with fail
      go_roundg (9 - (k + 1))
      case measure => omega
      case rel => exact ⟨rfl, k + 1, z, by go_num, by first | rfl | rw [q3], by omega, rfl, hzl, HZ⟩
    ·obtain rfl : k = 8 := by omega
     have HX2 : Hid (y = (l.take (i + 1)).foldl crcByte 0xffffffff) := Lib.hid (by rw [HS.out, HY.out])
     go_wp2_with fail
     go_roundg (n + 1 - (i + 1))
     case measure => omega
     case rel => exact ⟨rfl, i + 1, y, by go_num, rfl, by omega, rfl, hy, HX2⟩
  ·obtain rfl : i = n := by omega
   have hin' : ¬ (i : Int) < (i : Int) := Int.lt_irrefl _
   have e : bits .xor .u32 (x : Int) 4294967295 = ((x ^^^ 4294967295 : Nat) : Int) := (bits32 (b := 4294967295) hx (by omega)).2.2
   have HE : Hid (x ^^^ 4294967295 = sumB l) := Lib.hid (by
    have h := HX.out
    rw [HN.out, List.take_length] at h
    rw [h, Nat.xor_comm]; rfl)
   go_wp2_with fail
   go_ret
   exact ⟨by rw [HE.out]; rfl, rfl⟩
def digs : Nat → Nat → Bs
 | 0, _ => []
 | k + 1, m => UInt8.ofNat (m % 256) :: digs k (m / 256)
theorem put32_digs (n : Nat) : put32 n = digs 4 n := put32_digits n
set_option maxRecDepth 100000 in
set_option maxHeartbeats 2000000 in
theorem rput32_ok (w : World) (n : Nat) (hn : n < 4294967296) : Calls Tryz.prog 35 #[.int .u32 n] w fun e w' => ∃ v', e = .returned v' ∧ Ow w' w.heap.size v' (put32 n) ∧ Upd [] w w' := by
 have HD := Lib.hid (put32_digs n)
 go_enter Tryz.func35, Tryz.ntmps35
 go_wp2_with fail
 go_loopg [0, 3, 4] 5 (fun gh s0 s3 s4 wr => ∃ (i m : Nat) (P : Bs), s4 = .int .i64 i ∧ s0 = .int .u32 m ∧ i ≤ 4 ∧ gh = 5 - i ∧ m < 4294967296 ∧ P.length ≤ i ∧ Hid (Ow wr w.heap.size s3 P ∧ Upd [] w wr ∧ P ++ digs (4 - i) m = put32 n))
 case atStart => exact ⟨0, n, [], rfl, rfl, by omega, rfl, hn, Nat.le_refl _, Lib.hid ⟨OwnG.nil _ _, Upd.refl _ _, by rw [HD.out]; rfl⟩⟩
 case round =>
  obtain ⟨i, m, P, rfl, rfl, hi, rfl, hm, hP, HS⟩ := hrel
  obtain ⟨a3, c3, m3, hm3, rfl⟩ := HS.out.1.sliceM
  clear hm3
  by_cases hi4 : i < 4
  ·have hi4' : (i : Int) < 4 := by omega
   obtain ⟨d, hd⟩ : ∃ d, d = m % 256 := ⟨_, rfl⟩
   obtain ⟨q, hq⟩ : ∃ q, q = m / 256 := ⟨_, rfl⟩
   have q1 : (m : Int) % 256 = (d : Int) := by omega
   have q2 : (m : Int) / 256 = (q : Int) := by omega
   have hd8 : d < 256 := by omega
   have hq8 : q < 4294967296 := by omega
   have hdt : (UInt8.ofNat d).toNat = d := by rw [UInt8.toNat_ofNat']; omega
   have HN : Hid ((P ++ [UInt8.ofNat d]) ++ digs (4 - (i + 1)) q = put32 n) := Lib.hid (by
    have h := HS.out.2.2
    rw [show 4 - i = (4 - (i + 1)) + 1 by omega] at h
    rw [← h, hd, hq, List.append_assoc]; rfl)
   have HB := Lib.hid hdt
   clear hd hq hdt
   go_wp2_with (first
    | (at_builtin; refine wpList_append_G T8 rfl _ _ rfl (base := w.heap.size) (l := P) (r := [UInt8.ofNat d]) (by rfl) (HS.out.1.upd ((Upd.refl [] wr).alloc _) (by simp)) (by rfl) (src_new T8 (ty := 5) (B := wr.heap.size) (by rw [show flatG c8 [UInt8.ofNat d] = [.int .u8 d] by simp [flatG, c8, HB.out]]; exact heap_top' _ _ _ rfl)) (one8 _) ?c1 ?c2 ?c3 ?_)
    | fail)
   case c1 => simp; omega
   case c2 => simp; omega
   case c3 => have := HS.out.2.1.size; simp; omega
   intro v4 w4 ho4 hg4 hn4
   have hu4 : Upd [] w w4 := (HS.out.2.1.alloc _).grown hg4 (fun g hg => (HS.out.1.block g hg).1)
   have H4 := Lib.hid (And.intro ho4 (And.intro hu4 HN.out))
   obtain ⟨a4, c4, m4, hm4, rfl⟩ := ho4.sliceM
   clear ho4 hu4 hg4 hn4 hm4 HN
   go_wp2_with fail
   go_roundg (5 - (i + 1))
   case measure => omega
   case rel => exact ⟨i + 1, q, _, by go_num, by go_num, by omega, rfl, hq8, by simp; omega, H4⟩
  ·obtain rfl : i = 4 := by omega
   go_wp2_with fail
   go_ret
   refine ⟨_, rfl, ?_, HS.out.2.1⟩
   have h := HS.out.2.2
   rw [Nat.sub_self, digs, List.append_nil] at h
   rw [← h]; exact HS.out.1
end Go.Proofs.YtgpefiacbipfpaaGreatDoor

namespace Go.Proofs.YtgpefiacbipfpaaGreatDoor
def openD : List Bs → List Bs × Bool × List Frm
 | [] => ([], false, [])
 | b :: r => if (scanB b).2 = b.length then (b :: (openD r).1, (openD r).2.1, (scanB b).1 ++ (openD r).2.2) else ([b.take (scanB b).2], true, (scanB b).1)
def Whole (ds : List Bs) (l : List Frm) : Prop := openD ds = (ds, false, l)
theorem openD_whole {b : Bs} {r : List Bs} (h : (scanB b).2 = b.length) : openD (b :: r) = (b :: (openD r).1, (openD r).2.1, (scanB b).1 ++ (openD r).2.2) := by rw [openD, if_pos h]
theorem openD_torn {b : Bs} {r : List Bs} (h : (scanB b).2 ≠ b.length) : openD (b :: r) = ([b.take (scanB b).2], true, (scanB b).1) := by rw [openD, if_neg h]
def addD (ds : List Bs) (b : Bs) : List Bs := match ds.getLast? with | none => [b] | some x => if 8192 < x.length + b.length then ds ++ [b] else ds.dropLast ++ [x ++ b]
theorem addD_nil (b : Bs) : addD [] b = [b] := rfl
theorem addD_snoc (ds : List Bs) (x b : Bs) : addD (ds ++ [x]) b = if 8192 < x.length + b.length then ds ++ [x] ++ [b] else ds ++ [x ++ b] := by
 unfold addD
 rw [List.getLast?_concat, List.dropLast_concat]
theorem snoc_or {α : Type} (l : List α) : l = [] ∨ ∃ a x, l = a ++ [x] := by
 rcases List.eq_nil_or_concat l with h | ⟨a, x, h⟩
 ·exact .inl h
 ·exact .inr ⟨a, x, by rw [h, List.concat_eq_append]⟩
def addsD (ds : List Bs) (l : List Frm) : List Bs := l.foldl (fun ds x => addD ds (putFrame x.1 x.2)) ds
theorem addsD_app (ds : List Bs) (a b : List Frm) : addsD ds (a ++ b) = addsD (addsD ds a) b := by unfold addsD; rw [List.foldl_append]
theorem addD_le {ds : List Bs} (h : ∀ d ∈ ds, d.length ≤ 8192) {b : Bs} (hb : b.length ≤ 8192) : ∀ d ∈ addD ds b, d.length ≤ 8192 := by
 intro d hd
 rcases snoc_or ds with rfl | ⟨a, y, rfl⟩
 ·rw [addD_nil] at hd; rw [List.mem_singleton.1 hd]; exact hb
 ·rw [addD_snoc] at hd
  split at hd
  ·rcases List.mem_append.1 hd with q | q
   ·exact h d q
   ·rw [List.mem_singleton.1 q]; exact hb
  ·rcases List.mem_append.1 hd with q | q
   ·exact h d (by simp [q])
   ·rw [List.mem_singleton.1 q, List.length_append]; omega
theorem addsD_le {l : List Frm} (hl : ∀ x ∈ l, x.2.length ≤ 2000) : ∀ {ds : List Bs}, (∀ d ∈ ds, d.length ≤ 8192) → ∀ d ∈ addsD ds l, d.length ≤ 8192 := by
 induction l with
 | nil => intro ds h; exact h
 | cons x l ih =>
  intro ds h
  have := putFrame_le (k := x.1) (hl x (by simp))
  have hx := hl x (by simp)
  exact ih (fun y hy => hl y (List.mem_cons_of_mem _ hy)) (addD_le h (by omega))
end Go.Proofs.YtgpefiacbipfpaaGreatDoor
