/- The codec's walks: Frame, joined. The device in memory; New, Blocks, operate, Fuse, Down. Sorted lists as maps read: whatever their elements. The device's Read. -/
import Derived.Maps.OwnSet
import Derived.OwnWalk
import Derived.Maps.RangeWalk
import Derived.Maps.Ext
import Derived.Deep.MidRow
import Derived.Deep.WholeRow
import Derived.Test.YtgpefiacbipfpaaGreatDoorC04
namespace Go.Proofs.YtgpefiacbipfpaaGreatDoor
open Go.RowKit
theorem getU_le : ∀ (k i acc : Nat) (b : Bs), (getU k i acc b).2.1 ≤ i + k := by
 intro k
 induction k with
 | zero => intro i acc b; simp [getU]
 | succ k ih =>
  intro i acc b
  cases b with
  | nil => simp [getU]
  | cons c r =>
   simp only [getU]
   split
   ·have := ih (i + 1) ((acc ||| (c.toNat % 128) <<< (7 * i)) % 2 ^ 64) r; omega
   ·split
    ·simp
    ·simp
theorem elem8 : Tryz.prog.underlying 23 = some (.slice (Tryz.prog.elem 23)) := by kernel_rfl
theorem size8 (w : World) : (sizeOf (Tryz.prog.elem 23)).run Tryz.prog w = .ok 1 w := by kernel_rfl
theorem frame_ok (w : World) {v : Value} {l : Bs} (h : Rd w v l) (h5 : l.length ≠ 5) : Calls Tryz.prog 115 #[v] w fun e w' => FrameV w.heap.size w' e (getFrame l) ∧ Upd [] w w' := by
 by_cases hl : l.length < 5
 ·have hR : getFrame l = (0, [], 0, 10) := by unfold getFrame; rw [if_pos hl]
  rw [hR]
  exact frame_short w h hl
 ·obtain ⟨a, c, rfl, h1, h2, h3⟩ := h.slice
  obtain ⟨-, -, -, hcell⟩ := h.cell
  obtain ⟨b, off, rfl, hc⟩ := hcell (by omega)
  have hb := getU_bounds 10 0 0 (l.drop 5) (by decide)
  have hle := getU_le 10 0 0 (l.drop 5)
  have hU := fun V (u : Upd [] w V) => uint_at5 w h (by omega) V u
  unfold getFrame
  rw [if_neg hl]
  have hlen : (l.drop 5).length = l.length - 5 := List.length_drop
  unfold getUint at hU ⊢
  generalize getU 10 0 0 (l.drop 5) = g at *
  obtain ⟨u, k, e⟩ := g
  dsimp only at hb hle hU ⊢
  obtain ⟨hb1, hb2, hb3, hb4⟩ := hb
  by_cases he : e = 0
  ·subst he
   obtain ⟨hk0, hk1⟩ := hb2 rfl
   rw [if_neg (by simp)]
   by_cases hu : 2000 < u
   ·rw [if_pos hu]
    exact frame_walk1 w (by omega) h1 h2 hb1 (by omega) (by omega) hU 12 (.inr (.inl ⟨rfl, hu, rfl⟩))
   ·rw [if_neg hu]
    by_cases hs : l.length - 5 - k < u
    ·rw [if_pos hs]
     exact frame_walk1 w (by omega) h1 h2 hb1 (by omega) (by omega) hU 10 (.inr (.inr ⟨rfl, by omega, by omega, rfl⟩))
    ·rw [if_neg hs]
     have hpart : ∀ V, Upd [] w V → Rd V (.slice (some ⟨b, off + 4, none⟩) (5 + k + u - 4) (c - 4)) ((l.take (5 + k + u)).drop 4) := fun V hV => by
      have := (h.part 4 (5 + k + u - 4) (by omega) (c - 4) (by omega) (by omega)).keep hV
      rwa [List.drop_take]
     have h3' : ∀ V, Upd [] w V → Calls Tryz.prog 153 #[.slice (some ⟨b, off, none⟩) l.length c] V fun r w' => r = .returned (.tuple #[.int .u32 (get32 l), .int .i64 0]) ∧ Upd [] V w' := fun V hV => by
      have := u32_ok V (h.keep hV)
      rwa [if_neg (by omega), if_neg (by omega)] at this
     have hS : ∀ V, Upd [] w V → Calls Tryz.prog 120 #[.slice (some ⟨b, off + 4, none⟩) (5 + k + u - 4) (c - 4)] V fun r w' => r = .returned (.int .u32 (sumB ((l.take (5 + k + u)).drop 4))) ∧ Upd [] V w' := fun V hV => sum_ok V (hpart V hV)
     have hg32 : get32 l < 4294967296 := by
      obtain ⟨y0, y1, y2, y3, g0, g1, g2, g3, -, -, -, -, hg⟩ := four l (by omega)
      rw [hg]
      have b1 : y1 <<< 8 < 2 ^ 32 := by rw [Nat.shiftLeft_eq]; omega
      have b2 : y2 <<< 16 < 2 ^ 32 := by rw [Nat.shiftLeft_eq]; omega
      have b3 : y3 <<< 24 < 2 ^ 32 := by rw [Nat.shiftLeft_eq]; omega
      exact Nat.or_lt_two_pow (n := 32) (Nat.or_lt_two_pow (Nat.or_lt_two_pow (by omega) b1) b2) b3
     by_cases hq : get32 l = sumB ((l.take (5 + k + u)).drop 4)
     ·rw [if_neg (by simpa using hq)]
      have h4 := hc 4 (by omega)
      have e4 : l.getD 4 0 = l[4] := by rw [List.getD_eq_getElem?_getD, List.getElem?_eq_getElem (by omega)]; rfl
      rw [e4]
      rw [← hq] at hS
      have hd : (l.take (5 + k + u)).drop (5 + k) = (l.drop (5 + k)).take u := by rw [List.drop_take]; congr 1; omega
      rw [hd]
      by_cases hce : c = 5 + k
      ·refine frame_walk3 w h1 h2 (by omega) (by omega) (by omega) (by omega) hg32 h4 hU h3' hS ⟨b, off, none⟩ (fun W => ?_) (fun V hV => ?_)
       ·rw [run_slice_lh (w := W) 23 (some ⟨b, off, none⟩) l.length c elem8 .i64 .i64 _ _ (by omega) (by omega) (by omega), size8]
        simp only [Result.andThen, sliced]
        have e1 : (5 + (k : Int)).toNat = 5 + k := by omega
        have e2 : (5 + (k : Int) + (u : Int)).toNat = 5 + k + u := by omega
        rw [e1, e2, if_pos (by omega), show 5 + k + u - (5 + k) = u by omega]
       ·have hu0 : u = 0 := by omega
        subst hu0
        have hz : (l.drop (5 + k)).take 0 = [] := rfl
        rw [hz]
        have hr : RdG c8 1 V (.slice (some ⟨b, off, none⟩) 0 0) [] := ⟨⟨some ⟨b, off, none⟩, 0, rfl, Nat.le_refl _, by unfold maxLen; omega, fun i hi => absurd hi (by simp)⟩, fun n c e => by cases e⟩
        exact clone8_ok V hr (by simp)
      ·refine frame_walk3 w h1 h2 (by omega) (by omega) (by omega) (by omega) hg32 h4 hU h3' hS ⟨b, off + (5 + k), none⟩ (fun W => ?_) (fun V hV => ?_)
       ·rw [run_slice_lh (w := W) 23 (some ⟨b, off, none⟩) l.length c elem8 .i64 .i64 _ _ (by omega) (by omega) (by omega), size8]
        simp only [Result.andThen, sliced]
        have e1 : (5 + (k : Int)).toNat = 5 + k := by omega
        have e2 : (5 + (k : Int) + (u : Int)).toNat = 5 + k + u := by omega
        rw [e1, e2, if_neg (by omega), show 5 + k + u - (5 + k) = u by omega]
        simp only [Option.map, add_plainG, Nat.mul_one]
       ·have hr := ((h.part (5 + k) u (by omega) u (Nat.le_refl _) (by omega)).keep hV).g
        have hlu : ((l.drop (5 + k)).take u).length = u := by rw [List.length_take, List.length_drop]; omega
        exact clone8_ok V hr (by omega)
     ·rw [if_pos (by simpa using hq)]
      exact frame_walk2 w h1 h2 (by omega) (by omega) (by omega) (by omega) hg32 (sumB_lt _) hq hU h3' hS
  ·rw [if_pos he]
   exact frame_walk1 w (by omega) h1 h2 hb1 (by omega) (by omega) hU e (.inl ⟨he, rfl⟩)
end Go.Proofs.YtgpefiacbipfpaaGreatDoor

namespace Go.Proofs.YtgpefiacbipfpaaGreatDoor
open Go.RowKit Go.Maps
def b512 (b : Bs) : Bs := (b ++ List.replicate 512 0).take 512
theorem b512_len (b : Bs) : (b512 b).length = 512 := by rw [b512, List.length_take, List.length_append, List.length_replicate]; omega
theorem b512_of {b : Bs} (h : b.length = 512) : b512 b = b := by unfold b512; rw [← h, List.take_left']; rfl
def cK (b : Bs) : List Value := (b512 b).map fun x => .int .u8 x.toNat
theorem cK_len (b : Bs) : (cK b).length = 512 := by rw [cK, List.length_map, b512_len]
theorem cK_of {b : Bs} (h : b.length = 512) : cK b = b.map fun x => .int .u8 x.toNat := by rw [cK, b512_of h]
theorem oneK (l : List Bs) : ∀ x ∈ l, ∀ u ∈ cK x, u.oneCell' = true := by
 intro x _ u hu
 obtain ⟨y, -, rfl⟩ := List.mem_map.1 hu
 rfl
theorem infoK : (Tryz.prog.info? 121).map (fun i => (i.zero, i.size, i.bytes)) = some (some (.agg (Array.replicate 512 (.int .u8 0))), 512, 512) := by kernel_rfl
theorem cK_zero : cK zeroB = List.replicate 512 (.int .u8 0) := by
 rw [cK_of zeroB_len, zeroB, List.map_replicate]; rfl
theorem TK : RowT cK 512 512 116 121 where
 len := cK_len
 pos := by omega
 und := Tryz.underlying116
 info := by
  obtain ⟨i, h, h1, h2, h3⟩ := info_parts infoK
  exact ⟨i, _, h, h1, h2, h3, by show (Array.replicate 512 _).size = 512; rw [Array.size_replicate]⟩
def opq (v : Value) : Option (DataW Value × List MemPlace) := some (.held v, [])
def dataI (L : List (Nat × Value)) : DataW Value := .map (L.map fun p => (.int .i64 p.1, .held p.2))
def ltI (a b : Nat) : Bool := decide (a < b)
theorem ordI : Ord ltI := ⟨fun a => by simp [ltI], fun a b c h g => by simp [ltI] at *; omega, fun a b => by simp only [ltI, decide_eq_true_eq]; omega⟩
theorem lawI : Keyed Tryz.prog 3 := int_keyed Tryz.underlying3
abbrev boxD (sb n mb : Nat) (fuse : Int) (down : Bool) (ops : Int) : Obj := .cells #[.slice (some ⟨sb, 0, none⟩) n n, .map (some mb), .int .i64 fuse, .bool down, .int .i64 ops] 119 (0, 0)
def safeL (D : Dev) : List Bs := (List.range D.n).map fun i => (D.blk i).safe
abbrev blkOfV (v : Value) : Nat := v.ownBlock.getD 0
abbrev footD (p sb mb : Nat) (L : List (Nat × Value)) : List Nat := p :: sb :: mb :: L.map fun x => blkOfV x.2
structure DevR (w : World) (p : Nat) (D : Dev) (sb mb : Nat) (L : List (Nat × Value)) (ops : Int) : Prop where
 box : w.heap[p]? = some (boxD sb D.n mb D.fuse D.down ops)
 safe : w.heap[sb]? = some (.cells (flatG cK (safeL D)).toArray 121 (0, 0))
 map : w.ownsMap (H := Value) Tryz.prog 3 opq mb L.length (dataI L)
 srt : Srt ltI L
 row : ∀ x ∈ L, OwnG cK 121 512 w 0 x.2 (D.blk x.1).pend ∧ (D.blk x.1).pend ≠ [] ∧ x.1 < D.n
 rest : ∀ i, getA L i = none → (D.blk i).pend = []
 nodup : (footD p sb mb L).Nodup
 n1 : 64 ≤ D.n
 n2 : D.n ≤ 512
 f1 : -1 ≤ D.fuse
 f2 : D.fuse ≤ 9223372036854775807
 sized : Sized D.blk
 cnt : ∀ i, (D.blk i).pend.length ≤ D.wr
def DevAt (w : World) (p : Nat) (D : Dev) (F : List Nat) : Prop := ∃ sb mb L ops, DevR w p D sb mb L ops ∧ F = footD p sb mb L
structure Ticked (w w' : World) (p sb n mb : Nat) (D : Dev) (e : Nat) (fuse : Int) (down : Bool) (ops : Int) : Prop where
 box : w'.heap[p]? = some (boxD sb n mb fuse down ops)
 upd : Upd [p] w w'
 f1 : -1 ≤ fuse
 f2 : fuse ≤ 9223372036854775807
 out : (e = 0 ∧ D.down = false ∧ down = false ∧ (D.fuse < 0 → fuse < 0)) ∨ (e = 2 ∧ (D.down = false → 0 ≤ D.fuse) ∧ down = true)
theorem box_put {W : World} {p sb n mb : Nat} {fuse ops : Int} {down : Bool} (h : W.heap[p]? = some (boxD sb n mb fuse down ops)) :
  (∀ b, (W.setCell ⟨p, 3, none⟩ (.bool b)).heap[p]? = some (boxD sb n mb fuse b ops)) ∧ (∀ f, (W.setCell ⟨p, 2, none⟩ (.int .i64 f)).heap[p]? = some (boxD sb n mb f down ops)) ∧ (∀ o, (W.setCell ⟨p, 4, none⟩ (.int .i64 o)).heap[p]? = some (boxD sb n mb fuse down o)) := by
 refine ⟨fun b => ?_, fun f => ?_, fun o => ?_⟩ <;> (rw [heap_setCell, if_pos rfl, h]; rfl)
def OperPost (w : World) (p sb mb : Nat) (D : Dev) (r : Ending) (w' : World) : Prop := ∃ (e : Nat) (fuse : Int) (down : Bool) (ops' : Int), r = .returned (.int .i64 e) ∧ Ticked w w' p sb D.n mb D e fuse down ops'
set_option maxRecDepth 100000 in
set_option maxHeartbeats 2000000 in
theorem operate_ok (w : World) {p : Nat} {D : Dev} {sb mb : Nat} {L : List (Nat × Value)} {ops : Int} (h : DevR w p D sb mb L ops) (n : Nat) (hn : n < D.n) :
  Calls Tryz.prog 149 #[.pointer (some ⟨p, 0, none⟩), .int .i64 n, .int .i64 0] w (OperPost w p sb mb D) := by
 have c0 := cell_blk h.box 0
 have c2 := cell_blk h.box 2
 have c3 := cell_blk h.box 3
 have c4 := cell_blk h.box 4
 have fz2 := frozen_blk h.box 2
 have fz3 := frozen_blk h.box 3
 have fz4 := frozen_blk h.box 4
 simp only [List.getElem?_toArray, List.getElem?_cons_succ, List.getElem?_cons_zero] at c0 c2 c3 c4
 have HB := Lib.hid h.box
 have hf1 := h.f1
 have hf2 := h.f2
 have hn2 := h.n2
 obtain ⟨N, blk, F, dn, wr⟩ := D
 dsimp only at *
 have l1 : ¬ (n : Int) < 0 := by omega
 have l2 : ¬ (N : Int) ≤ (n : Int) := by omega
 clear h
 cases dn with
 | true =>
  go_enter Tryz.func149, Tryz.ntmps149
  go_wp2_with fail
  go_ret
  exact ⟨2, F, true, ops, rfl, HB.out, Upd.refl _ _, hf1, hf2, .inr ⟨rfl, by simp, rfl⟩⟩
 | false =>
  by_cases h0 : F = 0
  ·subst h0
   go_enter Tryz.func149, Tryz.ntmps149
   go_wp2_with fail
   go_ret
   exact ⟨2, 0, true, ops, rfl, (box_put HB.out).1 _, (Upd.refl _ _).setCell (by simp) _ _, hf1, hf2, .inr ⟨rfl, by simp, rfl⟩⟩
  ·by_cases h1 : 0 < F
   ·go_enter Tryz.func149, Tryz.ntmps149
    go_wp2_with fail
    go_ret
    exact ⟨0, F - 1, false, _, rfl, (box_put ((box_put HB.out).2.1 (F - 1))).2.2 _, ((Upd.refl _ _).setCell (by simp) _ _).setCell (by simp) _ _, by omega, by omega, .inl ⟨rfl, rfl, rfl, fun q => by dsimp only at q; omega⟩⟩
   ·go_enter Tryz.func149, Tryz.ntmps149
    go_wp2_with fail
    go_ret
    exact ⟨0, F, false, _, rfl, (box_put HB.out).2.2 _, (Upd.refl _ _).setCell (by simp) _ _, hf1, hf2, .inl ⟨rfl, rfl, rfl, id⟩⟩
set_option maxRecDepth 100000 in
theorem blocks_ok (w : World) {p : Nat} {D : Dev} {F : List Nat} (h : DevAt w p D F) : Calls Tryz.prog 125 #[.pointer (some ⟨p, 0, none⟩)] w fun r w' => r = .returned (.int .i64 D.n) ∧ w' = w := by
 obtain ⟨sb, mb, L, ops, h, -⟩ := h
 have c0 := cell_blk h.box 0
 simp only [List.getElem?_toArray, List.getElem?_cons_zero] at c0
 have hn2 := h.n2
 generalize D.n = N at *
 clear h
 go_enter Tryz.func125, Tryz.ntmps125
 go_wp2_with fail
 go_ret
 exact ⟨rfl, rfl⟩
set_option maxRecDepth 100000 in
theorem down_ok (w : World) {p : Nat} {D : Dev} {F : List Nat} (h : DevAt w p D F) : Calls Tryz.prog 147 #[.pointer (some ⟨p, 0, none⟩)] w fun r w' => r = .returned (.bool D.down) ∧ w' = w := by
 obtain ⟨sb, mb, L, ops, h, -⟩ := h
 have c3 := cell_blk h.box 3
 simp only [List.getElem?_toArray, List.getElem?_cons_zero, List.getElem?_cons_succ] at c3
 generalize D.down = b at *
 clear h
 go_enter Tryz.func147, Tryz.ntmps147
 go_wp2_with fail
 go_ret
 exact ⟨rfl, rfl⟩
theorem DevR.boxed {w w' : World} {p : Nat} {D : Dev} {sb mb : Nat} {L : List (Nat × Value)} {ops : Int} (h : DevR w p D sb mb L ops) {fuse : Int} {down : Bool} {ops' : Int}
  (hb : w'.heap[p]? = some (boxD sb D.n mb fuse down ops')) (hu : Upd [p] w w') (f1 : -1 ≤ fuse) (f2 : fuse ≤ 9223372036854775807) : DevR w' p { D with fuse := fuse, down := down } sb mb L ops' := by
 have hnd := h.nodup
 simp only [footD, List.nodup_cons, List.mem_cons, not_or] at hnd
 refine ⟨hb, ?_, ?_, h.srt, fun x hx => ?_, h.rest, h.nodup, h.n1, h.n2, f1, f2, h.sized, h.cnt⟩
 ·exact (hu.block sb (lt_of_blk h.safe) (by simp; exact fun q => hnd.1.1 q.symm)).trans h.safe
 ·obtain ⟨es, ck, hbm, r⟩ := h.map
  exact ⟨es, ck, (hu.block mb (lt_of_blk hbm) (by simp; exact fun q => hnd.1.2.1 q.symm)).trans hbm, r⟩
 ·obtain ⟨h1, h2, h3⟩ := h.row x hx
  refine ⟨h1.upd hu fun j hj q => ?_, h2, h3⟩
  obtain rfl := List.mem_singleton.1 hj
  exact hnd.1.2.2 (List.mem_map.2 ⟨x, hx, by simp [blkOfV, q]⟩)
theorem DevR.ticked {w w' : World} {p : Nat} {D : Dev} {sb mb : Nat} {L : List (Nat × Value)} {ops : Int} (h : DevR w p D sb mb L ops) {e : Nat} {fuse : Int} {down : Bool} {ops' : Int} (t : Ticked w w' p sb D.n mb D e fuse down ops') :
  DevR w' p { D with fuse := fuse, down := down } sb mb L ops' := h.boxed t.box t.upd t.f1 t.f2
end Go.Proofs.YtgpefiacbipfpaaGreatDoor

namespace Go.Proofs.YtgpefiacbipfpaaGreatDoor
open Go.RowKit Go.Maps
structure KeyL {κ : Type} [DecidableEq κ] (lt : κ → κ → Bool) (kl : κ → Lit) : Prop where
 ord : Ord lt
 same : ∀ a b, (kl a).sameKey (kl b) = decide (a = b)
 before : ∀ a b, (kl a).before (kl b) = lt a b
section
variable {κ : Type} [DecidableEq κ] {lt : κ → κ → Bool} {kl : κ → Lit} (K : KeyL lt kl)
def dataA (kl : κ → Lit) (L : List (κ × Value)) : DataW Value := .map (L.map fun p => (kl p.1, .held p.2))
include K
theorem has_dataA (L : List (κ × Value)) (k : κ) : Maps.has (dataA kl L) (kl k) = (getA L k).isSome := by
 unfold dataA
 rw [Maps.has_eq, List.any_map]
 induction L with
 | nil => rfl
 | cons x L ih =>
  rw [List.any_cons, ih, getA_cons]
  show ((kl x.1).sameKey (kl k) || _) = _
  rw [K.same]
  by_cases h : x.1 = k <;> simp [h]
end
section
variable {κ : Type} {lt : κ → κ → Bool} {kl : κ → Lit}
theorem size_dataA (L : List (κ × Value)) : Maps.size (dataA kl L) = L.length := by
 unfold dataA
 rw [Maps.size_eq, List.length_map]
end
section
variable {κ : Type} [DecidableEq κ] {lt : κ → κ → Bool} {kl : κ → Lit}
variable (K : KeyL lt kl)
include K
theorem at_dataA (L : List (κ × Value)) (k : κ) (z : DataW Value) : (dataA kl L).atKey (kl k) z = match getA L k with | some v => .held v | none => z := by
 unfold dataA DataW.atKey getA
 dsimp only
 rw [List.find?_map]
 have : ((fun p : Lit × DataW Value => p.1.sameKey (kl k)) ∘ fun p : κ × Value => (kl p.1, DataW.held p.2)) = fun p : κ × Value => decide (p.1 = k) := by
  funext x
  exact K.same _ _
 rw [this]
 cases L.find? (fun p => decide (p.1 = k)) <;> rfl
theorem del_dataA (L : List (κ × Value)) (k : κ) : (dataA kl L).del (kl k) = dataA kl (delA L k) := by
 unfold dataA DataW.del delA
 dsimp only
 congr 1
 rw [List.filter_map]
 congr 1
 apply List.filter_congr
 intro x _
 show (!(kl x.1).sameKey (kl k)) = _
 rw [K.same]
theorem put_dataA {L : List (κ × Value)} (hs : Srt lt L) (k : κ) (v : Value) : (dataA kl L).put (kl k) (.held v) = dataA kl (putA lt L k v) := by
 have hd := del_dataA K L k
 unfold dataA DataW.del at hd
 unfold dataA DataW.put
 dsimp only at hd ⊢
 simp only [DataW.map.injEq] at hd
 rw [hd]
 clear hd
 congr 1
 induction L with
 | nil => rfl
 | cons x L ih =>
  have hdel : delA (x :: L) k = if x.1 = k then delA L k else x :: delA L k := by
   unfold delA
   rw [List.filter_cons]
   by_cases h : x.1 = k <;> simp [h]
  have hall : (∀ p ∈ L, p.1 ≠ k) → delA L k = L := fun hm => List.filter_eq_self.2 fun p hp => by simp [hm p hp]
  rw [hdel]
  simp only [putA]
  by_cases hx : lt x.1 k = true
  ·have hne := K.ord.ne hx
   rw [if_pos hx, if_neg hne, List.map_cons, List.map_cons, DataW.insert]
   show (if (kl k).before (kl x.1) = true then _ else _) = _
   rw [K.before, K.ord.asymm hx, if_neg (by simp), ih hs.tail]
  ·rw [if_neg hx]
   by_cases hk : x.1 = k
   ·rw [if_pos hk, if_pos hk, hall fun p hp => by have := K.ord.ne (hs.head p hp); rw [hk] at this; exact Ne.symm this]
    cases L with
    | nil => rfl
    | cons y L =>
     have h1 := hs.head y (by simp)
     rw [List.map_cons, DataW.insert]
     show (if (kl k).before (kl y.1) = true then _ else _) = _
     rw [K.before, ← hk, h1]
     simp
   ·have hkx : lt k x.1 = true := by
     rcases K.ord.total k x.1 with e | e | e
     ·exact absurd e.symm hk
     ·exact e
     ·exact absurd e hx
    rw [if_neg hk, if_neg hk, hall fun p hp => Ne.symm (K.ord.ne (K.ord.trans _ _ _ hkx (hs.head p hp))), List.map_cons, DataW.insert]
    show (if (kl k).before (kl x.1) = true then _ else _) = _
    rw [K.before, hkx]
    simp
end
theorem keyI : KeyL ltI fun n : Nat => Lit.int .i64 n where
 ord := ordI
 same := fun a b => by
  show decide (_ ∧ _) = _
  simp only [true_and]
  exact decide_eq_decide.2 ⟨fun h => by omega, fun h => by rw [h]⟩
 before := fun a b => by
  show decide _ = decide _
  exact decide_eq_decide.2 ⟨fun h => by omega, fun h => by omega⟩
theorem keyS : KeyL ltN Lit.string where
 ord := ordN
 same := fun a b => by
  show (a == b) = _
  by_cases h : a = b
  ·subst h; simp
  ·simp [h]
 before := fun a b => by
  show bytesBefore _ _ = Op.bytesLess _ _
  induction a generalizing b with
  | nil => cases b <;> rfl
  | cons a x ih => cases b with
   | nil => rfl
   | cons b y => simp only [bytesBefore, Op.bytesLess, ih]
theorem dataI_eq (L : List (Nat × Value)) : dataI L = dataA (fun n : Nat => Lit.int .i64 n) L := rfl
theorem lawS : Keyed Tryz.prog 9 := string_keyed Tryz.underlying9
abbrev MapI (w : World) (mb : Nat) (L : List (Nat × Value)) : Prop := w.ownsMap (H := Value) Tryz.prog 3 opq mb L.length (dataI L)
abbrev MapS (w : World) (mb : Nat) (L : List (Bs × Value)) : Prop := w.ownsMap (H := Value) Tryz.prog 9 opq mb L.length (dataA Lit.string L)
theorem ownsMap_tight {H : Type} {P : Program} {k : TypeId} {R : Value → Option (DataW H × List MemPlace)} {w : World} {b n : Nat} {D : DataW H} (h : w.ownsMap P k R b n D) : w.ownsMap P k R b (Maps.size D) D := by
 obtain ⟨es, clock, hb, F, hs, rfl⟩ := h
 exact ⟨es, clock, hb, F, by rw [Maps.size_eq, length_sorted]; simp, rfl⟩
theorem MapI.of {w : World} {mb n : Nat} {L : List (Nat × Value)} (h : w.ownsMap (H := Value) Tryz.prog 3 opq mb n (dataI L)) : MapI w mb L := by
 have := ownsMap_tight h
 rwa [dataI_eq, size_dataA] at this
theorem MapS.of {w : World} {mb n : Nat} {L : List (Bs × Value)} (h : w.ownsMap (H := Value) Tryz.prog 9 opq mb n (dataA Lit.string L)) : MapS w mb L := by
 have := ownsMap_tight h
 rwa [size_dataA] at this
theorem owns_upd {H : Type} {P : Program} {k : TypeId} {R : Value → Option (DataW H × List MemPlace)} {w w' : World} {b n : Nat} {D : DataW H} (h : w.ownsMap P k R b n D) {F : List Nat} (u : Upd F w w') (hF : b ∉ F) : w'.ownsMap P k R b n D := by
 have hlt := World.ownsMap.lt h
 obtain ⟨es, clock, hb, F', hs, hD⟩ := h
 exact ⟨es, clock, (u.block b hlt hF).trans hb, F', hs, hD⟩
theorem wfN {n : Nat} (h : n < 9223372036854775807) : (Lit.int .i64 (n : Int)).wf = true := by
 have e0 : IntKind.i64.min = -9223372036854775808 := rfl
 have e1 : IntKind.i64.max = 9223372036854775807 := rfl
 simp only [Lit.wf, Bool.and_eq_true, decide_eq_true_eq, e0, e1]
 omega
theorem MapI.look {w : World} {mb : Nat} {L : List (Nat × Value)} (h : MapI w mb L) {t e : TypeId} (ht : Tryz.prog.underlying t = some (.map 3 e)) {z : Value} (hz : (zeroValue e).run Tryz.prog w = .ok z w) (n : Nat) (hn : n < 9223372036854775807) :
  (Instr.lookup t (.map (some mb)) (.int .i64 n) false).run Tryz.prog w = .ok ((getA L n).getD z) w := by
 obtain ⟨v, ps, hrun, hv⟩ := World.ownsMap.lookup h lawI ht hz (zd := .held z) (zp := []) rfl (keyOf_int_mk Tryz.underlying3 (a := (n : Int)) (wfN hn))
 rw [hrun]
 simp only [opq, Option.some.injEq, Prod.mk.injEq] at hv
 rw [dataI_eq, at_dataA keyI] at hv
 cases hg : getA L n with
 | none => rw [hg] at hv; cases hv.1; rfl
 | some u => rw [hg] at hv; cases hv.1; rfl
end Go.Proofs.YtgpefiacbipfpaaGreatDoor

namespace Go.Proofs.YtgpefiacbipfpaaGreatDoor
open Go.RowKit Go.Maps
theorem wpList_lookup_run {w : World} {ops : Array Oper} {rest : List Oper} {o : Oper} {a : Act} {Q : Exit → Act → World → Prop} (hg : o.guard = none) (m x : Operand) (t : TypeId) (hop : o.op = Op.lookup t m x false)
  {mv xv v : Value} (hm : a.eval m = mv) (hx : a.eval x = xv) (hrun : (Instr.lookup t mv xv false).run Tryz.prog w = .ok v w) (h : wpList Tryz.prog ops Q rest (a.put o.dst v) w) : wpList Tryz.prog ops Q (o :: rest) a w := by
 refine wpList_plain hg fun K' hK' => ?_
 unfold Oper.wp
 simp [execOp, hop, hm, hx, hrun, Result.andThen]
 exact hK' _ _ h
abbrev nK : Array Value := Array.replicate 512 (.int .u8 0)
theorem zeroK (w : World) : (zeroValue 121).run Tryz.prog w = .ok (.agg nK) w := by
 obtain ⟨i, h, h1, h2, h3⟩ := info_parts infoK
 simp [zeroValue, typeInfo, h, h1]
theorem wpList_alloc_K {w : World} {ops : Array Oper} {rest : List Oper} {o : Oper} {a : Act} {Q : Exit → Act → World → Prop} (hg : o.guard = none) (hop : o.op = Op.alloc 121)
  (h : wpList Tryz.prog ops Q rest (a.put o.dst (.pointer (some ⟨w.heap.size, 0, none⟩))) (w.alloc (.cells nK 121))) : wpList Tryz.prog ops Q (o :: rest) a w := by
 refine wpList_plain hg fun K' hK' => ?_
 unfold Oper.wp
 simp only [execOp, hop, Instr.alloc, Sem.run_bind, zeroK, Result.andThen_ok]
 exact hK' _ _ h
theorem sizeK : (Tryz.prog.info? 121).map (·.size) = some 512 := by kernel_rfl
theorem wpList_load_K {w : World} {ops : Array Oper} {rest : List Oper} {o : Oper} {a : Act} {Q : Exit → Act → World → Prop} (hg : o.guard = none) (x : Operand) (hop : o.op = Op.load 121 x) {B i : Nat} {b : Bs}
  (hx : a.eval x = .pointer (some ⟨B, i, none⟩)) (hr : w.rangeAt B i (cK b)) (h : wpList Tryz.prog ops Q rest (a.put o.dst (.agg (cK b).toArray)) w) : wpList Tryz.prog ops Q (o :: rest) a w :=
 wpList_load_mid hg 121 x hop B i hx (cK b) _ hr Tryz.underlying121 rfl (by rw [cK_len]; exact sizeK) h
theorem wpList_store_K {w : World} {ops : Array Oper} {rest : List Oper} {o : Oper} {a : Act} {Q : Exit → Act → World → Prop} (hg : o.guard = none) (x y : Operand) (hop : o.op = Op.store 121 x y) {B : Nat} {b : Bs} {ty : TypeId} {old : Array Value}
  (hx : a.eval x = .pointer (some ⟨B, 0, none⟩)) (hy : a.eval y = .agg (cK b).toArray) (hb : w.heap[B]? = some (.cells old ty (0, 0))) (hs : old.size = 512) (h : wpList Tryz.prog ops Q rest (a.put o.dst undef) (w.setRow B (cK b).toArray)) : wpList Tryz.prog ops Q (o :: rest) a w :=
 wpList_store_row hg 121 x y hop B (cK b).toArray hx hy ty old hb (by rw [List.size_toArray, cK_len]; exact sizeK) (by rw [hs, List.size_toArray, cK_len]) (all_oneCell_toArray (oneK [b] _ (by simp))) h
theorem size_nK : nK.size = 512 := Array.size_replicate ..
theorem rangeK {w : World} {b : Nat} {X : List Value} {l : List Bs} {ty : TypeId} (h : w.heap[b]? = some (.cells X.toArray ty (0, 0))) {m : Nat} (hx : X.take m = flatG cK l) (i : Nat) (hi : i < l.length) : w.rangeAt b (i * 512) (cK l[i]) := by
 intro j v hv
 have hj : j < 512 := by
  rcases Nat.lt_or_ge j 512 with h | h
  ·exact h
  ·rw [List.getElem?_eq_none (by rw [cK_len]; exact h)] at hv; cases hv
 rw [cell_blk h]
 have h1 := flatG_at TK l i hi j hj
 rw [← hx, hv] at h1
 rw [List.getElem?_take] at h1
 split at h1
 ·simpa using h1
 ·cases h1
theorem safeL_len (D : Dev) : (safeL D).length = D.n := by simp [safeL]
theorem safeL_at (D : Dev) {i : Nat} (hi : i < (safeL D).length) : (safeL D)[i] = (D.blk i).safe := by simp [safeL]
theorem DevR.safeAt {w : World} {p : Nat} {D : Dev} {sb mb : Nat} {L : List (Nat × Value)} {ops : Int} (h : DevR w p D sb mb L ops) {n : Nat} (hn : n < D.n) : w.rangeAt sb (n * 512) (cK (D.blk n).safe) := by
 have := rangeK (m := (flatG cK (safeL D)).length) h.safe (List.take_length ..) n (by rw [safeL_len]; exact hn)
 rwa [safeL_at] at this
theorem OwnG.lastK {w : World} {base : Nat} {v : Value} {l : List Bs} (h : OwnG cK 121 512 w base v l) (hl : l ≠ []) : ∃ g c, v = .slice (some ⟨g, 0, none⟩) l.length c ∧ w.rangeAt g ((l.length - 1) * 512) (cK (l.getLast hl)) := by
 have hpos := List.length_pos_iff.2 hl
 obtain ⟨h0, h2⟩ := h
 rcases h2 with ⟨rfl, hn⟩ | ⟨g, cap, cur, rfl, hg, hh, r1, r2, r3, r4⟩
 ·omega
 ·refine ⟨g, cap, rfl, ?_⟩
  have := rangeK (X := cur.toList) (l := l) (m := l.length * 512) (by simpa using hh) r4 (l.length - 1) (by omega)
  rwa [← List.getLast_eq_getElem hl] at this
theorem rangeAt_keep {w w' : World} {b o : Nat} {cs : List Value} (h : w.rangeAt b o cs) (e : w'.heap[b]? = w.heap[b]?) : w'.rangeAt b o cs := fun j v hv => (World.cell?_of_block e).trans (h j v hv)
theorem view_pend {c : Cell} (h : c.pend ≠ []) : c.view = c.pend.getLast h := by simp [Cell.view, List.getLast?_eq_some_getLast h]
theorem view_safe {c : Cell} (h : c.pend = []) : c.view = c.safe := by simp [Cell.view, h]
def NewB (w : World) (base : Nat) (v : Value) (b : Bs) : Prop := ∃ B, v = .slice (some ⟨B, 0, none⟩) 512 512 ∧ base ≤ B ∧ w.heap[B]? = some (.cells (cK b).toArray 121 (0, 0))
def ReadPost (w : World) (p : Nat) (D : Dev) (F : List Nat) (n : Nat) (r : Ending) (w' : World) : Prop :=
 ∃ (e : Nat) (D' : Dev) (v : Value), r = .returned (.tuple #[v, .int .i64 e]) ∧ Eff [] D e D' ∧ DevAt w' p D' F ∧ Upd [p] w w' ∧ (e = 0 → NewB w' w.heap.size v (D.blk n).view) ∧ (e ≠ 0 → v = .slice none 0 0)
theorem Ticked.eff {w w' : World} {p sb mb : Nat} {D : Dev} {e : Nat} {fuse : Int} {down : Bool} {ops : Int} (t : Ticked w w' p sb D.n mb D e fuse down ops) : Eff [] D e { D with fuse := fuse, down := down } := by
 refine ⟨rfl, Nat.le_refl _, ?_⟩
 rcases t.out with ⟨h1, h2, h3, h4⟩ | ⟨h1, h2, h3⟩
 ·exact .inl ⟨h1, h2, h3, h4, rfl⟩
 ·exact .inr ⟨h1, h2, h3, [], [], rfl, rfl⟩
theorem DevR.upd {w w' : World} {p : Nat} {D : Dev} {sb mb : Nat} {L : List (Nat × Value)} {ops : Int} (h : DevR w p D sb mb L ops) {G : List Nat} (u : Upd G w w') (hG : ∀ k ∈ footD p sb mb L, k ∉ G) : DevR w' p D sb mb L ops := by
 refine ⟨(u.block p (lt_of_blk h.box) (hG p (by simp [footD]))).trans h.box, (u.block sb (lt_of_blk h.safe) (hG sb (by simp [footD]))).trans h.safe, owns_upd h.map u (hG mb (by simp [footD])), h.srt, fun x hx => ?_, h.rest, h.nodup, h.n1, h.n2, h.f1, h.f2, h.sized, h.cnt⟩
 obtain ⟨h1, h2, h3⟩ := h.row x hx
 refine ⟨h1.upd u fun j hj q => hG j ?_ hj, h2, h3⟩
 simp only [footD, List.mem_cons]
 exact .inr (.inr (.inr (List.mem_map.2 ⟨x, hx, by simp [blkOfV, q]⟩)))
theorem DevAt.upd {w w' : World} {p : Nat} {D : Dev} {F : List Nat} (h : DevAt w p D F) {G : List Nat} (u : Upd G w w') (hG : ∀ k ∈ F, k ∉ G) : DevAt w' p D F := by
 obtain ⟨sb, mb, L, ops, h, rfl⟩ := h
 exact ⟨sb, mb, L, ops, h.upd u hG, rfl⟩
set_option maxRecDepth 100000 in
set_option maxHeartbeats 4000000 in
theorem read_ok (w : World) {p : Nat} {D : Dev} {F : List Nat} (h : DevAt w p D F) (n : Nat) (hn : n < D.n) (hwr : D.wr ≤ 140737488355328) : Calls Tryz.prog 132 #[.pointer (some ⟨p, 0, none⟩), .int .i64 n] w (ReadPost w p D F n) := by
 obtain ⟨sb, mb, L, ops, h, rfl⟩ := h
 have HO := Lib.hid (operate_ok w h n hn)
 have HD := Lib.hid h
 have HP := Lib.hid (fun i => Nat.le_trans (h.cnt i) hwr)
 have hn2 := h.n2
 clear h
 go_enter Tryz.func132, Tryz.ntmps132
 go_wp2_with fail
 refine HO.out.mono ?_
 rintro r w1 ⟨e, fuse, down, ops', rfl, T⟩
 have HT := Lib.hid T
 have HR := Lib.hid (HD.out.ticked T)
 by_cases he : e = 0
 ·subst he
  have c0 := cell_blk T.box 0
  have c1 := cell_blk T.box 1
  simp only [List.getElem?_toArray, List.getElem?_cons_zero, List.getElem?_cons_succ] at c0 c1
  have HS := Lib.hid (HR.out.safeAt (n := n) hn)
  have hlt : (n : Int) < (D.n : Int) := by omega
  clear T
  cases hg : getA L n with
  | none =>
   have HV := Lib.hid (view_safe (HR.out.rest n hg))
   have c1' := cell_keep ((Upd.refl [] w1).alloc (.cells (cK (D.blk n).safe).toArray 121)) c1
   have HL := Lib.hid (MapI.look (owns_upd HR.out.map ((Upd.refl [] w1).alloc (.cells (cK (D.blk n).safe).toArray 121)) (by simp)) Tryz.underlying117 (z := .slice none 0 0) (by kernel_rfl) n (by omega))
   go_wp2_with (first
    | (refine wpList_load_K rfl _ rfl (b := (D.blk n).safe) rfl HS.out ?_)
    | (refine wpList_alloc_K rfl rfl ?_)
    | (refine wpList_store_K rfl _ _ rfl (b := (D.blk n).safe) rfl rfl (heap_top _ _) size_nK ?_; rewrite [World.setRow_alloc_new])
    | (at_lookup; refine wpList_lookup_run rfl _ _ 117 rfl rfl rfl HL.out ?_)
    | fail)
   go_ret2
   exact ⟨0, _, _, rfl, HT.out.eff, ⟨sb, mb, L, ops', HR.out.upd ((Upd.refl [] w1).alloc _) (by simp), rfl⟩, HT.out.upd.alloc _, fun _ => ⟨w1.heap.size, rfl, HT.out.upd.size, by rw [HV.out]; exact heap_top _ _⟩, fun q => absurd rfl q⟩
  | some v =>
   obtain ⟨hown, hne, -⟩ := HR.out.row (n, v) (getA_mem hg)
   dsimp only at hown hne
   obtain ⟨g, c, rfl, hrg⟩ := hown.lastK hne
   have HV := Lib.hid (view_pend hne)
   have hpos : 0 < (D.blk n).pend.length := List.length_pos_iff.2 hne
   have hcap : (D.blk n).pend.length ≤ 140737488355328 := HP.out n
   have c1' := cell_keep ((Upd.refl [] w1).alloc (.cells (cK (D.blk n).safe).toArray 121)) c1
   have HL := Lib.hid (MapI.look (owns_upd HR.out.map ((Upd.refl [] w1).alloc (.cells (cK (D.blk n).safe).toArray 121)) (by simp)) Tryz.underlying117 (z := .slice none 0 0) (by kernel_rfl) n (by omega))
   rewrite [hg] at HL
   have HG := Lib.hid (rangeAt_keep (w' := w1.alloc (.cells (cK (D.blk n).safe).toArray 121)) hrg (((Upd.refl [] w1).alloc _).block g (by have := (hown.block g rfl).2; exact this) (by simp)))
   have hlt2 : (0 : Int) < ((D.blk n).pend.length : Int) := by omega
   generalize hlst : (D.blk n).pend.getLast hne = lst at *
   clear hown hrg
   generalize (D.blk n).pend.length = m at *
   go_wp2_with (first
    | (refine wpList_load_K rfl _ rfl (b := (D.blk n).safe) rfl HS.out ?_)
    | (refine wpList_load_K rfl _ rfl (b := lst) rfl HG.out ?_)
    | (refine wpList_alloc_K rfl rfl ?_)
    | (refine wpList_store_K rfl _ _ rfl (b := (D.blk n).safe) rfl rfl (heap_top _ _) size_nK ?_; rewrite [World.setRow_alloc_new])
    | (refine wpList_store_K rfl _ _ rfl (b := lst) rfl rfl (heap_top _ _) (by rw [List.size_toArray, cK_len]) ?_; rewrite [World.setRow_alloc_new])
    | (at_lookup; refine wpList_lookup_run rfl _ _ 117 rfl rfl rfl HL.out ?_)
    | fail)
   go_ret2
   exact ⟨0, _, _, rfl, HT.out.eff, ⟨sb, mb, L, ops', HR.out.upd ((Upd.refl [] w1).alloc _) (by simp), rfl⟩, HT.out.upd.alloc _, fun _ => ⟨w1.heap.size, rfl, HT.out.upd.size, by rw [HV.out]; exact heap_top _ _⟩, fun q => absurd rfl q⟩
 ·have he' : ¬ (e : Int) = 0 := by omega
  go_wp2_with fail
  go_ret2
  exact ⟨e, _, _, rfl, HT.out.eff, ⟨sb, mb, L, ops', HR.out, rfl⟩, HT.out.upd, fun q => absurd q he, fun _ => rfl⟩
end Go.Proofs.YtgpefiacbipfpaaGreatDoor
