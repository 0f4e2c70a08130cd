/- The record's read: what a slot says. The record's two slots: which one is the newer. The record's two slots, both read. The record's Load. -/
import Derived.BigQuiet
import Derived.Test.YtgpefiacbipfpaaGreatDoorC07
namespace Go.Proofs.YtgpefiacbipfpaaGreatDoor
open Go.RowKit Go.Maps
def SlotV (w : World) (base : Nat) (vs : Array Value) (o : Option (Nat × Bs)) : Prop := ∃ (x : Int) (a : Option Addr) (m c : Nat), vs = #[.bool o.isSome, .int .i64 x, .slice a m c] ∧ (∀ n d, o = some (n, d) → x = IntKind.i64.wrap n ∧ Rd w (.slice a m c) d) ∧ ∀ g, (Value.slice a m c).ownBlock = some g → base ≤ g
def SReadPost (w : World) (p : Nat) (D : Dev) (F : List Nat) (n : Nat) (r : Ending) (w' : World) : Prop :=
 ∃ (e : Nat) (D' : Dev) (vs : Array Value), r = .returned (.tuple #[.agg vs, .int .i64 e]) ∧ Eff [] D e D' ∧ DevAt w' p D' F ∧ Upd [p] w w' ∧ (e = 0 → SlotV w' w.heap.size vs (slotOf (D.blk n).view)) ∧ (e ≠ 0 → SlotV w' w.heap.size vs none)
theorem ret_slot {fn : Func} {R : Ending → World → Prop} {a : Act} {W : World} {B : Nat} {x y z : Value} (hr : fn.results = #[.cell 4 221, .tmp 5])
  (hs : a.tmps.getD 4 undef = .pointer (some ⟨B, 0, none⟩)) (z0 : W.cell? ⟨B, 0, none⟩ = some x) (z1 : W.cell? ⟨B, 1, none⟩ = some y) (z2 : W.cell? ⟨B, 2, none⟩ = some z) (hd : a.defers = []) (h : R (.returned (.tuple #[.agg #[x, y, z], a.tmps.getD 5 undef])) W) : bodyPost Tryz.prog fn R .ret a W := by
 refine bodyPost_ret (v := .tuple #[.agg #[x, y, z], a.tmps.getD 5 undef]) ?_ hd h
 have hs' := hs
 simp only [Array.getD_eq_getD_getElem?] at hs'
 simp [results, hr, hs', go_sem, z0, z1, z2]
theorem NewB.rd {w : World} {base : Nat} {v : Value} {b : Bs} (h : NewB w base v b) (hb : b.length = 512) : Rd w v b ∧ ∀ g, v.ownBlock = some g → base ≤ g := by
 obtain ⟨B, rfl, h1, h2⟩ := h
 refine ⟨⟨⟨some ⟨B, 0, none⟩, 512, by rw [hb], by rw [hb]; exact Nat.le_refl _, by unfold maxLen; omega, fun i hi => ⟨B, 0, rfl, fun j u hu => ?_⟩⟩, fun n c e => by cases e⟩, fun g hg => by cases hg; exact h1⟩
 obtain rfl : j = 0 := by
  cases j with
  | zero => rfl
  | succ j => simp [c8] at hu
 have hu' : u = .int .u8 b[i].toNat := by simpa [c8] using hu.symm
 subst hu'
 have : w.cell? ⟨B, i, none⟩ = some (.int .u8 b[i].toNat) := by
  rw [cell_blk h2, cK_of hb]
  simp [hi]
 simpa using this
theorem box_set3 {W : World} {B : Nat} {x y z : Value} {ty : TypeId} (h : W.heap[B]? = some (.cells #[x, y, z] ty (0, 0))) (x' y' z' : Value) :
  (((W.setCell ⟨B, 0, none⟩ x').setCell ⟨B, 1, none⟩ y').setCell ⟨B, 2, none⟩ z').heap[B]? = some (.cells #[x', y', z'] ty (0, 0)) := by
 have e1 : (W.setCell ⟨B, 0, none⟩ x').heap[B]? = some (.cells #[x', y, z] ty (0, 0)) := by rw [heap_setCell, if_pos rfl, h]; rfl
 have e2 : ((W.setCell ⟨B, 0, none⟩ x').setCell ⟨B, 1, none⟩ y').heap[B]? = some (.cells #[x', y', z] ty (0, 0)) := by rw [heap_setCell, if_pos rfl, e1]; rfl
 rw [heap_setCell, if_pos rfl, e2]; rfl
theorem upd_set3 {W : World} {B : Nat} (x' y' z' : Value) : Upd [B] W (((W.setCell ⟨B, 0, none⟩ x').setCell ⟨B, 1, none⟩ y').setCell ⟨B, 2, none⟩ z') := (((Upd.refl [B] W).setCell (by simp) _ _).setCell (by simp) _ _).setCell (by simp) _ _
theorem SlotV.none (w : World) (base : Nat) : SlotV w base #[.bool false, .int .i64 0, .slice Option.none 0 0] Option.none := ⟨0, Option.none, 0, 0, rfl, fun _ _ q => (nomatch q), fun _g q => (nomatch q)⟩
theorem u8_ne {x : UInt8} (h : x ≠ 115) : ¬ (x.toNat : Int) = 115 := fun q => h (UInt8.toNat_inj.1 (by rw [show (115 : UInt8).toNat = 115 from rfl]; omega))
set_option maxRecDepth 100000 in
set_option maxHeartbeats 4000000 in
theorem sread_ok (w : World) {p : Nat} {D : Dev} {F : List Nat} (h : DevAt w p D F) (n : Nat) (hn : n < D.n) (hwr : D.wr ≤ 137438953400) :
  Calls Tryz.prog 173 #[.pointer (some ⟨p, 0, none⟩), .int .i64 n] w (SReadPost w p D F n) := by
 have HD := Lib.hid h
 have hn2 := h.bounds.2
 have hvl : (D.blk n).view.length = 512 := h.sized.view n
 clear h
 go_enter Tryz.func173, Tryz.ntmps173
 go_wp2_with fail
 have HU0 : Hid (Upd [] w (w.alloc (.cells #[.bool false, .int .i64 0, .slice none 0 0] 221))) := Lib.hid ((Upd.refl [] w).alloc _)
 have HB0 := Lib.hid (heap_top w (.cells #[.bool false, .int .i64 0, .slice none 0 0] 221))
 have hs0 : w.heap.size < (w.alloc (.cells #[.bool false, .int .i64 0, .slice none 0 0] 221)).heap.size := by simp
 generalize (w.alloc (.cells #[.bool false, .int .i64 0, .slice none 0 0] 221)) = w0 at *
 have hpB : p ≠ w.heap.size := fun q => by have := HD.out.lt p HD.out.p_mem; omega
 have HBF : Hid (∀ k ∈ F, k ≠ w.heap.size) := Lib.hid fun k hk q => by have := HD.out.lt k hk; omega
 have HRd := Lib.hid (read_ok w0 (HD.out.upd HU0.out (by simp)) n hn (by omega))
 refine HRd.out.mono ?_
 rintro r w1 ⟨e, D1, v, rfl, hE, hD1, hU1, hv, hv'⟩
 have hB1 := (hU1.block w.heap.size hs0 (by simp; exact fun q => hpB q.symm)).trans HB0.out
 have HB1 := Lib.hid hB1
 have q0 := frozen_blk hB1 0
 have q1 := frozen_blk hB1 1
 have q2 := frozen_blk hB1 2
 have z0 := cell_blk hB1 0
 have z1 := cell_blk hB1 1
 have z2 := cell_blk hB1 2
 simp only [List.getElem?_toArray, List.getElem?_cons_zero, List.getElem?_cons_succ] at z0 z1 z2
 have H1 := Lib.hid (And.intro hE (And.intro hD1 ((HU0.out.mono (G := [p]) (by simp)).trans hU1)))
 have hs1 := hU1.size
 clear hB1 hE hD1 hU1 HRd HB0
 by_cases he : e = 0
 ·subst he
  obtain ⟨hr1, hr2⟩ := (hv rfl).rd hvl
  obtain ⟨B, hv1, hB, -⟩ := hv rfl
  subst hv1
  have HF := Lib.hid (frame_ok w1 hr1 (by omega))
  clear hv hv' hr1 hr2 z0 z1 z2 q0 q1 q2
  go_wp2_with fail
  refine HF.out.mono ?_
  rintro r w2 ⟨⟨v', rfl, hr, hn'⟩, hU2⟩
  have hB2 := (hU2.block w.heap.size (by omega) (by simp)).trans HB1.out
  have HB2 := Lib.hid hB2
  have HS : Hid (slotOf (D.blk n).view = if (getFrame (D.blk n).view).2.2.2 ≠ 0 ∨ (getFrame (D.blk n).view).1 ≠ 115 then none else if (getUint (getFrame (D.blk n).view).2.1).2.2 ≠ 0 then none else some ((getUint (getFrame (D.blk n).view).2.1).1, (getFrame (D.blk n).view).2.1.drop (getUint (getFrame (D.blk n).view).2.1).2.1)) := Lib.hid rfl
  generalize getFrame (D.blk n).view = g at *
  obtain ⟨x, d, k, e⟩ := g
  dsimp only at hr hn' HS ⊢
  obtain ⟨a', c', m', hm', hmc, hc63, rfl⟩ := hr.sliceM
  have HR := Lib.hid hr
  have HN := Lib.hid hn'
  have H2 := Lib.hid hU2
  have hs2 := hU2.size
  have hB2' := fun X : Obj => (((Upd.refl [] w2).alloc X).block w.heap.size (lt_of_blk hB2) (by simp)).trans hB2
  have q0 := fun X : Obj => frozen_blk (hB2' X) 0
  have q1 := fun X : Obj => frozen_blk (hB2' X) 1
  have q2 := fun X : Obj => frozen_blk (hB2' X) 2
  have z0 := fun X : Obj => cell_blk (hB2' X) 0
  have z1 := fun X : Obj => cell_blk (hB2' X) 1
  have z2 := fun X : Obj => cell_blk (hB2' X) 2
  simp only [List.getElem?_toArray, List.getElem?_cons_zero, List.getElem?_cons_succ] at z0 z1 z2
  clear hB2'
  clear hr hn' hU2 hB2 HF hm' HB1
  by_cases he : e = 0
  ·subst he
   by_cases hx : x = 115
   ·subst hx
    have hgb : (getUint d).1 < 2 ^ 64 ∧ (getUint d).2.1 ≤ d.length := by
     have h := getU_bounds 10 0 0 d (by decide)
     refine ⟨h.1, ?_⟩
     show (getU 10 0 0 d).2.1 ≤ _
     by_cases q : (getU 10 0 0 d).2.2 = 0
     ·have := h.2.1 q; omega
     ·have := (h.2.2.1 q).2; omega
    have HUi := Lib.hid fun X : Obj => uint_ok (w2.alloc X) (HR.out.keep ((Upd.refl [] w2).alloc X))
    generalize getUint d = gu at *
    obtain ⟨u, k2, e3⟩ := gu
    dsimp only at hgb HS HUi
    obtain ⟨hu64, hk2⟩ := hgb
    clear q0 q1 q2 z0 z1 z2
    by_cases he3 : e3 = 0
    ·subst he3
     go_wp2_with fail
     generalize hW3 : w2.alloc _ = w3
     have hu3 : Upd [] w2 w3 := by rw [← hW3]; exact (Upd.refl [] w2).alloc _
     have hX : w3.heap[w2.heap.size]? = some (.cells #[.int .u8 115, .slice a' m' c'] 25) := by rw [← hW3]; exact heap_top _ _
     have hB3 := (hu3.block w.heap.size (lt_of_blk HB2.out) (by simp)).trans HB2.out
     have HUj := HUi.out (.cells #[.int .u8 115, .slice a' m' c'] 25)
     rewrite [hW3] at HUj
     have q0 := frozen_blk hB3 0
     have q1 := frozen_blk hB3 1
     have q2 := frozen_blk hB3 2
     have z0 := cell_blk hB3 0
     have z1 := cell_blk hB3 1
     have z2 := cell_blk hB3 2
     have y1 := cell_blk hX 1
     simp only [List.getElem?_toArray, List.getElem?_cons_zero, List.getElem?_cons_succ] at z0 z1 z2 y1
     have HR3 := Lib.hid (HR.out.keep hu3)
     have HB3 := Lib.hid hB3
     have H3 := Lib.hid (H2.out.trans hu3)
     clear hX hB3 hu3 hW3 HUi
     refine HUj.mono ?_
     rintro r w4 ⟨rfl, rfl⟩
     clear HUj
     go_wp2_with (first
      | (refine wpList_tail8 rfl _ _ rfl HR3.out hk2 rfl rfl ?_; intro a8 c8 m8 hm8 hr8 hb8; have HR8 := Lib.hid hr8; have HB8 := Lib.hid hb8; clear hm8 hr8 hb8)
      | fail)
     have hb3 := box_set3 HB3.out (.bool true) (.int .i64 (wrap64 (u : Int))) (.slice a8 m8 c8)
     have hu3 := (H3.out.mono (G := [w.heap.size]) (by simp)).trans (upd_set3 (W := w4) (B := w.heap.size) (.bool true) (.int .i64 (wrap64 (u : Int))) (.slice a8 m8 c8))
     have hr9 := HR8.out.upd (upd_set3 (W := w4) (B := w.heap.size) (.bool true) (.int .i64 (wrap64 (u : Int))) (.slice a8 m8 c8)) (fun g hg => by have := HN.out g (HB8.out g hg); simp; omega)
     generalize ((w4.setCell _ _).setCell _ _).setCell _ _ = w5 at *
     refine ret_slot Tryz.results173 rfl (cell_blk hb3 0) (cell_blk hb3 1) (cell_blk hb3 2) rfl ⟨0, D1, _, rfl, H1.out.1, H1.out.2.1.upd hu3 (fun k hk => by simp; exact HBF.out k hk), ?_, fun _ => ?_, fun q => absurd rfl q⟩
     ·exact H1.out.2.2.next hu3 fun k hk hlt => by simp at hk; omega
     ·rw [HS.out, if_neg (by simp), if_neg (by simp)]
      refine ⟨_, _, _, _, rfl, fun n' d' q => by cases q; exact ⟨(IntWalk.i64_left _).symm, hr9⟩, fun g hg => Nat.le_trans (Nat.le_trans (Nat.le_of_lt hs0) hs1) (HN.out g (HB8.out g hg))⟩
    ·have he3' : ¬ (e3 : Int) = 0 := by omega
     have he3b : ((e3 : Int) == 0) = false := beq_eq_false_iff_ne.2 he3'
     go_wp2_with fail
     generalize hW3 : w2.alloc _ = w3
     have hu3 : Upd [] w2 w3 := by rw [← hW3]; exact (Upd.refl [] w2).alloc _
     have hX : w3.heap[w2.heap.size]? = some (.cells #[.int .u8 115, .slice a' m' c'] 25) := by rw [← hW3]; exact heap_top _ _
     have hB3 := (hu3.block w.heap.size (lt_of_blk HB2.out) (by simp)).trans HB2.out
     have HUj := HUi.out (.cells #[.int .u8 115, .slice a' m' c'] 25)
     rewrite [hW3] at HUj
     have q0 := frozen_blk hB3 0
     have q1 := frozen_blk hB3 1
     have q2 := frozen_blk hB3 2
     have z0 := cell_blk hB3 0
     have z1 := cell_blk hB3 1
     have z2 := cell_blk hB3 2
     have y1 := cell_blk hX 1
     simp only [List.getElem?_toArray, List.getElem?_cons_zero, List.getElem?_cons_succ] at z0 z1 z2 y1
     have HR3 := Lib.hid (HR.out.keep hu3)
     have HB3 := Lib.hid hB3
     have H3 := Lib.hid (H2.out.trans hu3)
     clear hX hB3 hu3 hW3 HUi
     refine HUj.mono ?_
     rintro r w4 ⟨rfl, rfl⟩
     clear HUj
     go_wp2_with (first
      | (refine wpList_tail8 rfl _ _ rfl HR3.out hk2 rfl rfl ?_; intro a8 c8 m8 hm8 hr8 hb8; have HR8 := Lib.hid hr8; have HB8 := Lib.hid hb8; clear hm8 hr8 hb8)
      | fail)
     have hb3 := box_set3 HB3.out (.bool false) (.int .i64 (wrap64 (u : Int))) (.slice a8 m8 c8)
     have hu3 := (H3.out.mono (G := [w.heap.size]) (by simp)).trans (upd_set3 (W := w4) (B := w.heap.size) (.bool false) (.int .i64 (wrap64 (u : Int))) (.slice a8 m8 c8))
     generalize ((w4.setCell _ _).setCell _ _).setCell _ _ = w5 at *
     refine ret_slot Tryz.results173 rfl (cell_blk hb3 0) (cell_blk hb3 1) (cell_blk hb3 2) rfl ⟨0, D1, _, rfl, H1.out.1, H1.out.2.1.upd hu3 (fun k hk => by simp; exact HBF.out k hk), ?_, fun _ => ?_, fun q => absurd rfl q⟩
     ·exact H1.out.2.2.next hu3 fun k hk hlt => by simp at hk; omega
     ·rw [HS.out, if_neg (by simp), if_pos he3]
      refine ⟨_, _, _, _, rfl, fun n' d' q => (nomatch q), fun g hg => Nat.le_trans (Nat.le_trans (Nat.le_of_lt hs0) hs1) (HN.out g (HB8.out g hg))⟩
   ·have hx' : ¬ (x.toNat : Int) = 115 := u8_ne hx
    go_wp2_with fail
    have hb3 := fun X : Obj => box_set3 ((((Upd.refl [] w2).alloc X).block w.heap.size (lt_of_blk HB2.out) (by simp)).trans HB2.out) (.bool false) (.int .i64 0) (.slice none 0 0)
    have hu3 := fun X : Obj => ((H2.out.mono (G := [w.heap.size]) (by simp)).alloc X).trans (upd_set3 (W := w2.alloc X) (B := w.heap.size) (.bool false) (.int .i64 0) (.slice none 0 0))
    refine ret_slot Tryz.results173 rfl (cell_blk (hb3 _) 0) (cell_blk (hb3 _) 1) (cell_blk (hb3 _) 2) rfl ⟨0, D1, _, rfl, H1.out.1, H1.out.2.1.upd (hu3 _) (fun k hk => by simp; exact HBF.out k hk), ?_, fun _ => ?_, fun q => absurd rfl q⟩
    ·exact H1.out.2.2.next (hu3 _) fun k hk hlt => by simp at hk; omega
    ·rw [HS.out, if_pos (.inr hx)]; exact SlotV.none _ _
  ·have he' : ¬ (e : Int) = 0 := by omega
   go_wp2_with fail
   have hb3 := fun X : Obj => box_set3 ((((Upd.refl [] w2).alloc X).block w.heap.size (lt_of_blk HB2.out) (by simp)).trans HB2.out) (.bool false) (.int .i64 0) (.slice none 0 0)
   have hu3 := fun X : Obj => ((H2.out.mono (G := [w.heap.size]) (by simp)).alloc X).trans (upd_set3 (W := w2.alloc X) (B := w.heap.size) (.bool false) (.int .i64 0) (.slice none 0 0))
   refine ret_slot Tryz.results173 rfl (cell_blk (hb3 _) 0) (cell_blk (hb3 _) 1) (cell_blk (hb3 _) 2) rfl ⟨0, D1, _, rfl, H1.out.1, H1.out.2.1.upd (hu3 _) (fun k hk => by simp; exact HBF.out k hk), ?_, fun _ => ?_, fun q => absurd rfl q⟩
   ·exact H1.out.2.2.next (hu3 _) fun k hk hlt => by simp at hk; omega
   ·rw [HS.out, if_pos (.inl he)]; exact SlotV.none _ _
 ·have he' : ¬ (e : Int) = 0 := by omega
  obtain rfl := hv' he
  go_wp2_with fail
  have hb3 := box_set3 HB1.out (.bool false) (.int .i64 0) (.slice none 0 0)
  have hu3 := upd_set3 (W := w1) (B := w.heap.size) (.bool false) (.int .i64 0) (.slice none 0 0)
  refine ret_slot Tryz.results173 rfl (cell_blk hb3 0) (cell_blk hb3 1) (cell_blk hb3 2) rfl ⟨e, D1, _, rfl, H1.out.1, H1.out.2.1.upd hu3 (fun k hk => by simp; exact HBF.out k hk), ?_, fun q => absurd q he, fun _ => SlotV.none _ _⟩
  exact H1.out.2.2.next hu3 fun k hk hlt => by simp at hk; omega
end Go.Proofs.YtgpefiacbipfpaaGreatDoor

namespace Go.Proofs.YtgpefiacbipfpaaGreatDoor
open Go.RowKit Go.Maps
def newerB (b : Bool) (nv ci cj : Int) : Bool := b && (decide (nv < 0) || decide (cj < ci))
set_option maxRecDepth 100000 in
set_option maxHeartbeats 2000000 in
theorem newer0_ok (w : World) {S N : Nat} {b : Bool} (h0 : w.cell? ⟨S, 0, none⟩ = some (.bool b)) (hn : w.cell? ⟨N, 0, none⟩ = some (.int .i64 (-1))) :
  Calls Tryz.prog 172 #[.int .i64 0, .pointer (some ⟨S, 0, none⟩), .pointer (some ⟨N, 0, none⟩)] w fun e w' => e = .returned (.bool b) ∧ w'.Alike w := by
 cases b with
 | true =>
  go_enter Tryz.func172, Tryz.ntmps172
  go_wp2_with fail
  go_quiet (fail)
  go_wp2_with fail
  go_ret
  exact ⟨rfl, by first | exact alike_refl _ | exact alike_drew _⟩
 | false =>
  go_enter Tryz.func172, Tryz.ntmps172
  go_wp2_with fail
  go_quiet (fail)
  go_wp2_with fail
  go_ret
  exact ⟨rfl, by first | exact alike_refl _ | exact alike_drew _⟩
set_option maxRecDepth 100000 in
set_option maxHeartbeats 2000000 in
theorem newer1_ok (w : World) {S N : Nat} {b : Bool} {nv c0 c1 : Int} (h0 : w.cell? ⟨S, 3, none⟩ = some (.bool b)) (h1 : w.cell? ⟨S, 1, none⟩ = some (.int .i64 c0)) (h4 : w.cell? ⟨S, 4, none⟩ = some (.int .i64 c1)) (hn : w.cell? ⟨N, 0, none⟩ = some (.int .i64 nv)) (hv : nv = -1 ∨ nv = 0) :
  Calls Tryz.prog 172 #[.int .i64 1, .pointer (some ⟨S, 0, none⟩), .pointer (some ⟨N, 0, none⟩)] w fun e w' => e = .returned (.bool (newerB b nv c1 c0)) ∧ w'.Alike w := by
 cases b with
 | true =>
  rcases hv with rfl | rfl
  ·go_enter Tryz.func172, Tryz.ntmps172
   go_wp2_with fail
   go_quiet (fail)
   go_wp2_with fail
   go_ret
   exact ⟨rfl, by first | exact alike_refl _ | exact alike_drew _⟩
  ·go_enter Tryz.func172, Tryz.ntmps172
   go_wp2_with fail
   go_quiet (fail)
   go_wp2_with fail
   go_ret
   exact ⟨by simp [newerB], by first | exact alike_refl _ | exact alike_drew _⟩
 | false =>
  go_enter Tryz.func172, Tryz.ntmps172
  go_wp2_with fail
  go_quiet (fail)
  go_wp2_with fail
  go_ret
  exact ⟨rfl, by first | exact alike_refl _ | exact alike_drew _⟩
end Go.Proofs.YtgpefiacbipfpaaGreatDoor

namespace Go.Proofs.YtgpefiacbipfpaaGreatDoor
open Go.RowKit Go.Maps
abbrev z3 : List Value := [.bool false, .int .i64 0, .slice none 0 0]
abbrev box6 (l : List Value) : Obj := .cells l.toArray 222 (0, 0)
structure SlotL (w : World) (base : Nat) (l : List Value) (b : Bool) (x : Int) (o : Option (Nat × Bs)) : Prop where
 is : ∃ a m c, l = [.bool b, .int .i64 x, .slice a m c] ∧ (∀ n d, o = some (n, d) → x = IntKind.i64.wrap n ∧ Rd w (.slice a m c) d) ∧ ∀ g, (Value.slice a m c).ownBlock = some g → base ≤ g
 some : b = o.isSome
theorem SlotL.upd {w w' : World} {base : Nat} {l : List Value} {b : Bool} {x : Int} {o : Option (Nat × Bs)} (h : SlotL w base l b x o) {G : List Nat} (u : Upd G w w') (hG : ∀ k ∈ G, k < base) : SlotL w' base l b x o := by
 obtain ⟨⟨a, m, c, h1, h2, h3⟩, h4⟩ := h
 exact ⟨⟨a, m, c, h1, fun n d e => ⟨(h2 n d e).1, (h2 n d e).2.upd u fun g hg q => by have := h3 g hg; have := hG g q; omega⟩, h3⟩, h4⟩
theorem SlotL.base {w : World} {base base' : Nat} {l : List Value} {b : Bool} {x : Int} {o : Option (Nat × Bs)} (h : SlotL w base l b x o) (hb : base' ≤ base) : SlotL w base' l b x o := by
 obtain ⟨⟨a, m, c, h1, h2, h3⟩, h4⟩ := h
 exact ⟨⟨a, m, c, h1, h2, fun g hg => Nat.le_trans hb (h3 g hg)⟩, h4⟩
theorem box_set6 {W : World} {B : Nat} {a0 a1 a2 a3 a4 a5 : Value} {ty : TypeId} (h : W.heap[B]? = some (.cells #[a0, a1, a2, a3, a4, a5] ty (0, 0))) (x0 x1 x2 x3 x4 x5 : Value) :
  ((((((W.setCell ⟨B, 0, none⟩ x0).setCell ⟨B, 1, none⟩ x1).setCell ⟨B, 2, none⟩ x2).setCell ⟨B, 3, none⟩ x3).setCell ⟨B, 4, none⟩ x4).setCell ⟨B, 5, none⟩ x5).heap[B]? = some (.cells #[x0, x1, x2, x3, x4, x5] ty (0, 0)) := by
 rw [heap_setCell, if_pos rfl, heap_setCell, if_pos rfl, heap_setCell, if_pos rfl, heap_setCell, if_pos rfl, heap_setCell, if_pos rfl, heap_setCell, if_pos rfl, h]
 rfl
theorem box_set6d {W : World} {B : Nat} {a0 a1 a2 a3 a4 a5 : Value} {ty : TypeId} (h : W.heap[B]? = some (.cells #[a0, a1, a2, a3, a4, a5] ty (0, 0))) (x0 x1 x2 x3 x4 x5 : Value) :
  ((((((W.setCell ⟨B, 0, none⟩ x0).setCell ⟨B, 1, none⟩ x1).setCell ⟨B, 2, none⟩ x2).setCell ⟨B, 3, none⟩ x3).setCell ⟨B, 4, none⟩ x4).setCell ⟨B, 5, none⟩ x5).drew.heap[B]? = some (.cells #[x0, x1, x2, x3, x4, x5] ty (0, 0)) := by
 rw [heap_drew]
 exact box_set6 h x0 x1 x2 x3 x4 x5
theorem upd_set6 {W : World} {B : Nat} (x0 x1 x2 x3 x4 x5 : Value) : Upd [B] W ((((((W.setCell ⟨B, 0, none⟩ x0).setCell ⟨B, 1, none⟩ x1).setCell ⟨B, 2, none⟩ x2).setCell ⟨B, 3, none⟩ x3).setCell ⟨B, 4, none⟩ x4).setCell ⟨B, 5, none⟩ x5) :=
 ((((((Upd.refl [B] W).setCell (by simp) _ _).setCell (by simp) _ _).setCell (by simp) _ _).setCell (by simp) _ _).setCell (by simp) _ _).setCell (by simp) _ _
theorem box_set6a {W : World} {B : Nat} {a0 a1 a2 a3 a4 a5 : Value} {ty : TypeId} (h : W.heap[B]? = some (.cells #[a0, a1, a2, a3, a4, a5] ty (0, 0))) (x0 x1 x2 : Value) :
  (((W.setCell ⟨B, 0, none⟩ x0).setCell ⟨B, 1, none⟩ x1).setCell ⟨B, 2, none⟩ x2).heap[B]? = some (.cells #[x0, x1, x2, a3, a4, a5] ty (0, 0)) := by
 rw [heap_setCell, if_pos rfl, heap_setCell, if_pos rfl, heap_setCell, if_pos rfl, h]
 rfl
theorem box_set6b {W : World} {B : Nat} {a0 a1 a2 a3 a4 a5 : Value} {ty : TypeId} (h : W.heap[B]? = some (.cells #[a0, a1, a2, a3, a4, a5] ty (0, 0))) (x0 x1 x2 : Value) :
  (((W.setCell ⟨B, 3, none⟩ x0).setCell ⟨B, 4, none⟩ x1).setCell ⟨B, 5, none⟩ x2).heap[B]? = some (.cells #[a0, a1, a2, x0, x1, x2] ty (0, 0)) := by
 rw [heap_setCell, if_pos rfl, heap_setCell, if_pos rfl, heap_setCell, if_pos rfl, h]
 rfl
theorem upd_set3b {W : World} {B : Nat} (x' y' z' : Value) : Upd [B] W (((W.setCell ⟨B, 3, none⟩ x').setCell ⟨B, 4, none⟩ y').setCell ⟨B, 5, none⟩ z') := (((Upd.refl [B] W).setCell (by simp) _ _).setCell (by simp) _ _).setCell (by simp) _ _
theorem slot_any {w : World} {base base' : Nat} {vs : Array Value} {o : Option (Nat × Bs)} {e : Nat} (h : e = 0 → SlotV w base vs o) (h' : e ≠ 0 → SlotV w base vs none) (hb : base' ≤ base) :
  ∃ b x a m c, vs = #[.bool b, .int .i64 x, .slice a m c] ∧ (e = 0 → SlotL w base' [.bool b, .int .i64 x, .slice a m c] b x o) := by
 by_cases he : e = 0
 ·obtain ⟨x, a, m, c, h1, h2, h3⟩ := h he
  exact ⟨_, x, a, m, c, h1, fun _ => ⟨⟨a, m, c, rfl, h2, fun g hg => Nat.le_trans hb (h3 g hg)⟩, rfl⟩⟩
 ·obtain ⟨x, a, m, c, h1, h2, h3⟩ := h' he
  exact ⟨_, x, a, m, c, h1, fun q => absurd q he⟩
theorem ret_both {fn : Func} {R : Ending → World → Prop} {a : Act} {W : World} {B : Nat} {x0 x1 x2 x3 x4 x5 : Value} {ty : TypeId} (hr : fn.results = #[.cell 4 222, .tmp 5, .tmp 6])
  (hs : a.tmps.getD 4 undef = .pointer (some ⟨B, 0, none⟩)) (hb : W.heap[B]? = some (.cells #[x0, x1, x2, x3, x4, x5] ty (0, 0))) (hd : a.defers = []) (h : R (.returned (.tuple #[.agg #[x0, x1, x2, x3, x4, x5], a.tmps.getD 5 undef, a.tmps.getD 6 undef])) W) : bodyPost Tryz.prog fn R .ret a W := by
 refine bodyPost_ret (v := .tuple #[.agg #[x0, x1, x2, x3, x4, x5], a.tmps.getD 5 undef, a.tmps.getD 6 undef]) ?_ hd h
 have z0 := cell_blk hb 0
 have z1 := cell_blk hb 1
 have z2 := cell_blk hb 2
 have z3 := cell_blk hb 3
 have z4 := cell_blk hb 4
 have z5 := cell_blk hb 5
 have hs' := hs
 simp only [Array.getD_eq_getD_getElem?] at hs'
 simp only [List.getElem?_toArray, List.getElem?_cons_zero, List.getElem?_cons_succ] at z0 z1 z2 z3 z4 z5
 simp [results, hr, hs', go_sem, z0, z1, z2, z3, z4, z5]
def BothPost (w : World) (p : Nat) (D : Dev) (F : List Nat) (r : Ending) (w' : World) : Prop :=
 ∃ (e : Nat) (D' : Dev) (b0 : Bool) (x0 : Int) (v0 : Value) (b1 : Bool) (x1 : Int) (v1 : Value) (nw : Int), r = .returned (.tuple #[.agg #[.bool b0, .int .i64 x0, v0, .bool b1, .int .i64 x1, v1], .int .i64 nw, .int .i64 e]) ∧ Eff [] D e D' ∧ DevAt w' p D' F ∧ Upd [p] w w' ∧ (∃ a m c, v0 = .slice a m c) ∧ (∃ a m c, v1 = .slice a m c) ∧
  (e = 0 → SlotL w' w.heap.size [.bool b0, .int .i64 x0, v0] b0 x0 (slotOf (D.blk 0).view) ∧ SlotL w' w.heap.size [.bool b1, .int .i64 x1, v1] b1 x1 (slotOf (D.blk 1).view) ∧ nw = if newerB b1 (if b0 then 0 else -1) x1 x0 then 1 else if b0 then 0 else -1)
set_option maxRecDepth 100000 in
set_option maxHeartbeats 4000000 in
theorem both_ok (w : World) {p : Nat} {D : Dev} {F : List Nat} (h : DevAt w p D F) (hwr : D.wr ≤ 137438953300) :
  Calls Tryz.prog 163 #[.pointer (some ⟨p, 0, none⟩), .int .i64 0] w (BothPost w p D F) := by
 have HD := Lib.hid h
 have hb := h.bounds
 clear h
 go_enter Tryz.func163, Tryz.ntmps163
 go_wp2_with fail
 have HU0 : Hid (Upd [] w (((w.alloc (box6 (z3 ++ z3))).alloc (box6 (z3 ++ z3))).alloc (.cells #[.int .i64 (-1)] 3))) := Lib.hid ((((Upd.refl [] w).alloc _).alloc _).alloc _)
 have HB0 : Hid ((((w.alloc (box6 (z3 ++ z3))).alloc (box6 (z3 ++ z3))).alloc (.cells #[.int .i64 (-1)] 3)).heap[w.heap.size + 1]? = some (box6 (z3 ++ z3)) ∧ (((w.alloc (box6 (z3 ++ z3))).alloc (box6 (z3 ++ z3))).alloc (.cells #[.int .i64 (-1)] 3)).heap[w.heap.size + 1 + 1]? = some (.cells #[.int .i64 (-1)] 3 (0, 0)) ∧ (((w.alloc (box6 (z3 ++ z3))).alloc (box6 (z3 ++ z3))).alloc (.cells #[.int .i64 (-1)] 3)).heap[w.heap.size]? = some (box6 (z3 ++ z3))) :=
  Lib.hid ⟨by rw [heap_alloc, if_neg (by simp), heap_alloc, if_pos (by simp)], by rw [heap_alloc, if_pos (by simp)], by rw [heap_alloc, if_neg (by simp; omega), heap_alloc, if_neg (by simp), heap_alloc, if_pos rfl]⟩
 have hs0 : w.heap.size + 3 ≤ (((w.alloc (box6 (z3 ++ z3))).alloc (box6 (z3 ++ z3))).alloc (.cells #[.int .i64 (-1)] 3)).heap.size := by simp
 change Code.wp _ _ _ _ (((w.alloc (box6 (z3 ++ z3))).alloc (box6 (z3 ++ z3))).alloc (.cells #[.int .i64 (-1)] 3))
 generalize (((w.alloc (box6 (z3 ++ z3))).alloc (box6 (z3 ++ z3))).alloc (.cells #[.int .i64 (-1)] 3)) = W0 at *
 have hpl := HD.out.lt p HD.out.p_mem
 have HFl := Lib.hid HD.out.lt
 go_loopg [14] 2 (fun k v wr => ∃ (i : Nat) (D1 : Dev) (l0 l1 : List Value) (b0 : Bool) (x0 : Int) (b1 : Bool) (x1 nv : Int), v = .int .i64 i ∧ i ≤ 2 ∧ k = 2 - i ∧ Hid (((i = 0 ∧ D1 = D) ∨ (0 < i ∧ Eff [] D 0 D1)) ∧ DevAt wr p D1 F ∧ Upd [p] w wr) ∧
  Hid (wr.heap[w.heap.size + 1]? = some (box6 (l0 ++ l1)) ∧ wr.heap[w.heap.size + 1 + 1]? = some (.cells #[.int .i64 nv] 3 (0, 0)) ∧ wr.heap[w.heap.size]? = some (box6 (z3 ++ z3)) ∧ w.heap.size + 3 ≤ wr.heap.size) ∧
  Hid (i = 0 → l0 = z3 ∧ l1 = z3 ∧ nv = -1) ∧ Hid (0 < i → SlotL wr (w.heap.size + 3) l0 b0 x0 (slotOf (D.blk 0).view)) ∧ Hid (i = 1 → l1 = z3 ∧ nv = if b0 then 0 else -1) ∧ Hid (i = 2 → SlotL wr (w.heap.size + 3) l1 b1 x1 (slotOf (D.blk 1).view) ∧ nv = if newerB b1 (if b0 then 0 else -1) x1 x0 then 1 else if b0 then 0 else -1))
 case atStart =>
  exact ⟨0, D, z3, z3, false, 0, false, 0, -1, rfl, by omega, rfl, Lib.hid ⟨.inl ⟨rfl, rfl⟩, HD.out.upd HU0.out (by simp), HU0.out.mono (by simp)⟩, Lib.hid ⟨HB0.out.1, HB0.out.2.1, HB0.out.2.2, hs0⟩, Lib.hid fun _ => ⟨rfl, rfl, rfl⟩, Lib.hid fun q => by omega, Lib.hid fun q => by omega, Lib.hid fun q => by omega⟩
 case round =>
  obtain ⟨i, D1, l0, l1, b0, x0, b1, x1, nv, rfl, hi, rfl, H1, H2, H3, H4, H5, H6⟩ := hrel
  clear HB0 HU0 hs0
  have hi3 : i = 0 ∨ i = 1 ∨ i = 2 := by omega
  rcases hi3 with rfl | rfl | rfl
  ·obtain ⟨rfl, rfl, rfl⟩ := H3.out rfl
   have hDD : D1 = D := H1.out.1.elim (fun q => q.2) fun q => by omega
   subst hDD
   have hsz := H2.out.2.2.2
   have HRd := Lib.hid (sread_ok wr H1.out.2.1 0 (by omega) (by omega))
   go_wp2_with fail
   refine HRd.out.mono ?_
   rintro r w2 ⟨e, D2, vs, rfl, hE, hD2, hU2, hs, hs'⟩
   obtain ⟨b, x, a, m, c, rfl, hsl⟩ := slot_any hs hs' hsz
   have hpk : ∀ k, w.heap.size ≤ k → k < wr.heap.size → k ∉ [p] := fun k h1 _ => by simp; omega
   have hS := (hU2.block (w.heap.size + 1) (by omega) (hpk _ (by omega) (by omega))).trans H2.out.1
   have hN := (hU2.block (w.heap.size + 1 + 1) (by omega) (hpk _ (by omega) (by omega))).trans H2.out.2.1
   have hR := (hU2.block w.heap.size (by omega) (hpk _ (by omega) (by omega))).trans H2.out.2.2.1
   have G1 := Lib.hid (And.intro hE (And.intro hD2 (H1.out.2.2.trans hU2)))
   have G2 := Lib.hid (And.intro hS (And.intro hN hR))
   have G3 := Lib.hid hsl
   have hsz2 := hU2.size
   have kS := fun X : Obj => (((Upd.refl [] w2).alloc X).block _ (lt_of_blk hS) (by simp)).trans hS
   have kN := fun X : Obj => (((Upd.refl [] w2).alloc X).block _ (lt_of_blk hN) (by simp)).trans hN
   have kR := fun X : Obj => (((Upd.refl [] w2).alloc X).block _ (lt_of_blk hR) (by simp)).trans hR
   have KS := Lib.hid kS
   have KN := Lib.hid kN
   have KR := Lib.hid kR
   have y0 := fun X : Obj => cell_blk (kS X) 0
   have y1 := fun X : Obj => cell_blk (kS X) 1
   have y2 := fun X : Obj => cell_blk (kS X) 2
   have y3 := fun X : Obj => cell_blk (kS X) 3
   have y4 := fun X : Obj => cell_blk (kS X) 4
   have y5 := fun X : Obj => cell_blk (kS X) 5
   have g0 := fun X : Obj => frozen_blk (kS X) 0
   have g1 := fun X : Obj => frozen_blk (kS X) 1
   have g2 := fun X : Obj => frozen_blk (kS X) 2
   have r0 := fun X : Obj => cell_blk (kR X) 0
   have r1 := fun X : Obj => cell_blk (kR X) 1
   have r2 := fun X : Obj => cell_blk (kR X) 2
   have r3 := fun X : Obj => cell_blk (kR X) 3
   have r4 := fun X : Obj => cell_blk (kR X) 4
   have r5 := fun X : Obj => cell_blk (kR X) 5
   have f0 := fun X : Obj => frozen_blk (kR X) 0
   have f1 := fun X : Obj => frozen_blk (kR X) 1
   have f2 := fun X : Obj => frozen_blk (kR X) 2
   have f3 := fun X : Obj => frozen_blk (kR X) 3
   have f4 := fun X : Obj => frozen_blk (kR X) 4
   have f5 := fun X : Obj => frozen_blk (kR X) 5
   simp only [List.cons_append, List.nil_append, List.getElem?_toArray, List.getElem?_cons_zero, List.getElem?_cons_succ] at y0 y1 y2 y3 y4 y5 r0 r1 r2 r3 r4 r5
   clear hS hN hR kS kN kR hE hD2 hU2 hs hs' hsl HRd H3 H4 H5 H6
   by_cases he : e = 0
   ·subst he
    have hSl := G3.out rfl
    have HSl := Lib.hid hSl
    have HT := Lib.hid fun X : Obj => And.intro (box_set6a (KS.out X) (.bool b) (.int .i64 x) (.slice a m c)) (And.intro (((upd_set3 (W := w2.alloc X) (B := w.heap.size + 1) (.bool b) (.int .i64 x) (.slice a m c)).block (w.heap.size + 1 + 1) (lt_of_blk (KN.out X)) (by simp)).trans (KN.out X)) (And.intro (((upd_set3 (W := w2.alloc X) (B := w.heap.size + 1) (.bool b) (.int .i64 x) (.slice a m c)).block w.heap.size (lt_of_blk (KR.out X)) (by simp)).trans (KR.out X)) (((Upd.refl [w.heap.size + 1] w2).alloc X).trans (upd_set3 (W := w2.alloc X) (B := w.heap.size + 1) (.bool b) (.int .i64 x) (.slice a m c)))))
    clear hSl
    go_wp2_with fail
    refine (newer0_ok _ (S := w.heap.size + 1) (N := w.heap.size + 1 + 1) (b := b) (cell_blk (HT.out _).1 0) (cell_blk (HT.out _).2.1 0)).mono ?_
    rintro r w3 ⟨rfl, hAl⟩
    have t1 := (congrArg (·[w.heap.size + 1]?) hAl.1).trans (HT.out _).1
    have t2 := (congrArg (·[w.heap.size + 1 + 1]?) hAl.1).trans (HT.out _).2.1
    have t3 := (congrArg (·[w.heap.size]?) hAl.1).trans (HT.out _).2.2.1
    have t4 := ((HT.out _).2.2.2).alike hAl
    have T1 := Lib.hid (And.intro t1 (And.intro t2 (And.intro t3 t4)))
    have n0 := cell_blk t2 0
    have fn0 := frozen_blk t2 0
    simp only [List.getElem?_toArray, List.getElem?_cons_zero] at n0
    have hsz3 := t4.size
    have U3 : Hid (Upd [w.heap.size + 1, w.heap.size + 1 + 1] w2 w3) := Lib.hid (t4.mono fun k hk _ => by simp at hk ⊢; exact .inl hk)
    clear hAl t1 t2 t3 t4 HT y0 y1 y2 y3 y4 y5 g0 g1 g2 r0 r1 r2 r3 r4 r5 f0 f1 f2 f3 f4 f5
    cases b with
    | true =>
     go_wp2_with fail
     have hu := U3.out.setCell (b := w.heap.size + 1 + 1) (by simp) 0 (.int .i64 0)
     go_roundg 1
     case rel =>
      refine ⟨1, D2, [.bool true, .int .i64 x, .slice a m c], z3, true, x, false, 0, 0, by go_num, by omega, rfl, Lib.hid ⟨.inr ⟨by omega, G1.out.1⟩, G1.out.2.1.upd hu (fun k hk q => by have := HFl.out k hk; simp at q; omega), G1.out.2.2.next hu fun k hk hlt => by simp at hk; omega⟩, Lib.hid ⟨?_, ?_, ?_, ?_⟩, Lib.hid fun q => by omega, Lib.hid fun _ => HSl.out.upd hu (fun k hk => by simp at hk; omega), Lib.hid fun _ => ⟨rfl, rfl⟩, Lib.hid fun q => by omega⟩
      ·rw [heap_setCell, if_neg (by simp)]; exact T1.out.1
      ·rw [heap_setCell, if_pos rfl, T1.out.2.1]; rfl
      ·rw [heap_setCell, if_neg (by omega)]; exact T1.out.2.2.1
      ·simp; omega
     case measure => omega
    | false =>
     go_wp2_with fail
     have hu := U3.out
     go_roundg 1
     case rel =>
      exact ⟨1, D2, [.bool false, .int .i64 x, .slice a m c], z3, false, x, false, 0, -1, by go_num, by omega, rfl, Lib.hid ⟨.inr ⟨by omega, G1.out.1⟩, G1.out.2.1.upd hu (fun k hk q => by have := HFl.out k hk; simp at q; omega), G1.out.2.2.next hu fun k hk hlt => by simp at hk; omega⟩, Lib.hid ⟨T1.out.1, T1.out.2.1, T1.out.2.2.1, by omega⟩, Lib.hid fun q => by omega, Lib.hid fun _ => HSl.out.upd hu (fun k hk => by simp at hk; omega), Lib.hid fun _ => ⟨rfl, rfl⟩, Lib.hid fun q => by omega⟩
     case measure => omega
   ·have he' : ¬ (e : Int) = 0 := by omega
    go_wp2_with fail
    have hb3 := fun X : Obj => box_set6 (KR.out X) (.bool false) (.int .i64 0) (.slice none 0 0) (.bool false) (.int .i64 0) (.slice none 0 0)
    have hu3 := fun X : Obj => ((Upd.refl [w.heap.size] w2).alloc X).trans (upd_set6 (W := w2.alloc X) (B := w.heap.size) (.bool false) (.int .i64 0) (.slice none 0 0) (.bool false) (.int .i64 0) (.slice none 0 0))
    refine ret_both Tryz.results163 rfl (hb3 _) rfl ⟨e, D2, false, 0, .slice none 0 0, false, 0, .slice none 0 0, -1, rfl, G1.out.1, G1.out.2.1.upd (hu3 _) (fun k hk q => by have := HFl.out k hk; simp at q; omega), ?_, ⟨_, _, _, rfl⟩, ⟨_, _, _, rfl⟩, fun q => absurd q he⟩
    exact G1.out.2.2.next (hu3 _) fun k hk hlt => by simp at hk; omega
  ·have hnv := (H5.out rfl).2
   obtain rfl := (H5.out rfl).1
   have H4' := Lib.hid (H4.out (by omega))
   obtain ⟨⟨a0, m0, c0, rfl, -⟩, -⟩ := H4'.out
   have hED : Eff [] D 0 D1 := H1.out.1.elim (fun q => by omega) fun q => q.2
   have hbv : D1.blk = D.blk := hED.up.2.2.2
   have hn1 := hED.n
   have hw1 := hED.wr
   have hv01 : nv = -1 ∨ nv = 0 := by rw [hnv]; cases b0 <;> simp
   have HNV := Lib.hid hnv
   have HED := Lib.hid hED
   clear hnv hED
   have hsz := H2.out.2.2.2
   have HRd := Lib.hid (sread_ok wr H1.out.2.1 1 (by omega) (by simp at hw1; omega))
   go_wp2_with fail
   refine HRd.out.mono ?_
   rintro r w2 ⟨e, D2, vs, rfl, hE, hD2, hU2, hs, hs'⟩
   rw [hbv] at hs
   obtain ⟨b, x, a, m, c, rfl, hsl⟩ := slot_any hs hs' hsz
   have hpk : ∀ k, w.heap.size ≤ k → k < wr.heap.size → k ∉ [p] := fun k h1 _ => by simp; omega
   have hS := (hU2.block (w.heap.size + 1) (by omega) (hpk _ (by omega) (by omega))).trans H2.out.1
   have hN := (hU2.block (w.heap.size + 1 + 1) (by omega) (hpk _ (by omega) (by omega))).trans H2.out.2.1
   have hR := (hU2.block w.heap.size (by omega) (hpk _ (by omega) (by omega))).trans H2.out.2.2.1
   have G1 := Lib.hid (And.intro (HED.out.next hE) (And.intro hD2 (H1.out.2.2.trans hU2)))
   have G2 := Lib.hid (And.intro hS (And.intro hN hR))
   have G3 := Lib.hid hsl
   have UR := Lib.hid hU2
   have hsz2 := hU2.size
   have kS := fun X : Obj => (((Upd.refl [] w2).alloc X).block _ (lt_of_blk hS) (by simp)).trans hS
   have kN := fun X : Obj => (((Upd.refl [] w2).alloc X).block _ (lt_of_blk hN) (by simp)).trans hN
   have kR := fun X : Obj => (((Upd.refl [] w2).alloc X).block _ (lt_of_blk hR) (by simp)).trans hR
   have KS := Lib.hid kS
   have KN := Lib.hid kN
   have KR := Lib.hid kR
   have y0 := fun X : Obj => cell_blk (kS X) 0
   have y1 := fun X : Obj => cell_blk (kS X) 1
   have y2 := fun X : Obj => cell_blk (kS X) 2
   have y3 := fun X : Obj => cell_blk (kS X) 3
   have y4 := fun X : Obj => cell_blk (kS X) 4
   have y5 := fun X : Obj => cell_blk (kS X) 5
   have g0 := fun X : Obj => frozen_blk (kS X) 3
   have g1 := fun X : Obj => frozen_blk (kS X) 4
   have g2 := fun X : Obj => frozen_blk (kS X) 5
   have r0 := fun X : Obj => cell_blk (kR X) 0
   have r1 := fun X : Obj => cell_blk (kR X) 1
   have r2 := fun X : Obj => cell_blk (kR X) 2
   have r3 := fun X : Obj => cell_blk (kR X) 3
   have r4 := fun X : Obj => cell_blk (kR X) 4
   have r5 := fun X : Obj => cell_blk (kR X) 5
   have f0 := fun X : Obj => frozen_blk (kR X) 0
   have f1 := fun X : Obj => frozen_blk (kR X) 1
   have f2 := fun X : Obj => frozen_blk (kR X) 2
   have f3 := fun X : Obj => frozen_blk (kR X) 3
   have f4 := fun X : Obj => frozen_blk (kR X) 4
   have f5 := fun X : Obj => frozen_blk (kR X) 5
   simp only [List.cons_append, List.nil_append, List.getElem?_toArray, List.getElem?_cons_zero, List.getElem?_cons_succ] at y0 y1 y2 y3 y4 y5 r0 r1 r2 r3 r4 r5
   clear hS hN hR kS kN kR hE hD2 hU2 hs hs' hsl HRd H3 H4 H5 H6
   by_cases he : e = 0
   ·subst he
    have hSl := G3.out rfl
    have HSl := Lib.hid hSl
    have HT := Lib.hid fun X : Obj => And.intro (box_set6b (KS.out X) (.bool b) (.int .i64 x) (.slice a m c)) (And.intro (((upd_set3b (W := w2.alloc X) (B := w.heap.size + 1) (.bool b) (.int .i64 x) (.slice a m c)).block (w.heap.size + 1 + 1) (lt_of_blk (KN.out X)) (by simp)).trans (KN.out X)) (And.intro (((upd_set3b (W := w2.alloc X) (B := w.heap.size + 1) (.bool b) (.int .i64 x) (.slice a m c)).block w.heap.size (lt_of_blk (KR.out X)) (by simp)).trans (KR.out X)) (((Upd.refl [w.heap.size + 1] w2).alloc X).trans (upd_set3b (W := w2.alloc X) (B := w.heap.size + 1) (.bool b) (.int .i64 x) (.slice a m c)))))
    clear hSl
    go_wp2_with fail
    refine (newer1_ok _ (S := w.heap.size + 1) (N := w.heap.size + 1 + 1) (b := b) (nv := nv) (c0 := x0) (c1 := x) (cell_blk (HT.out _).1 3) (cell_blk (HT.out _).1 1) (cell_blk (HT.out _).1 4) (cell_blk (HT.out _).2.1 0) hv01).mono ?_
    rintro r w3 ⟨rfl, hAl⟩
    have t1 := (congrArg (·[w.heap.size + 1]?) hAl.1).trans (HT.out _).1
    have t2 := (congrArg (·[w.heap.size + 1 + 1]?) hAl.1).trans (HT.out _).2.1
    have t3 := (congrArg (·[w.heap.size]?) hAl.1).trans (HT.out _).2.2.1
    have t4 := ((HT.out _).2.2.2).alike hAl
    have T1 := Lib.hid (And.intro t1 (And.intro t2 (And.intro t3 t4)))
    have n0 := cell_blk t2 0
    have fn0 := frozen_blk t2 0
    simp only [List.getElem?_toArray, List.getElem?_cons_zero] at n0
    have hsz3 := t4.size
    have U3 : Hid (Upd [w.heap.size + 1, w.heap.size + 1 + 1] w2 w3) := Lib.hid (t4.mono fun k hk _ => by simp at hk ⊢; exact .inl hk)
    clear hAl t1 t2 t3 t4 HT y0 y1 y2 y3 y4 y5 g0 g1 g2 r0 r1 r2 r3 r4 r5 f0 f1 f2 f3 f4 f5
    generalize hnb : newerB b nv x x0 = nb
    have HNB2 := Lib.hid hnb
    clear hnb
    cases nb with
    | true =>
     go_wp2_with fail
     have hu := U3.out.setCell (b := w.heap.size + 1 + 1) (by simp) 0 (.int .i64 1)
     go_roundg 0
     case rel =>
      refine ⟨2, D2, [.bool b0, .int .i64 x0, .slice a0 m0 c0], [.bool b, .int .i64 x, .slice a m c], b0, x0, b, x, 1, by go_num, by omega, rfl, Lib.hid ⟨.inr ⟨by omega, G1.out.1⟩, G1.out.2.1.upd hu (fun k hk q => by have := HFl.out k hk; simp at q; omega), G1.out.2.2.next hu fun k hk hlt => by simp at hk; omega⟩, Lib.hid ⟨?_, ?_, ?_, ?_⟩, Lib.hid fun q => by omega, Lib.hid fun _ => (H4'.out.upd UR.out (fun k hk => by simp at hk; omega)).upd hu (fun k hk => by simp at hk; omega), Lib.hid fun q => by omega, Lib.hid fun _ => ⟨HSl.out.upd hu (fun k hk => by simp at hk; omega), ?_⟩⟩
      ·rw [heap_setCell, if_neg (by simp)]; exact T1.out.1
      ·rw [heap_setCell, if_pos rfl, T1.out.2.1]; rfl
      ·rw [heap_setCell, if_neg (by omega)]; exact T1.out.2.2.1
      ·simp; omega
      ·rw [← HNV.out, HNB2.out]; rfl
     case measure => omega
    | false =>
     go_wp2_with fail
     have hu := U3.out
     go_roundg 0
     case rel =>
      exact ⟨2, D2, [.bool b0, .int .i64 x0, .slice a0 m0 c0], [.bool b, .int .i64 x, .slice a m c], b0, x0, b, x, nv, by go_num, by omega, rfl, Lib.hid ⟨.inr ⟨by omega, G1.out.1⟩, G1.out.2.1.upd hu (fun k hk q => by have := HFl.out k hk; simp at q; omega), G1.out.2.2.next hu fun k hk hlt => by simp at hk; omega⟩, Lib.hid ⟨T1.out.1, T1.out.2.1, T1.out.2.2.1, by omega⟩, Lib.hid fun q => by omega, Lib.hid fun _ => (H4'.out.upd UR.out (fun k hk => by simp at hk; omega)).upd hu (fun k hk => by simp at hk; omega), Lib.hid fun q => by omega, Lib.hid fun _ => ⟨HSl.out.upd hu (fun k hk => by simp at hk; omega), by rw [← HNV.out, HNB2.out]; rfl⟩⟩
     case measure => omega
   ·have he' : ¬ (e : Int) = 0 := by omega
    go_wp2_with fail
    have hb3 := fun X : Obj => box_set6 (KR.out X) (.bool b0) (.int .i64 x0) (.slice a0 m0 c0) (.bool false) (.int .i64 0) (.slice none 0 0)
    have hu3 := fun X : Obj => ((Upd.refl [w.heap.size] w2).alloc X).trans (upd_set6 (W := w2.alloc X) (B := w.heap.size) (.bool b0) (.int .i64 x0) (.slice a0 m0 c0) (.bool false) (.int .i64 0) (.slice none 0 0))
    refine ret_both Tryz.results163 rfl (hb3 _) rfl ⟨e, D2, b0, x0, .slice a0 m0 c0, false, 0, .slice none 0 0, -1, rfl, G1.out.1, G1.out.2.1.upd (hu3 _) (fun k hk q => by have := HFl.out k hk; simp at q; omega), ?_, ⟨_, _, _, rfl⟩, ⟨_, _, _, rfl⟩, fun q => absurd q he⟩
    exact G1.out.2.2.next (hu3 _) fun k hk hlt => by simp at hk; omega
  ·have H4' := Lib.hid (H4.out (by omega))
   have H6' := Lib.hid (H6.out rfl)
   obtain ⟨s1, hnv⟩ := H6'.out
   obtain ⟨⟨a0, m0, c0, rfl, -⟩, -⟩ := H4'.out
   obtain ⟨⟨a1, m1, c1, rfl, -⟩, -⟩ := s1
   have hS := H2.out.1
   have hN := H2.out.2.1
   have hR := H2.out.2.2.1
   have y0 := cell_blk hS 0
   have y1 := cell_blk hS 1
   have y2 := cell_blk hS 2
   have y3 := cell_blk hS 3
   have y4 := cell_blk hS 4
   have y5 := cell_blk hS 5
   have yn := cell_blk hN 0
   have r0 := cell_blk hR 0
   have r1 := cell_blk hR 1
   have r2 := cell_blk hR 2
   have r3 := cell_blk hR 3
   have r4 := cell_blk hR 4
   have r5 := cell_blk hR 5
   have f0 := frozen_blk hR 0
   have f1 := frozen_blk hR 1
   have f2 := frozen_blk hR 2
   have f3 := frozen_blk hR 3
   have f4 := frozen_blk hR 4
   have f5 := frozen_blk hR 5
   simp only [List.cons_append, List.nil_append, List.getElem?_toArray, List.getElem?_cons_zero, List.getElem?_cons_succ] at y0 y1 y2 y3 y4 y5 yn r0 r1 r2 r3 r4 r5
   have HNV := Lib.hid hnv
   clear hS hN hR hnv
   go_wp2_with fail
   go_region
   go_wp2_with fail
   have hb3 := box_set6d H2.out.2.2.1 (.bool b0) (.int .i64 x0) (.slice a0 m0 c0) (.bool b1) (.int .i64 x1) (.slice a1 m1 c1)
   have hu3 := (upd_set6 (W := wr) (B := w.heap.size) (.bool b0) (.int .i64 x0) (.slice a0 m0 c0) (.bool b1) (.int .i64 x1) (.slice a1 m1 c1)).drew
   have hE : Eff [] D 0 D1 := H1.out.1.elim (fun q => by omega) fun q => q.2
   refine ret_both Tryz.results163 rfl hb3 rfl ⟨0, D1, b0, x0, .slice a0 m0 c0, b1, x1, .slice a1 m1 c1, nv, rfl, hE, H1.out.2.1.upd hu3 (fun k hk q => by have := HFl.out k hk; simp at q; omega), ?_, ⟨_, _, _, rfl⟩, ⟨_, _, _, rfl⟩, fun _ => ?_⟩
   ·exact H1.out.2.2.next hu3 fun k hk hlt => by simp at hk; omega
   ·exact ⟨(H4'.out.upd hu3 (fun k hk => by simp at hk; omega)).base (by omega), (H6'.out.1.upd hu3 (fun k hk => by simp at hk; omega)).base (by omega), HNV.out⟩
end Go.Proofs.YtgpefiacbipfpaaGreatDoor

namespace Go.Proofs.YtgpefiacbipfpaaGreatDoor
open Go.RowKit Go.Maps
structure NewSlot (f : Nat → Bs) (i c : Nat) (d : Bs) : Prop where
 two : i < 2
 is : slotOf (f i) = some (c, d)
 old : ∀ c' d', slotOf (f (1 - i)) = some (c', d') → c' ≤ c
def NoSlot (f : Nat → Bs) : Prop := slotOf (f 0) = none ∧ slotOf (f 1) = none
def FewSlot (f : Nat → Bs) : Prop := ∀ i c d, i < 2 → slotOf (f i) = some (c, d) → c < 4611686018427387904
theorem Upd.drewN {F : List Nat} {w w' : World} (h : Upd F w w') (n : Nat) : Upd F w (w'.drewN n) := ⟨h.os, h.output, h.size, h.block⟩
theorem pick_slot {w : World} {base : Nat} {f : Nat → Bs} (hf : FewSlot f) {b0 b1 : Bool} {x0 x1 : Int} {v0 v1 : Value} {nw : Int} (h0 : SlotL w base [.bool b0, .int .i64 x0, v0] b0 x0 (slotOf (f 0))) (h1 : SlotL w base [.bool b1, .int .i64 x1, v1] b1 x1 (slotOf (f 1)))
  (hn : nw = if newerB b1 (if b0 then 0 else -1) x1 x0 then 1 else if b0 then 0 else -1) :
  (nw = -1 ∧ NoSlot f) ∨ (nw = 0 ∧ ∃ c d, NewSlot f 0 c d ∧ x0 = c ∧ Rd w v0 d) ∨ (nw = 1 ∧ ∃ c d, NewSlot f 1 c d ∧ x1 = c ∧ Rd w v1 d) := by
 obtain ⟨⟨a0, m0, c0, e0, r0, -⟩, s0⟩ := h0
 obtain ⟨⟨a1, m1, c1, e1, r1, -⟩, s1⟩ := h1
 simp only [List.cons.injEq, and_true, true_and] at e0 e1
 subst e0
 subst e1
 have w64 : ∀ c : Nat, c < 4611686018427387904 → IntKind.i64.wrap (c : Int) = c := fun c hc => IntWalk.i64_in _ (by omega)
 cases h0 : slotOf (f 0) with
 | none =>
  rw [h0] at s0 r0
  cases h1 : slotOf (f 1) with
  | none =>
   rw [h1] at s1
   simp only [Option.isSome_none] at s0 s1
   subst s0 s1
   exact .inl ⟨by rw [hn]; rfl, h0, h1⟩
  | some y =>
   obtain ⟨c, d⟩ := y
   rw [h1] at s1 r1
   simp only [Option.isSome_none, Option.isSome_some] at s0 s1
   subst s0 s1
   have := r1 c d rfl
   refine .inr (.inr ⟨by rw [hn]; rfl, c, d, ⟨by omega, h1, fun c' d' q => ?_⟩, ?_, this.2⟩)
   ·rw [show 1 - 1 = 0 from rfl, h0] at q; cases q
   ·rw [this.1]; exact w64 c (hf 1 c d (by omega) h1)
 | some y =>
  obtain ⟨c, d⟩ := y
  rw [h0] at s0 r0
  have g0 := r0 c d rfl
  have e0 : x0 = c := by rw [g0.1]; exact w64 c (hf 0 c d (by omega) h0)
  cases h1 : slotOf (f 1) with
  | none =>
   rw [h1] at s1
   simp only [Option.isSome_none, Option.isSome_some] at s0 s1
   subst s0 s1
   refine .inr (.inl ⟨by rw [hn]; rfl, c, d, ⟨by omega, h0, fun c' d' q => ?_⟩, e0, g0.2⟩)
   rw [show 1 - 0 = 1 from rfl, h1] at q; cases q
  | some z =>
   obtain ⟨c2, d2⟩ := z
   rw [h1] at s1 r1
   have g1 := r1 c2 d2 rfl
   have e1 : x1 = c2 := by rw [g1.1]; exact w64 c2 (hf 1 c2 d2 (by omega) h1)
   simp only [Option.isSome_some] at s0 s1
   subst s0 s1
   by_cases hlt : x0 < x1
   ·refine .inr (.inr ⟨by rw [hn]; simp [newerB, hlt], c2, d2, ⟨by omega, h1, fun c' d' q => ?_⟩, e1, g1.2⟩)
    rw [show 1 - 1 = 0 from rfl, h0] at q; cases q; omega
   ·refine .inr (.inl ⟨by rw [hn]; simp [newerB, hlt], c, d, ⟨by omega, h0, fun c' d' q => ?_⟩, e0, g0.2⟩)
    rw [show 1 - 0 = 1 from rfl, h1] at q; cases q; omega
def LoadPost (w : World) (p : Nat) (D : Dev) (F : List Nat) (r : Ending) (w' : World) : Prop :=
 ∃ (e : Nat) (D' : Dev) (v : Value) (x : Int), r = .returned (.tuple #[v, .int .i64 x, .int .i64 e]) ∧ DevAt w' p D' F ∧ Upd [p] w w' ∧
  ((e = 2 ∧ Eff [] D 2 D' ∧ v = .slice none 0 0) ∨ (e = 30 ∧ Eff [] D 0 D' ∧ NoSlot (fun i => (D.blk i).view) ∧ v = .slice none 0 0) ∨ (e = 0 ∧ Eff [] D 0 D' ∧ ∃ i c d, NewSlot (fun i => (D.blk i).view) i c d ∧ x = c ∧ Rd w' v d))
set_option maxRecDepth 100000 in
set_option maxHeartbeats 4000000 in
theorem load_ok (w : World) {p : Nat} {D : Dev} {F : List Nat} (h : DevAt w p D F) (hwr : D.wr ≤ 137438953300) (hf : FewSlot fun i => (D.blk i).view) :
  Calls Tryz.prog 128 #[.pointer (some ⟨p, 0, none⟩), .int .i64 0] w (LoadPost w p D F) := by
 have HW := Lib.hid (wrong_ok w h)
 have HB := Lib.hid (both_ok w h hwr)
 have HFl := Lib.hid h.lt
 have HF := Lib.hid hf
 clear h hf
 go_enter Tryz.func128, Tryz.ntmps128
 go_wp2_with fail
 refine HW.out.mono ?_
 rintro r w0 ⟨rfl, rfl⟩
 clear HW
 go_wp2_with fail
 refine HB.out.mono ?_
 rintro r w1 ⟨e, D', b0, x0, v0, b1, x1, v1, nw, rfl, hE, hD', hU, hv0, hv1, hs⟩
 have H1 := Lib.hid (And.intro hE (And.intro hD' hU))
 have HK : Hid (∀ X : Obj, Upd [p] w0 (w1.alloc X) ∧ DevAt (w1.alloc X) p D' F) := Lib.hid fun X => ⟨hU.alloc X, hD'.upd ((Upd.refl [] w1).alloc X) (by simp)⟩
 have HQ : Hid (∀ (X : Obj) (n : Nat), Upd [p] w0 ((w1.alloc X).drewN n) ∧ DevAt ((w1.alloc X).drewN n) p D' F ∧ Upd [] w1 ((w1.alloc X).drewN n)) := Lib.hid fun X n => ⟨(hU.alloc X).drewN n, hD'.upd (((Upd.refl [] w1).alloc X).drewN n) (by simp), ((Upd.refl [] w1).alloc X).drewN n⟩
 obtain ⟨a0, m0, c0, rfl⟩ := hv0
 obtain ⟨a1, m1, c1, rfl⟩ := hv1
 by_cases he : e = 0
 ·subst he
  obtain ⟨t0, t1, t2⟩ := hs rfl
  have HP := pick_slot HF.out t0 t1 t2
  clear hE hD' hU hs t0 t1 t2 HB
  rcases HP with ⟨rfl, hp⟩ | ⟨rfl, c, d, hp, rfl, hr⟩ | ⟨rfl, c, d, hp, rfl, hr⟩
  ·have HP := Lib.hid hp
   clear hp
   go_wp2_with fail
   go_ret3
   exact ⟨30, D', _, _, rfl, (HK.out _).2, (HK.out _).1, .inr (.inl ⟨rfl, H1.out.1, HP.out, rfl⟩)⟩
  ·have HP := Lib.hid (And.intro hp hr)
   clear hp hr
   go_wp2_with fail
   go_quiet (fail)
   go_wp2_with fail
   go_ret3
   exact ⟨0, D', _, _, rfl, (HQ.out _ _).2.1, (HQ.out _ _).1, .inr (.inr ⟨rfl, H1.out.1, 0, c, d, HP.out.1, rfl, HP.out.2.keep (HQ.out _ _).2.2⟩)⟩
  ·have HP := Lib.hid (And.intro hp hr)
   clear hp hr
   go_wp2_with fail
   go_quiet (fail)
   go_wp2_with fail
   go_ret3
   exact ⟨0, D', _, _, rfl, (HQ.out _ _).2.1, (HQ.out _ _).1, .inr (.inr ⟨rfl, H1.out.1, 1, c, d, HP.out.1, rfl, HP.out.2.keep (HQ.out _ _).2.2⟩)⟩
 ·have he2 := (H1.out.1.dn he).1
  subst he2
  clear hE hD' hU hs HB
  go_wp2_with fail
  go_ret3
  exact ⟨2, D', _, _, rfl, (HK.out _).2, (HK.out _).1, .inl ⟨rfl, H1.out.1, rfl⟩⟩
end Go.Proofs.YtgpefiacbipfpaaGreatDoor
