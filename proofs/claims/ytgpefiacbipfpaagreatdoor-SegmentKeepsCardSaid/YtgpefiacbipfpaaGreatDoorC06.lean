/- The device in memory; New, Blocks, operate, Fuse, Down. Sorted lists as maps read: whatever their elements. The device's Read. The device's Write. -/
import Derived.Maps.OwnSet
import Derived.OwnWalk
import Derived.Maps.RangeWalk
import Derived.Maps.Ext
import Derived.Deep.MidRow
import Derived.Deep.WholeRow
import Derived.Great.BuildSlice
import Derived.Laws.Cover3
import Derived.Test.YtgpefiacbipfpaaGreatDoorC05
namespace Go.Proofs.YtgpefiacbipfpaaGreatDoor
open Go.RowKit Go.Maps
def b512 (b : Bs) : Bs := (b ++ List.replicate 512 0).take 512
theorem b512_len (b : Bs) : (b512 b).length = 512 := by rw [b512, List.length_take, List.length_append, List.length_replicate]; omega
theorem b512_of {b : Bs} (h : b.length = 512) : b512 b = b := by unfold b512; rw [← h, List.take_left']; rfl
def cK (b : Bs) : List Value := (b512 b).map fun x => .int .u8 x.toNat
theorem cK_len (b : Bs) : (cK b).length = 512 := by rw [cK, List.length_map, b512_len]
theorem cK_of {b : Bs} (h : b.length = 512) : cK b = b.map fun x => .int .u8 x.toNat := by rw [cK, b512_of h]
theorem oneK (l : List Bs) : ∀ x ∈ l, ∀ u ∈ cK x, u.oneCell' = true := by
 intro x _ u hu
 obtain ⟨y, -, rfl⟩ := List.mem_map.1 hu
 rfl
theorem infoK : (Tryz.prog.info? 121).map (fun i => (i.zero, i.size, i.bytes)) = some (some (.agg (Array.replicate 512 (.int .u8 0))), 512, 512) := by kernel_rfl
theorem cK_zero : cK zeroB = List.replicate 512 (.int .u8 0) := by
 rw [cK_of zeroB_len, zeroB, List.map_replicate]; rfl
theorem TK : RowT cK 512 512 116 121 where
 len := cK_len
 pos := by omega
 und := Tryz.underlying116
 info := by
  obtain ⟨i, h, h1, h2, h3⟩ := info_parts infoK
  exact ⟨i, _, h, h1, h2, h3, by show (Array.replicate 512 _).size = 512; rw [Array.size_replicate]⟩
def opq (v : Value) : Option (DataW Value × List MemPlace) := some (.held v, [])
def dataI (L : List (Nat × Value)) : DataW Value := .map (L.map fun p => (.int .i64 p.1, .held p.2))
def ltI (a b : Nat) : Bool := decide (a < b)
theorem ordI : Ord ltI := ⟨fun a => by simp [ltI], fun a b c h g => by simp [ltI] at *; omega, fun a b => by simp only [ltI, decide_eq_true_eq]; omega⟩
theorem lawI : Keyed Tryz.prog 3 := int_keyed Tryz.underlying3
abbrev boxD (sb n mb : Nat) (fuse : Int) (down : Bool) (ops : Int) : Obj := .cells #[.slice (some ⟨sb, 0, none⟩) n n, .map (some mb), .int .i64 fuse, .bool down, .int .i64 ops] 119 (0, 0)
def safeL (D : Dev) : List Bs := (List.range D.n).map fun i => (D.blk i).safe
abbrev blkOfV (v : Value) : Nat := v.ownBlock.getD 0
abbrev footD (p sb mb : Nat) (L : List (Nat × Value)) : List Nat := p :: sb :: mb :: L.map fun x => blkOfV x.2
structure DevR (w : World) (p : Nat) (D : Dev) (sb mb : Nat) (L : List (Nat × Value)) (ops : Int) : Prop where
 box : w.heap[p]? = some (boxD sb D.n mb D.fuse D.down ops)
 safe : w.heap[sb]? = some (.cells (flatG cK (safeL D)).toArray 121 (0, 0))
 map : w.ownsMap (H := Value) Tryz.prog 3 opq mb L.length (dataI L)
 srt : Srt ltI L
 row : ∀ x ∈ L, OwnG cK 121 512 w 0 x.2 (D.blk x.1).pend ∧ (D.blk x.1).pend ≠ [] ∧ x.1 < D.n
 rest : ∀ i, getA L i = none → (D.blk i).pend = []
 nodup : (footD p sb mb L).Nodup
 n1 : 64 ≤ D.n
 n2 : D.n ≤ 512
 f1 : -1 ≤ D.fuse
 f2 : D.fuse ≤ 9223372036854775807
 sized : Sized D.blk
 cnt : ∀ i, (D.blk i).pend.length ≤ D.wr
def DevAt (w : World) (p : Nat) (D : Dev) (F : List Nat) : Prop := ∃ sb mb L ops, DevR w p D sb mb L ops ∧ F = footD p sb mb L
structure Ticked (w w' : World) (p sb n mb : Nat) (D : Dev) (e : Nat) (fuse : Int) (down : Bool) (ops : Int) : Prop where
 box : w'.heap[p]? = some (boxD sb n mb fuse down ops)
 upd : Upd [p] w w'
 f1 : -1 ≤ fuse
 f2 : fuse ≤ 9223372036854775807
 out : (e = 0 ∧ D.down = false ∧ down = false ∧ (D.fuse < 0 → fuse < 0)) ∨ (e = 2 ∧ (D.down = false → 0 ≤ D.fuse) ∧ down = true)
theorem box_put {W : World} {p sb n mb : Nat} {fuse ops : Int} {down : Bool} (h : W.heap[p]? = some (boxD sb n mb fuse down ops)) :
  (∀ b, (W.setCell ⟨p, 3, none⟩ (.bool b)).heap[p]? = some (boxD sb n mb fuse b ops)) ∧ (∀ f, (W.setCell ⟨p, 2, none⟩ (.int .i64 f)).heap[p]? = some (boxD sb n mb f down ops)) ∧ (∀ o, (W.setCell ⟨p, 4, none⟩ (.int .i64 o)).heap[p]? = some (boxD sb n mb fuse down o)) := by
 refine ⟨fun b => ?_, fun f => ?_, fun o => ?_⟩ <;> (rw [heap_setCell, if_pos rfl, h]; rfl)
def OperPost (w : World) (p sb mb : Nat) (D : Dev) (r : Ending) (w' : World) : Prop := ∃ (e : Nat) (fuse : Int) (down : Bool) (ops' : Int), r = .returned (.int .i64 e) ∧ Ticked w w' p sb D.n mb D e fuse down ops'
set_option maxRecDepth 100000 in
set_option maxHeartbeats 2000000 in
theorem operate_ok (w : World) {p : Nat} {D : Dev} {sb mb : Nat} {L : List (Nat × Value)} {ops : Int} (h : DevR w p D sb mb L ops) (n : Nat) (hn : n < D.n) :
  Calls Tryz.prog 149 #[.pointer (some ⟨p, 0, none⟩), .int .i64 n, .int .i64 0] w (OperPost w p sb mb D) := by
 have c0 := cell_blk h.box 0
 have c2 := cell_blk h.box 2
 have c3 := cell_blk h.box 3
 have c4 := cell_blk h.box 4
 have fz2 := frozen_blk h.box 2
 have fz3 := frozen_blk h.box 3
 have fz4 := frozen_blk h.box 4
 simp only [List.getElem?_toArray, List.getElem?_cons_succ, List.getElem?_cons_zero] at c0 c2 c3 c4
 have HB := Lib.hid h.box
 have hf1 := h.f1
 have hf2 := h.f2
 have hn2 := h.n2
 obtain ⟨N, blk, F, dn, wr⟩ := D
 dsimp only at *
 have l1 : ¬ (n : Int) < 0 := by omega
 have l2 : ¬ (N : Int) ≤ (n : Int) := by omega
 clear h
 cases dn with
 | true =>
  go_enter Tryz.func149, Tryz.ntmps149
  go_wp2_with fail
  go_ret
  exact ⟨2, F, true, ops, rfl, HB.out, Upd.refl _ _, hf1, hf2, .inr ⟨rfl, by simp, rfl⟩⟩
 | false =>
  by_cases h0 : F = 0
  ·subst h0
   go_enter Tryz.func149, Tryz.ntmps149
   go_wp2_with fail
   go_ret
   exact ⟨2, 0, true, ops, rfl, (box_put HB.out).1 _, (Upd.refl _ _).setCell (by simp) _ _, hf1, hf2, .inr ⟨rfl, by simp, rfl⟩⟩
  ·by_cases h1 : 0 < F
   ·go_enter Tryz.func149, Tryz.ntmps149
    go_wp2_with fail
    go_ret
    exact ⟨0, F - 1, false, _, rfl, (box_put ((box_put HB.out).2.1 (F - 1))).2.2 _, ((Upd.refl _ _).setCell (by simp) _ _).setCell (by simp) _ _, by omega, by omega, .inl ⟨rfl, rfl, rfl, fun q => by dsimp only at q; omega⟩⟩
   ·go_enter Tryz.func149, Tryz.ntmps149
    go_wp2_with fail
    go_ret
    exact ⟨0, F, false, _, rfl, (box_put HB.out).2.2 _, (Upd.refl _ _).setCell (by simp) _ _, hf1, hf2, .inl ⟨rfl, rfl, rfl, id⟩⟩
set_option maxRecDepth 100000 in
theorem blocks_ok (w : World) {p : Nat} {D : Dev} {F : List Nat} (h : DevAt w p D F) : Calls Tryz.prog 125 #[.pointer (some ⟨p, 0, none⟩)] w fun r w' => r = .returned (.int .i64 D.n) ∧ w' = w := by
 obtain ⟨sb, mb, L, ops, h, -⟩ := h
 have c0 := cell_blk h.box 0
 simp only [List.getElem?_toArray, List.getElem?_cons_zero] at c0
 have hn2 := h.n2
 generalize D.n = N at *
 clear h
 go_enter Tryz.func125, Tryz.ntmps125
 go_wp2_with fail
 go_ret
 exact ⟨rfl, rfl⟩
set_option maxRecDepth 100000 in
theorem down_ok (w : World) {p : Nat} {D : Dev} {F : List Nat} (h : DevAt w p D F) : Calls Tryz.prog 147 #[.pointer (some ⟨p, 0, none⟩)] w fun r w' => r = .returned (.bool D.down) ∧ w' = w := by
 obtain ⟨sb, mb, L, ops, h, -⟩ := h
 have c3 := cell_blk h.box 3
 simp only [List.getElem?_toArray, List.getElem?_cons_zero, List.getElem?_cons_succ] at c3
 generalize D.down = b at *
 clear h
 go_enter Tryz.func147, Tryz.ntmps147
 go_wp2_with fail
 go_ret
 exact ⟨rfl, rfl⟩
theorem DevR.boxed {w w' : World} {p : Nat} {D : Dev} {sb mb : Nat} {L : List (Nat × Value)} {ops : Int} (h : DevR w p D sb mb L ops) {fuse : Int} {down : Bool} {ops' : Int}
  (hb : w'.heap[p]? = some (boxD sb D.n mb fuse down ops')) (hu : Upd [p] w w') (f1 : -1 ≤ fuse) (f2 : fuse ≤ 9223372036854775807) : DevR w' p { D with fuse := fuse, down := down } sb mb L ops' := by
 have hnd := h.nodup
 simp only [footD, List.nodup_cons, List.mem_cons, not_or] at hnd
 refine ⟨hb, ?_, ?_, h.srt, fun x hx => ?_, h.rest, h.nodup, h.n1, h.n2, f1, f2, h.sized, h.cnt⟩
 ·exact (hu.block sb (lt_of_blk h.safe) (by simp; exact fun q => hnd.1.1 q.symm)).trans h.safe
 ·obtain ⟨es, ck, hbm, r⟩ := h.map
  exact ⟨es, ck, (hu.block mb (lt_of_blk hbm) (by simp; exact fun q => hnd.1.2.1 q.symm)).trans hbm, r⟩
 ·obtain ⟨h1, h2, h3⟩ := h.row x hx
  refine ⟨h1.upd hu fun j hj q => ?_, h2, h3⟩
  obtain rfl := List.mem_singleton.1 hj
  exact hnd.1.2.2 (List.mem_map.2 ⟨x, hx, by simp [blkOfV, q]⟩)
theorem DevR.ticked {w w' : World} {p : Nat} {D : Dev} {sb mb : Nat} {L : List (Nat × Value)} {ops : Int} (h : DevR w p D sb mb L ops) {e : Nat} {fuse : Int} {down : Bool} {ops' : Int} (t : Ticked w w' p sb D.n mb D e fuse down ops') :
  DevR w' p { D with fuse := fuse, down := down } sb mb L ops' := h.boxed t.box t.upd t.f1 t.f2
set_option maxRecDepth 100000 in
set_option maxHeartbeats 1000000 in
theorem fuse_ok (w : World) {p : Nat} {D : Dev} {F : List Nat} (h : DevAt w p D F) (hd : D.down = false) (k : Int) (hk : -9223372036854775808 ≤ k) (hk2 : k ≤ 9223372036854775807) :
  Calls Tryz.prog 123 #[.pointer (some ⟨p, 0, none⟩), .int .i64 k] w fun r w' => r = .returned (.int .i64 0) ∧ DevAt w' p { D with fuse := max k (-1) } F ∧ Upd [p] w w' := by
 obtain ⟨sb, mb, L, ops, h, rfl⟩ := h
 have c2 := cell_blk h.box 2
 have c3 := cell_blk h.box 3
 have fz2 := frozen_blk h.box 2
 simp only [List.getElem?_toArray, List.getElem?_cons_zero, List.getElem?_cons_succ] at c2 c3
 rw [hd] at c3
 have HB := Lib.hid h.box
 have HD := Lib.hid (fun (w' : World) (h1 : w'.heap[p]? = some (boxD sb D.n mb (max k (-1)) D.down ops)) (h2 : Upd [p] w w') => h.boxed (fuse := max k (-1)) (down := D.down) (ops' := ops) h1 h2 (by omega) (by omega))
 rw [hd] at HB
 generalize hE : D.fuse = E at *
 generalize hN : D.n = N at *
 clear h hE
 go_enter Tryz.func123, Tryz.ntmps123
 go_wp2_with fail
 ·go_ret
  have e : max k (-1) = -1 := by omega
  have hU : Upd [p] w (w.setCell ⟨p, 2, none⟩ (.int .i64 (-1))) := (Upd.refl _ _).setCell (by simp) _ _
  have := HD.out _ (by rw [e, hd]; exact (box_put HB.out).2.1 _) hU
  rw [hd] at this
  exact ⟨rfl, ⟨sb, mb, L, ops, this, rfl⟩, hU⟩
 ·go_ret
  have e : max k (-1) = k := by omega
  have hU : Upd [p] w (w.setCell ⟨p, 2, none⟩ (.int .i64 k)) := (Upd.refl _ _).setCell (by simp) _ _
  have := HD.out _ (by rw [e, hd]; exact (box_put HB.out).2.1 _) hU
  rw [hd] at this
  exact ⟨rfl, ⟨sb, mb, L, ops, this, rfl⟩, hU⟩
end Go.Proofs.YtgpefiacbipfpaaGreatDoor

namespace Go.Proofs.YtgpefiacbipfpaaGreatDoor
open Go.RowKit Go.Maps
structure KeyL {κ : Type} [DecidableEq κ] (lt : κ → κ → Bool) (kl : κ → Lit) : Prop where
 ord : Ord lt
 same : ∀ a b, (kl a).sameKey (kl b) = decide (a = b)
 before : ∀ a b, (kl a).before (kl b) = lt a b
section
variable {κ : Type} [DecidableEq κ] {lt : κ → κ → Bool} {kl : κ → Lit} (K : KeyL lt kl)
def dataA (kl : κ → Lit) (L : List (κ × Value)) : DataW Value := .map (L.map fun p => (kl p.1, .held p.2))
include K
theorem has_dataA (L : List (κ × Value)) (k : κ) : Maps.has (dataA kl L) (kl k) = (getA L k).isSome := by
 unfold dataA
 rw [Maps.has_eq, List.any_map]
 induction L with
 | nil => rfl
 | cons x L ih =>
  rw [List.any_cons, ih, getA_cons]
  show ((kl x.1).sameKey (kl k) || _) = _
  rw [K.same]
  by_cases h : x.1 = k <;> simp [h]
end
section
variable {κ : Type} {lt : κ → κ → Bool} {kl : κ → Lit}
theorem size_dataA (L : List (κ × Value)) : Maps.size (dataA kl L) = L.length := by
 unfold dataA
 rw [Maps.size_eq, List.length_map]
end
section
variable {κ : Type} [DecidableEq κ] {lt : κ → κ → Bool} {kl : κ → Lit}
variable (K : KeyL lt kl)
include K
theorem at_dataA (L : List (κ × Value)) (k : κ) (z : DataW Value) : (dataA kl L).atKey (kl k) z = match getA L k with | some v => .held v | none => z := by
 unfold dataA DataW.atKey getA
 dsimp only
 rw [List.find?_map]
 have : ((fun p : Lit × DataW Value => p.1.sameKey (kl k)) ∘ fun p : κ × Value => (kl p.1, DataW.held p.2)) = fun p : κ × Value => decide (p.1 = k) := by
  funext x
  exact K.same _ _
 rw [this]
 cases L.find? (fun p => decide (p.1 = k)) <;> rfl
theorem del_dataA (L : List (κ × Value)) (k : κ) : (dataA kl L).del (kl k) = dataA kl (delA L k) := by
 unfold dataA DataW.del delA
 dsimp only
 congr 1
 rw [List.filter_map]
 congr 1
 apply List.filter_congr
 intro x _
 show (!(kl x.1).sameKey (kl k)) = _
 rw [K.same]
theorem put_dataA {L : List (κ × Value)} (hs : Srt lt L) (k : κ) (v : Value) : (dataA kl L).put (kl k) (.held v) = dataA kl (putA lt L k v) := by
 have hd := del_dataA K L k
 unfold dataA DataW.del at hd
 unfold dataA DataW.put
 dsimp only at hd ⊢
 simp only [DataW.map.injEq] at hd
 rw [hd]
 clear hd
 congr 1
 induction L with
 | nil => rfl
 | cons x L ih =>
  have hdel : delA (x :: L) k = if x.1 = k then delA L k else x :: delA L k := by
   unfold delA
   rw [List.filter_cons]
   by_cases h : x.1 = k <;> simp [h]
  have hall : (∀ p ∈ L, p.1 ≠ k) → delA L k = L := fun hm => List.filter_eq_self.2 fun p hp => by simp [hm p hp]
  rw [hdel]
  simp only [putA]
  by_cases hx : lt x.1 k = true
  ·have hne := K.ord.ne hx
   rw [if_pos hx, if_neg hne, List.map_cons, List.map_cons, DataW.insert]
   show (if (kl k).before (kl x.1) = true then _ else _) = _
   rw [K.before, K.ord.asymm hx, if_neg (by simp), ih hs.tail]
  ·rw [if_neg hx]
   by_cases hk : x.1 = k
   ·rw [if_pos hk, if_pos hk, hall fun p hp => by have := K.ord.ne (hs.head p hp); rw [hk] at this; exact Ne.symm this]
    cases L with
    | nil => rfl
    | cons y L =>
     have h1 := hs.head y (by simp)
     rw [List.map_cons, DataW.insert]
     show (if (kl k).before (kl y.1) = true then _ else _) = _
     rw [K.before, ← hk, h1]
     simp
   ·have hkx : lt k x.1 = true := by
     rcases K.ord.total k x.1 with e | e | e
     ·exact absurd e.symm hk
     ·exact e
     ·exact absurd e hx
    rw [if_neg hk, if_neg hk, hall fun p hp => Ne.symm (K.ord.ne (K.ord.trans _ _ _ hkx (hs.head p hp))), List.map_cons, DataW.insert]
    show (if (kl k).before (kl x.1) = true then _ else _) = _
    rw [K.before, hkx]
    simp
end
theorem keyI : KeyL ltI fun n : Nat => Lit.int .i64 n where
 ord := ordI
 same := fun a b => by
  show decide (_ ∧ _) = _
  simp only [true_and]
  exact decide_eq_decide.2 ⟨fun h => by omega, fun h => by rw [h]⟩
 before := fun a b => by
  show decide _ = decide _
  exact decide_eq_decide.2 ⟨fun h => by omega, fun h => by omega⟩
theorem keyS : KeyL ltN Lit.string where
 ord := ordN
 same := fun a b => by
  show (a == b) = _
  by_cases h : a = b
  ·subst h; simp
  ·simp [h]
 before := fun a b => by
  show bytesBefore _ _ = Op.bytesLess _ _
  induction a generalizing b with
  | nil => cases b <;> rfl
  | cons a x ih => cases b with
   | nil => rfl
   | cons b y => simp only [bytesBefore, Op.bytesLess, ih]
theorem dataI_eq (L : List (Nat × Value)) : dataI L = dataA (fun n : Nat => Lit.int .i64 n) L := rfl
theorem lawS : Keyed Tryz.prog 9 := string_keyed Tryz.underlying9
abbrev MapI (w : World) (mb : Nat) (L : List (Nat × Value)) : Prop := w.ownsMap (H := Value) Tryz.prog 3 opq mb L.length (dataI L)
abbrev MapS (w : World) (mb : Nat) (L : List (Bs × Value)) : Prop := w.ownsMap (H := Value) Tryz.prog 9 opq mb L.length (dataA Lit.string L)
theorem ownsMap_tight {H : Type} {P : Program} {k : TypeId} {R : Value → Option (DataW H × List MemPlace)} {w : World} {b n : Nat} {D : DataW H} (h : w.ownsMap P k R b n D) : w.ownsMap P k R b (Maps.size D) D := by
 obtain ⟨es, clock, hb, F, hs, rfl⟩ := h
 exact ⟨es, clock, hb, F, by rw [Maps.size_eq, length_sorted]; simp, rfl⟩
theorem MapI.of {w : World} {mb n : Nat} {L : List (Nat × Value)} (h : w.ownsMap (H := Value) Tryz.prog 3 opq mb n (dataI L)) : MapI w mb L := by
 have := ownsMap_tight h
 rwa [dataI_eq, size_dataA] at this
theorem MapS.of {w : World} {mb n : Nat} {L : List (Bs × Value)} (h : w.ownsMap (H := Value) Tryz.prog 9 opq mb n (dataA Lit.string L)) : MapS w mb L := by
 have := ownsMap_tight h
 rwa [size_dataA] at this
theorem owns_upd {H : Type} {P : Program} {k : TypeId} {R : Value → Option (DataW H × List MemPlace)} {w w' : World} {b n : Nat} {D : DataW H} (h : w.ownsMap P k R b n D) {F : List Nat} (u : Upd F w w') (hF : b ∉ F) : w'.ownsMap P k R b n D := by
 have hlt := World.ownsMap.lt h
 obtain ⟨es, clock, hb, F', hs, hD⟩ := h
 exact ⟨es, clock, (u.block b hlt hF).trans hb, F', hs, hD⟩
theorem wfN {n : Nat} (h : n < 9223372036854775807) : (Lit.int .i64 (n : Int)).wf = true := by
 have e0 : IntKind.i64.min = -9223372036854775808 := rfl
 have e1 : IntKind.i64.max = 9223372036854775807 := rfl
 simp only [Lit.wf, Bool.and_eq_true, decide_eq_true_eq, e0, e1]
 omega
theorem MapI.look {w : World} {mb : Nat} {L : List (Nat × Value)} (h : MapI w mb L) {t e : TypeId} (ht : Tryz.prog.underlying t = some (.map 3 e)) {z : Value} (hz : (zeroValue e).run Tryz.prog w = .ok z w) (n : Nat) (hn : n < 9223372036854775807) :
  (Instr.lookup t (.map (some mb)) (.int .i64 n) false).run Tryz.prog w = .ok ((getA L n).getD z) w := by
 obtain ⟨v, ps, hrun, hv⟩ := World.ownsMap.lookup h lawI ht hz (zd := .held z) (zp := []) rfl (keyOf_int_mk Tryz.underlying3 (a := (n : Int)) (wfN hn))
 rw [hrun]
 simp only [opq, Option.some.injEq, Prod.mk.injEq] at hv
 rw [dataI_eq, at_dataA keyI] at hv
 cases hg : getA L n with
 | none => rw [hg] at hv; cases hv.1; rfl
 | some u => rw [hg] at hv; cases hv.1; rfl
end Go.Proofs.YtgpefiacbipfpaaGreatDoor

namespace Go.Proofs.YtgpefiacbipfpaaGreatDoor
open Go.RowKit Go.Maps
theorem wpList_lookup_run {w : World} {ops : Array Oper} {rest : List Oper} {o : Oper} {a : Act} {Q : Exit → Act → World → Prop} (hg : o.guard = none) (m x : Operand) (t : TypeId) (hop : o.op = Op.lookup t m x false)
  {mv xv v : Value} (hm : a.eval m = mv) (hx : a.eval x = xv) (hrun : (Instr.lookup t mv xv false).run Tryz.prog w = .ok v w) (h : wpList Tryz.prog ops Q rest (a.put o.dst v) w) : wpList Tryz.prog ops Q (o :: rest) a w := by
 refine wpList_plain hg fun K' hK' => ?_
 unfold Oper.wp
 simp [execOp, hop, hm, hx, hrun, Result.andThen]
 exact hK' _ _ h
abbrev nK : Array Value := Array.replicate 512 (.int .u8 0)
theorem zeroK (w : World) : (zeroValue 121).run Tryz.prog w = .ok (.agg nK) w := by
 obtain ⟨i, h, h1, h2, h3⟩ := info_parts infoK
 simp [zeroValue, typeInfo, h, h1]
theorem wpList_alloc_K {w : World} {ops : Array Oper} {rest : List Oper} {o : Oper} {a : Act} {Q : Exit → Act → World → Prop} (hg : o.guard = none) (hop : o.op = Op.alloc 121)
  (h : wpList Tryz.prog ops Q rest (a.put o.dst (.pointer (some ⟨w.heap.size, 0, none⟩))) (w.alloc (.cells nK 121))) : wpList Tryz.prog ops Q (o :: rest) a w := by
 refine wpList_plain hg fun K' hK' => ?_
 unfold Oper.wp
 simp only [execOp, hop, Instr.alloc, Sem.run_bind, zeroK, Result.andThen_ok]
 exact hK' _ _ h
theorem sizeK : (Tryz.prog.info? 121).map (·.size) = some 512 := by kernel_rfl
theorem wpList_load_K {w : World} {ops : Array Oper} {rest : List Oper} {o : Oper} {a : Act} {Q : Exit → Act → World → Prop} (hg : o.guard = none) (x : Operand) (hop : o.op = Op.load 121 x) {B i : Nat} {b : Bs}
  (hx : a.eval x = .pointer (some ⟨B, i, none⟩)) (hr : w.rangeAt B i (cK b)) (h : wpList Tryz.prog ops Q rest (a.put o.dst (.agg (cK b).toArray)) w) : wpList Tryz.prog ops Q (o :: rest) a w :=
 wpList_load_mid hg 121 x hop B i hx (cK b) _ hr Tryz.underlying121 rfl (by rw [cK_len]; exact sizeK) h
theorem wpList_store_K {w : World} {ops : Array Oper} {rest : List Oper} {o : Oper} {a : Act} {Q : Exit → Act → World → Prop} (hg : o.guard = none) (x y : Operand) (hop : o.op = Op.store 121 x y) {B : Nat} {b : Bs} {ty : TypeId} {old : Array Value}
  (hx : a.eval x = .pointer (some ⟨B, 0, none⟩)) (hy : a.eval y = .agg (cK b).toArray) (hb : w.heap[B]? = some (.cells old ty (0, 0))) (hs : old.size = 512) (h : wpList Tryz.prog ops Q rest (a.put o.dst undef) (w.setRow B (cK b).toArray)) : wpList Tryz.prog ops Q (o :: rest) a w :=
 wpList_store_row hg 121 x y hop B (cK b).toArray hx hy ty old hb (by rw [List.size_toArray, cK_len]; exact sizeK) (by rw [hs, List.size_toArray, cK_len]) (all_oneCell_toArray (oneK [b] _ (by simp))) h
theorem size_nK : nK.size = 512 := Array.size_replicate ..
theorem rangeK {w : World} {b : Nat} {X : List Value} {l : List Bs} {ty : TypeId} (h : w.heap[b]? = some (.cells X.toArray ty (0, 0))) {m : Nat} (hx : X.take m = flatG cK l) (i : Nat) (hi : i < l.length) : w.rangeAt b (i * 512) (cK l[i]) := by
 intro j v hv
 have hj : j < 512 := by
  rcases Nat.lt_or_ge j 512 with h | h
  ·exact h
  ·rw [List.getElem?_eq_none (by rw [cK_len]; exact h)] at hv; cases hv
 rw [cell_blk h]
 have h1 := flatG_at TK l i hi j hj
 rw [← hx, hv] at h1
 rw [List.getElem?_take] at h1
 split at h1
 ·simpa using h1
 ·cases h1
theorem safeL_len (D : Dev) : (safeL D).length = D.n := by simp [safeL]
theorem safeL_at (D : Dev) {i : Nat} (hi : i < (safeL D).length) : (safeL D)[i] = (D.blk i).safe := by simp [safeL]
theorem DevR.safeAt {w : World} {p : Nat} {D : Dev} {sb mb : Nat} {L : List (Nat × Value)} {ops : Int} (h : DevR w p D sb mb L ops) {n : Nat} (hn : n < D.n) : w.rangeAt sb (n * 512) (cK (D.blk n).safe) := by
 have := rangeK (m := (flatG cK (safeL D)).length) h.safe (List.take_length ..) n (by rw [safeL_len]; exact hn)
 rwa [safeL_at] at this
theorem OwnG.lastK {w : World} {base : Nat} {v : Value} {l : List Bs} (h : OwnG cK 121 512 w base v l) (hl : l ≠ []) : ∃ g c, v = .slice (some ⟨g, 0, none⟩) l.length c ∧ w.rangeAt g ((l.length - 1) * 512) (cK (l.getLast hl)) := by
 have hpos := List.length_pos_iff.2 hl
 obtain ⟨h0, h2⟩ := h
 rcases h2 with ⟨rfl, hn⟩ | ⟨g, cap, cur, rfl, hg, hh, r1, r2, r3, r4⟩
 ·omega
 ·refine ⟨g, cap, rfl, ?_⟩
  have := rangeK (X := cur.toList) (l := l) (m := l.length * 512) (by simpa using hh) r4 (l.length - 1) (by omega)
  rwa [← List.getLast_eq_getElem hl] at this
theorem rangeAt_keep {w w' : World} {b o : Nat} {cs : List Value} (h : w.rangeAt b o cs) (e : w'.heap[b]? = w.heap[b]?) : w'.rangeAt b o cs := fun j v hv => (World.cell?_of_block e).trans (h j v hv)
theorem view_pend {c : Cell} (h : c.pend ≠ []) : c.view = c.pend.getLast h := by simp [Cell.view, List.getLast?_eq_some_getLast h]
theorem view_safe {c : Cell} (h : c.pend = []) : c.view = c.safe := by simp [Cell.view, h]
def NewB (w : World) (base : Nat) (v : Value) (b : Bs) : Prop := ∃ B, v = .slice (some ⟨B, 0, none⟩) 512 512 ∧ base ≤ B ∧ w.heap[B]? = some (.cells (cK b).toArray 121 (0, 0))
def ReadPost (w : World) (p : Nat) (D : Dev) (F : List Nat) (n : Nat) (r : Ending) (w' : World) : Prop :=
 ∃ (e : Nat) (D' : Dev) (v : Value), r = .returned (.tuple #[v, .int .i64 e]) ∧ Eff [] D e D' ∧ DevAt w' p D' F ∧ Upd [p] w w' ∧ (e = 0 → NewB w' w.heap.size v (D.blk n).view) ∧ (e ≠ 0 → v = .slice none 0 0)
theorem Ticked.eff {w w' : World} {p sb mb : Nat} {D : Dev} {e : Nat} {fuse : Int} {down : Bool} {ops : Int} (t : Ticked w w' p sb D.n mb D e fuse down ops) : Eff [] D e { D with fuse := fuse, down := down } := by
 refine ⟨rfl, Nat.le_refl _, ?_⟩
 rcases t.out with ⟨h1, h2, h3, h4⟩ | ⟨h1, h2, h3⟩
 ·exact .inl ⟨h1, h2, h3, h4, rfl⟩
 ·exact .inr ⟨h1, h2, h3, [], [], rfl, rfl⟩
theorem DevR.upd {w w' : World} {p : Nat} {D : Dev} {sb mb : Nat} {L : List (Nat × Value)} {ops : Int} (h : DevR w p D sb mb L ops) {G : List Nat} (u : Upd G w w') (hG : ∀ k ∈ footD p sb mb L, k ∉ G) : DevR w' p D sb mb L ops := by
 refine ⟨(u.block p (lt_of_blk h.box) (hG p (by simp [footD]))).trans h.box, (u.block sb (lt_of_blk h.safe) (hG sb (by simp [footD]))).trans h.safe, owns_upd h.map u (hG mb (by simp [footD])), h.srt, fun x hx => ?_, h.rest, h.nodup, h.n1, h.n2, h.f1, h.f2, h.sized, h.cnt⟩
 obtain ⟨h1, h2, h3⟩ := h.row x hx
 refine ⟨h1.upd u fun j hj q => hG j ?_ hj, h2, h3⟩
 simp only [footD, List.mem_cons]
 exact .inr (.inr (.inr (List.mem_map.2 ⟨x, hx, by simp [blkOfV, q]⟩)))
theorem DevAt.upd {w w' : World} {p : Nat} {D : Dev} {F : List Nat} (h : DevAt w p D F) {G : List Nat} (u : Upd G w w') (hG : ∀ k ∈ F, k ∉ G) : DevAt w' p D F := by
 obtain ⟨sb, mb, L, ops, h, rfl⟩ := h
 exact ⟨sb, mb, L, ops, h.upd u hG, rfl⟩
set_option maxRecDepth 100000 in
set_option maxHeartbeats 4000000 in
theorem read_ok (w : World) {p : Nat} {D : Dev} {F : List Nat} (h : DevAt w p D F) (n : Nat) (hn : n < D.n) (hwr : D.wr ≤ 140737488355328) : Calls Tryz.prog 132 #[.pointer (some ⟨p, 0, none⟩), .int .i64 n] w (ReadPost w p D F n) := by
 obtain ⟨sb, mb, L, ops, h, rfl⟩ := h
 have HO := Lib.hid (operate_ok w h n hn)
 have HD := Lib.hid h
 have HP := Lib.hid (fun i => Nat.le_trans (h.cnt i) hwr)
 have hn2 := h.n2
 clear h
 go_enter Tryz.func132, Tryz.ntmps132
 go_wp2_with fail
 refine HO.out.mono ?_
 rintro r w1 ⟨e, fuse, down, ops', rfl, T⟩
 have HT := Lib.hid T
 have HR := Lib.hid (HD.out.ticked T)
 by_cases he : e = 0
 ·subst he
  have c0 := cell_blk T.box 0
  have c1 := cell_blk T.box 1
  simp only [List.getElem?_toArray, List.getElem?_cons_zero, List.getElem?_cons_succ] at c0 c1
  have HS := Lib.hid (HR.out.safeAt (n := n) hn)
  have hlt : (n : Int) < (D.n : Int) := by omega
  clear T
  cases hg : getA L n with
  | none =>
   have HV := Lib.hid (view_safe (HR.out.rest n hg))
   have c1' := cell_keep ((Upd.refl [] w1).alloc (.cells (cK (D.blk n).safe).toArray 121)) c1
   have HL := Lib.hid (MapI.look (owns_upd HR.out.map ((Upd.refl [] w1).alloc (.cells (cK (D.blk n).safe).toArray 121)) (by simp)) Tryz.underlying117 (z := .slice none 0 0) (by kernel_rfl) n (by omega))
   go_wp2_with (first
    | (refine wpList_load_K rfl _ rfl (b := (D.blk n).safe) rfl HS.out ?_)
    | (refine wpList_alloc_K rfl rfl ?_)
    | (refine wpList_store_K rfl _ _ rfl (b := (D.blk n).safe) rfl rfl (heap_top _ _) size_nK ?_; rewrite [World.setRow_alloc_new])
    | (at_lookup; refine wpList_lookup_run rfl _ _ 117 rfl rfl rfl HL.out ?_)
    | fail)
   go_ret2
   exact ⟨0, _, _, rfl, HT.out.eff, ⟨sb, mb, L, ops', HR.out.upd ((Upd.refl [] w1).alloc _) (by simp), rfl⟩, HT.out.upd.alloc _, fun _ => ⟨w1.heap.size, rfl, HT.out.upd.size, by rw [HV.out]; exact heap_top _ _⟩, fun q => absurd rfl q⟩
  | some v =>
   obtain ⟨hown, hne, -⟩ := HR.out.row (n, v) (getA_mem hg)
   dsimp only at hown hne
   obtain ⟨g, c, rfl, hrg⟩ := hown.lastK hne
   have HV := Lib.hid (view_pend hne)
   have hpos : 0 < (D.blk n).pend.length := List.length_pos_iff.2 hne
   have hcap : (D.blk n).pend.length ≤ 140737488355328 := HP.out n
   have c1' := cell_keep ((Upd.refl [] w1).alloc (.cells (cK (D.blk n).safe).toArray 121)) c1
   have HL := Lib.hid (MapI.look (owns_upd HR.out.map ((Upd.refl [] w1).alloc (.cells (cK (D.blk n).safe).toArray 121)) (by simp)) Tryz.underlying117 (z := .slice none 0 0) (by kernel_rfl) n (by omega))
   rewrite [hg] at HL
   have HG := Lib.hid (rangeAt_keep (w' := w1.alloc (.cells (cK (D.blk n).safe).toArray 121)) hrg (((Upd.refl [] w1).alloc _).block g (by have := (hown.block g rfl).2; exact this) (by simp)))
   have hlt2 : (0 : Int) < ((D.blk n).pend.length : Int) := by omega
   generalize hlst : (D.blk n).pend.getLast hne = lst at *
   clear hown hrg
   generalize (D.blk n).pend.length = m at *
   go_wp2_with (first
    | (refine wpList_load_K rfl _ rfl (b := (D.blk n).safe) rfl HS.out ?_)
    | (refine wpList_load_K rfl _ rfl (b := lst) rfl HG.out ?_)
    | (refine wpList_alloc_K rfl rfl ?_)
    | (refine wpList_store_K rfl _ _ rfl (b := (D.blk n).safe) rfl rfl (heap_top _ _) size_nK ?_; rewrite [World.setRow_alloc_new])
    | (refine wpList_store_K rfl _ _ rfl (b := lst) rfl rfl (heap_top _ _) (by rw [List.size_toArray, cK_len]) ?_; rewrite [World.setRow_alloc_new])
    | (at_lookup; refine wpList_lookup_run rfl _ _ 117 rfl rfl rfl HL.out ?_)
    | fail)
   go_ret2
   exact ⟨0, _, _, rfl, HT.out.eff, ⟨sb, mb, L, ops', HR.out.upd ((Upd.refl [] w1).alloc _) (by simp), rfl⟩, HT.out.upd.alloc _, fun _ => ⟨w1.heap.size, rfl, HT.out.upd.size, by rw [HV.out]; exact heap_top _ _⟩, fun q => absurd rfl q⟩
 ·have he' : ¬ (e : Int) = 0 := by omega
  go_wp2_with fail
  go_ret2
  exact ⟨e, _, _, rfl, HT.out.eff, ⟨sb, mb, L, ops', HR.out, rfl⟩, HT.out.upd, fun q => absurd q he, fun _ => rfl⟩
end Go.Proofs.YtgpefiacbipfpaaGreatDoor

namespace Go.Proofs.YtgpefiacbipfpaaGreatDoor
open Go.RowKit Go.Maps
theorem step_lookup_run {ops : Array Oper} {o : Oper} {a : Act} {w : World} {K : Act → World → Prop} {Q : Exit → Act → World → Prop} {E : Prop} (hgd : o.guard = none) (m x : Operand) (t : TypeId) (hop : o.op = Op.lookup t m x false)
  {mv xv v : Value} (hm : a.eval m = mv) (hx : a.eval x = xv) (hrun : (Instr.lookup t mv xv false).run Tryz.prog w = .ok v w) (hK : K (a.put o.dst v) w) :
  if Region.wanted o (yielded ops a.tmps) = true then Oper.wp Tryz.prog o a w K Q else E := by
 have hw : Region.wanted o (yielded ops a.tmps) = true := by simp [Region.wanted, hgd]
 rw [if_pos hw]
 unfold Oper.wp
 simp [execOp, hop, hm, hx, hrun, Result.andThen]
 exact hK
theorem buildK (w : World) (b : Bs) : (Instr.buildSlice 116 1 #[(0, .agg (cK b).toArray)]).run Tryz.prog w = .ok (.slice (some ⟨w.heap.size, 0, none⟩) 1 1) (w.alloc (.cells (cK b).toArray 121)) := by
 obtain ⟨i, h, h1, h2, h3⟩ := info_parts infoK
 refine run_buildSlice w _ _ 1 _ _ i _ Tryz.underlying116 h h1 (by rw [h2]; decide) (by rw [h2]; decide) ?_
 rw [h2]
 have := Great.fill_whole (s := 512) (by omega) [.agg (cK b).toArray] ((Array.range (1 * 512)).map ((Value.agg (Array.replicate 512 (.int .u8 0))).cells[· % (Value.agg (Array.replicate 512 (.int .u8 0))).cells.size]!)) (by
  intro v hv
  obtain rfl := List.mem_singleton.1 hv
  show (cK b).toArray.size = 512
  rw [List.size_toArray, cK_len]) (by simp)
 have e : (some (cK b).toArray : Option (Array Value)) = some (Value.agg (cK b).toArray).cells := rfl
 rw [e]
 simpa using this
theorem MapI.store {w : World} {mb : Nat} {L : List (Nat × Value)} (h : MapI w mb L) (hs : Srt ltI L) {t e : TypeId} (ht : Tryz.prog.underlying t = some (.map 3 e)) (hl : L.length < maxLen) (n : Nat) (hn : n < 9223372036854775807) (v : Value) :
  ∃ w', (Instr.mapUpdate t (.map (some mb)) (.int .i64 n) v).run Tryz.prog w = .ok () w' ∧ MapI w' mb (putA ltI L n v) ∧ w.grownBy w' (some mb) := by
 obtain ⟨w', h1, h2, h3⟩ := World.ownsMap.update h lawI ht hl (keyOf_int_mk Tryz.underlying3 (wfN hn)) (d := .held v) (ps := []) rfl
 refine ⟨w', h1, ?_, h3⟩
 rw [dataI_eq, put_dataA keyI hs] at h2
 exact MapI.of h2
theorem step_build_K {ops : Array Oper} {o : Oper} {a : Act} {w : World} {K : Act → World → Prop} {Q : Exit → Act → World → Prop} {E : Prop} (hgd : o.guard = none) (x : Operand) (hop : o.op = Op.buildSlice 116 1 #[(0, x)]) {b : Bs}
  (hx : a.eval x = .agg (cK b).toArray) (hK : K (a.put o.dst (.slice (some ⟨w.heap.size, 0, none⟩) 1 1)) (w.alloc (.cells (cK b).toArray 121))) :
  if Region.wanted o (yielded ops a.tmps) = true then Oper.wp Tryz.prog o a w K Q else E := by
 have hw : Region.wanted o (yielded ops a.tmps) = true := by simp [Region.wanted, hgd]
 rw [if_pos hw]
 unfold Oper.wp
 have e : (Array.map (fun (y : Nat × Operand) => (y.1, a.eval y.2)) #[(0, x)]) = #[(0, .agg (cK b).toArray)] := by simp [hx]
 simp only [execOp, hop, e, Sem.run_bind, Sem.run_pure, buildK, Result.andThen_ok]
 exact hK
theorem step_mapUpdate_run {ops : Array Oper} {o : Oper} {a : Act} {w : World} {K : Act → World → Prop} {Q : Exit → Act → World → Prop} {E : Prop} (hgd : o.guard = none) (m x y : Operand) (t : TypeId) (hop : o.op = Op.mapUpdate t m x y)
  {mv xv yv : Value} {w' : World} (hm : a.eval m = mv) (hx : a.eval x = xv) (hy : a.eval y = yv) (hrun : (Instr.mapUpdate t mv xv yv).run Tryz.prog w = .ok () w') (hK : K (a.put o.dst undef) w') :
  if Region.wanted o (yielded ops a.tmps) = true then Oper.wp Tryz.prog o a w K Q else E := by
 have hw : Region.wanted o (yielded ops a.tmps) = true := by simp [Region.wanted, hgd]
 rw [if_pos hw]
 unfold Oper.wp
 simp [execOp, hop, hm, hx, hy, hrun, Result.andThen]
 exact hK
theorem loadRd {w : World} {b off c : Nat} {d : Bs} (h : Rd w (.slice (some ⟨b, off, none⟩) 512 c) d) (hd : d.length = 512) : w.rangeAt b off (cK d) := by
 intro j v hv
 rw [cK_of hd] at hv
 have hj : j < d.length := by
  rcases Nat.lt_or_ge j d.length with h | h
  ·exact h
  ·rw [List.getElem?_eq_none (by simpa using h)] at hv; cases hv
 obtain ⟨-, -, -, hcell⟩ := h.cell
 obtain ⟨b', o', e, hc⟩ := hcell (by omega)
 cases e
 rw [hc j hj]
 rw [List.getElem?_map, List.getElem?_eq_getElem hj] at hv
 simpa using hv
def Dev.wrote (D : Dev) (n : Nat) (b : Bs) (fuse : Int) (down : Bool) : Dev := { D with blk := exec1 D.blk (.write n b), fuse := fuse, down := down, wr := D.wr + 1 }
theorem DevR.wrote {w w' : World} {p : Nat} {D : Dev} {sb mb : Nat} {L : List (Nat × Value)} {ops : Int} (h : DevR w p D sb mb L ops) {n : Nat} (hn : n < D.n) {b : Bs} (hb : b.length = 512) {v0 v : Value} (hv0 : v0 = (getA L n).getD (.slice none 0 0))
  (hown : OwnG cK 121 512 w' 0 v ((D.blk n).pend ++ [b])) (hat : v.ownBlock = v0.ownBlock ∨ ∀ g, v.ownBlock = some g → w.heap.size ≤ g) (hmap : MapI w' mb (putA ltI L n v))
  (hu : Upd (mb :: (v0.ownBlock.toList)) w w') : DevR w' p (D.wrote n b D.fuse D.down) sb mb (putA ltI L n v) ops ∧ ∀ k ∈ footD p sb mb (putA ltI L n v), k ∈ footD p sb mb L ∨ w.heap.size ≤ k := by
 have hne : (D.blk n).pend ++ [b] ≠ [] := by simp
 obtain ⟨g, c, hvg, -⟩ := hown.lastK hne
 have hvb : v.ownBlock = some g := by rw [hvg]; rfl
 have hnd := h.nodup
 simp only [footD, List.nodup_cons, List.mem_cons, not_or] at hnd
 obtain ⟨⟨a1, a2, a3⟩, ⟨a4, a5⟩, a6, a7⟩ := hnd
 have hold : ∀ k, v0.ownBlock = some k → k ∈ L.map fun x => blkOfV x.2 := by
  intro k hk
  cases hg : getA L n with
  | none => rw [hg] at hv0; subst hv0; cases hk
  | some u =>
   rw [hg] at hv0
   obtain rfl : v0 = u := hv0
   exact List.mem_map.2 ⟨(n, v0), getA_mem hg, by simp [blkOfV, hk]⟩
 have hlt : ∀ x ∈ L, blkOfV x.2 < w.heap.size ∧ x.2.ownBlock = some (blkOfV x.2) := by
  intro x hx
  obtain ⟨h1, h2, -⟩ := h.row x hx
  obtain ⟨g', c', e, -⟩ := h1.lastK h2
  have : x.2.ownBlock = some g' := by rw [e]; rfl
  exact ⟨by simp only [blkOfV, this, Option.getD_some]; exact (h1.block g' this).2, by simp [blkOfV, this]⟩
 have hother : ∀ x ∈ L, x.1 ≠ n → ∀ k, x.2.ownBlock = some k → k ∉ mb :: v0.ownBlock.toList := by
  intro x hx hxn k hk hm
  rcases List.mem_cons.1 hm with rfl | hm
  ·exact a6 (List.mem_map.2 ⟨x, hx, by simp [blkOfV, hk]⟩)
  ·have hk0 : v0.ownBlock = some k := by simpa using hm
   cases hg : getA L n with
   | none => rw [hg] at hv0; subst hv0; cases hk0
   | some u =>
    rw [hg] at hv0
    obtain rfl : v0 = u := hv0
    have hp := a7
    have hmem := getA_mem hg
    have : ∀ (l : List (Nat × Value)), (l.map fun x => blkOfV x.2).Nodup → ∀ y ∈ l, ∀ z ∈ l, blkOfV y.2 = blkOfV z.2 → y = z := by
     intro l
     induction l with
     | nil => intro _ y hy; simp at hy
     | cons q l ih =>
      intro hn y hy z hz e
      simp only [List.map_cons, List.nodup_cons] at hn
      rcases List.mem_cons.1 hy with e1 | h1 <;> rcases List.mem_cons.1 hz with e2 | h2
      ·rw [e1, e2]
      ·exact absurd (List.mem_map.2 ⟨z, h2, by rw [← e, e1]⟩) hn.1
      ·exact absurd (List.mem_map.2 ⟨y, h1, by rw [e, e2]⟩) hn.1
      ·exact ih hn.2 y h1 z h2 e
    have e := this L a7 x hx (n, v0) hmem (by simp [blkOfV, hk, hk0])
    exact hxn (by rw [e])
 have hpne : p ∉ mb :: v0.ownBlock.toList := by
  intro hm
  rcases List.mem_cons.1 hm with e | hm
  ·exact a2 e
  ·exact a3 (hold p (by simpa using hm))
 have hsne : sb ∉ mb :: v0.ownBlock.toList := by
  intro hm
  rcases List.mem_cons.1 hm with e | hm
  ·exact a4 e
  ·exact a5 (hold sb (by simpa using hm))
 have hgm : g ∈ (L.map fun x => blkOfV x.2) ∨ w.heap.size ≤ g := by
  rcases hat with e | e
  ·exact .inl (hold g (by rw [← e]; exact hvb))
  ·exact .inr (e g hvb)
 have hperm := putA_perm ordI h.srt n v
 have hfoot : ((putA ltI L n v).map fun x => blkOfV x.2).Nodup ∧ (∀ k ∈ ((putA ltI L n v).map fun x => blkOfV x.2), k ∈ (L.map fun x => blkOfV x.2) ∨ w.heap.size ≤ k) := by
  have hgb : blkOfV v = g := by simp [blkOfV, hvb]
  have hm := hperm.map fun x => blkOfV x.2
  refine ⟨hm.nodup_iff.2 ?_, fun k hk => ?_⟩
  ·rw [List.map_cons, List.nodup_cons]
   refine ⟨fun hm => ?_, a7.sublist (List.filter_sublist.map _)⟩
   obtain ⟨x, hx, e⟩ := List.mem_map.1 hm
   obtain ⟨hx, hxn⟩ := mem_delA.1 hx
   dsimp only at e
   rw [hgb] at e
   rcases hat with e2 | e2
   ·refine hother x hx hxn g (by rw [(hlt x hx).2, e]) ?_
    simp [← e2, hvb]
   ·have := (hlt x hx).1
    have := e2 g hvb
    omega
  ·have := (hm.mem_iff).1 hk
   rw [List.map_cons] at this
   rcases List.mem_cons.1 this with e | this
   ·dsimp only at e; rw [hgb] at e; subst e; exact hgm
   ·obtain ⟨x, hx, e⟩ := List.mem_map.1 this
    exact .inl (List.mem_map.2 ⟨x, (mem_delA.1 hx).1, e⟩)
 have hlts : ∀ k ∈ [p, sb, mb], k < w.heap.size := by
  intro k hk
  simp only [List.mem_cons, List.not_mem_nil, or_false] at hk
  rcases hk with rfl | rfl | rfl
  ·exact lt_of_blk h.box
  ·exact lt_of_blk h.safe
  ·exact World.ownsMap.lt h.map
 refine ⟨⟨(hu.block p (lt_of_blk h.box) hpne).trans h.box, ?_, hmap, srt_putA ordI h.srt n v, fun x hx => ?_, fun i hi => ?_, ?_, h.n1, h.n2, h.f1, h.f2, h.sized.exec1 hb, fun i => ?_⟩, fun k hk => ?_⟩
 ·have e : safeL (D.wrote n b D.fuse D.down) = safeL D := by
   unfold safeL
   show (List.range D.n).map (fun i => (exec1 D.blk (.write n b) i).safe) = _
   apply List.map_congr_left
   intro i _
   show (if i = n then _ else _ : Cell).safe = _
   split <;> rfl
  rw [e]
  exact (hu.block sb (lt_of_blk h.safe) hsne).trans h.safe
 ·rcases List.mem_cons.1 (hperm.mem_iff.1 hx) with rfl | hx
  ·have e : ((D.wrote n b D.fuse D.down).blk n).pend = (D.blk n).pend ++ [b] := by
    show (exec1 D.blk (.write n b) n).pend = _
    rw [exec1_write]; rfl
   dsimp only
   rw [e]
   exact ⟨hown, hne, hn⟩
  ·obtain ⟨hx, hxn⟩ := mem_delA.1 hx
   have e : ((D.wrote n b D.fuse D.down).blk x.1) = D.blk x.1 := exec1_write_ne _ hxn
   rw [e]
   obtain ⟨h1, h2, h3⟩ := h.row x hx
   exact ⟨h1.upd hu fun j hj q => hother x hx hxn j q hj, h2, h3⟩
 ·rw [getA_putA ordI h.srt] at hi
  split at hi
  ·cases hi
  ·rename_i hne2
   have e : ((D.wrote n b D.fuse D.down).blk i) = D.blk i := exec1_write_ne _ (Ne.symm hne2)
   rw [e]
   exact h.rest i hi
 ·simp only [footD, List.nodup_cons, List.mem_cons, not_or]
  have hno : ∀ k ∈ [p, sb, mb], k ∉ (L.map fun x => blkOfV x.2) → k ∉ (putA ltI L n v).map fun x => blkOfV x.2 := fun k hk hk2 hk3 => by
   rcases hfoot.2 k hk3 with q | q
   ·exact hk2 q
   ·have := hlts k hk; omega
  exact ⟨⟨a1, a2, hno p (by simp) a3⟩, ⟨a4, hno sb (by simp) a5⟩, hno mb (by simp) a6, hfoot.1⟩
 ·show (exec1 D.blk (.write n b) i).pend.length ≤ D.wr + 1
  have := h.cnt i
  by_cases e : i = n
  ·subst e; rw [exec1_write]; simp [Cell.push]; omega
  ·rw [exec1_write_ne _ e]; omega
 ·simp only [footD, List.mem_cons] at hk ⊢
  rcases hk with hk | hk | hk | hk
  ·exact .inl (.inl hk)
  ·exact .inl (.inr (.inl hk))
  ·exact .inl (.inr (.inr (.inl hk)))
  ·rcases hfoot.2 k hk with q | q
   ·exact .inl (.inr (.inr (.inr q)))
   ·exact .inr q
theorem src_K {w : World} {B : Nat} {b : Bs} {ty : TypeId} (h : w.heap[B]? = some (.cells (cK b).toArray ty (0, 0))) : SrcG cK w (some ⟨B, 0, none⟩) [b] :=
 src_new TK (r := [b]) (ty := ty) (by rw [h]; simp [flatG])
theorem heldW {w w' : World} {G : List Nat} (u : Upd G w w') {p o b off : Nat} {x : Value} {cs : List Value} (hp : p ∉ G) (hb : b ∉ G) (hc : 0 < cs.length) (h : w.cell? ⟨p, o, none⟩ = some x ∧ w.rangeAt b off cs) : w'.cell? ⟨p, o, none⟩ = some x ∧ w'.rangeAt b off cs := by
 refine ⟨(World.cell?_of_block (u.block p (World.block_lt_of_cell? _ _ h.1) hp)).trans h.1, rangeAt_keep h.2 (u.block b ?_ hb)⟩
 exact World.block_lt_of_cell? _ _ (h.2 0 _ (List.getElem?_eq_getElem hc))
theorem upd_grown_alloc {w w7 : World} {o : Obj} {row : Option Nat} (hg : (w.drew.alloc o).grownBy w7 row) : Upd row.toList w w7 :=
 ⟨hg.os, hg.output, Nat.le_trans (by simp) hg.size, fun k hk hn => by
  rw [hg.block k (by simp; omega) (fun q => hn (by simp [← q]))]
  show (w.alloc o).heap[k]? = _
  rw [heap_alloc, if_neg (by omega)]⟩
theorem upd_of_grown {w w8 : World} {mb : Nat} {r : List Nat} (hg8 : w.grownBy w8 (some mb)) : Upd (mb :: r) w w8 :=
 ⟨hg8.os, hg8.output, hg8.size, fun k hk hn => hg8.block k hk (fun q => hn (by cases q; simp))⟩
def WritePost (w : World) (p : Nat) (D : Dev) (F : List Nat) (t : List DOp) (r : Ending) (w' : World) : Prop :=
 ∃ (e : Nat) (D' : Dev) (F' : List Nat), r = .returned (.int .i64 e) ∧ Eff t D e D' ∧ DevAt w' p D' F' ∧ Upd F w w' ∧ ∀ k ∈ F', k ∈ F ∨ w.heap.size ≤ k
set_option maxRecDepth 100000 in
set_option maxHeartbeats 4000000 in
theorem write_ok (w : World) {p : Nat} {D : Dev} {F : List Nat} (h : DevAt w p D F) (n : Nat) (hn : n < D.n) (hwr : D.wr ≤ 137438953472) {b off c : Nat} {d : Bs} (hd : Rd w (.slice (some ⟨b, off, none⟩) 512 c) d) (hd5 : d.length = 512) (hbF : b ∉ F) :
  Calls Tryz.prog 107 #[.pointer (some ⟨p, 0, none⟩), .int .i64 n, .slice (some ⟨b, off, none⟩) 512 c] w (WritePost w p D F [.write n d]) := by
 obtain ⟨sb, mb, L, ops, h, rfl⟩ := h
 have HO := Lib.hid (operate_ok w h n hn)
 have HD := Lib.hid h
 have hn2 := h.n2
 have hcap : 512 ≤ c := hd.cell.2.1
 have hpF : p ∈ footD p sb mb L := by simp [footD]
 have hbp : b ≠ p := fun e => hbF (e ▸ hpF)
 have HRd := Lib.hid (loadRd hd hd5)
 have HDl := Lib.hid hd
 clear h hd
 go_enter Tryz.func107, Tryz.ntmps107
 go_wp2_with fail
 refine HO.out.mono ?_
 rintro r w1 ⟨e, fuse, down, ops', rfl, T⟩
 have HT := Lib.hid T
 have HR := Lib.hid (HD.out.ticked T)
 by_cases he : e = 0
 ·subst he
  have c1 := cell_blk T.box 1
  simp only [List.getElem?_toArray, List.getElem?_cons_zero, List.getElem?_cons_succ] at c1
  have hd1 : w1.rangeAt b off (cK d) := rangeAt_keep HRd.out (T.upd.block b (World.block_lt_of_cell? _ _ (HRd.out 0 _ (List.getElem?_eq_getElem (by rw [cK_len]; omega)))) (by simp [hbp]))
  clear T
  obtain ⟨v0, hv0⟩ : ∃ v0, v0 = (getA L n).getD (.slice none 0 0) := ⟨_, rfl⟩
  have HOW : Hid (OwnG cK 121 512 w1 0 v0 (D.blk n).pend) := by
   cases hg : getA L n with
   | none => rw [hv0, hg]; have := HR.out.rest n hg; dsimp only at this; rw [this]; exact Lib.hid (OwnG.nil _ _)
   | some v => rw [hv0, hg]; exact Lib.hid (HR.out.row (n, v) (getA_mem hg)).1
  have hlen : (D.blk n).pend.length ≤ 137438953472 := Nat.le_trans (HD.out.cnt n) hwr
  obtain ⟨a0, c0, hsl0⟩ := HOW.out.slice
  have HLk : Hid (∀ W, Upd [] w1 W → (Instr.lookup 117 (.map (some mb)) (.int .i64 n) false).run Tryz.prog W = .ok (.slice a0 (D.blk n).pend.length c0) W) :=
   Lib.hid fun W u => by
    have := MapI.look (owns_upd HR.out.map u (by simp)) Tryz.underlying117 (z := .slice none 0 0) (by kernel_rfl) n (by omega)
    rw [this, ← hv0, hsl0]
  have HLd : ∀ W : World, W.rangeAt b off (cK d) → (Instr.loadAt 121 (.pointer (some ⟨b, off, none⟩))).run Tryz.prog W = .ok (.agg (cK d).toArray) W :=
   fun W hW => run_loadAt_mid W b off _ (cK d) _ hW Tryz.underlying121 rfl (by rw [cK_len]; exact sizeK)
  have HAr : ∀ W : World, (Instr.arrayAt 121 (.slice (some ⟨b, off, none⟩) 512 c)).run Tryz.prog W = .ok (.pointer (some ⟨b, off, none⟩)) W :=
   fun W => run_arrayAt W _ _ 512 _ 512 c Tryz.underlying121 (Nat.le_refl _)
  have HBs := fun W => buildK W d
  have hL1 := HLk.out w1.drew (Upd.refl [] w1).drew
  have hL2 := HLk.out (w1.drew.alloc (.cells (cK d).toArray 121)) ((Upd.refl [] w1).drew.alloc _)
  have hu101 := Tryz.underlying117
  have hcl := cK_len d
  have hll : ((D.blk n).pend ++ [d]).length = (D.blk n).pend.length + 1 := by simp
  have hu105 := Tryz.underlying121
  have hi105 : (Tryz.prog.info? 121).map (·.size) = some (cK d).length := by rw [cK_len]; exact sizeK
  rw [hsl0] at HOW
  have HM := Lib.hid HR.out.map
  have HSrt := Lib.hid HR.out.srt
  have hfoot := HD.out.nodup
  simp only [footD, List.nodup_cons, List.mem_cons, not_or] at hfoot
  simp only [footD, List.mem_cons, not_or] at hbF
  have HB0 : Hid (∀ k, (Value.slice a0 (D.blk n).pend.length c0).ownBlock = some k → k ∈ L.map fun x => blkOfV x.2) := Lib.hid (by
   intro k hk
   rw [← hsl0] at hk
   cases hg : getA L n with
   | none => rw [hg] at hv0; subst hv0; cases hk
   | some u =>
    rw [hg] at hv0
    obtain rfl : v0 = u := hv0
    exact List.mem_map.2 ⟨(n, v0), getA_mem hg, by simp [blkOfV, hk]⟩)
  have hGp : p ∉ mb :: (Value.slice a0 (D.blk n).pend.length c0).ownBlock.toList := by
   intro hm
   rcases List.mem_cons.1 hm with q | hm
   ·exact hfoot.1.2.1 q
   ·exact hfoot.1.2.2 (HB0.out p (by simpa using hm))
  have hGb : b ∉ mb :: (Value.slice a0 (D.blk n).pend.length c0).ownBlock.toList := by
   intro hm
   rcases List.mem_cons.1 hm with q | hm
   ·exact hbF.2.2.1 q
   ·exact hbF.2.2.2 (HB0.out b (by simpa using hm))
  have hGm : mb ∉ (Value.slice a0 (D.blk n).pend.length c0).ownBlock.toList := fun hm => hfoot.2.2.1 (HB0.out mb (by simpa using hm))
  have hw1 : D.wr ≤ 137438953472 := hwr
  have hcK : 0 < (cK d).length := by rw [cK_len]; omega
  have hLl : L.length < maxLen := by
   have h1 : (L.map (·.1)).Nodup := by
    have := HSrt.out
    unfold Srt at this
    rw [List.nodup_iff_pairwise_ne, List.pairwise_map]
    exact this.imp fun h => ordI.ne h
   have h2 := nodup_le h1 (n := D.n) fun x hx => by
    obtain ⟨y, hy, rfl⟩ := List.mem_map.1 hx
    exact (HR.out.row y hy).2.2
   rw [List.length_map] at h2
   unfold maxLen; omega
  have hv0s : Value.slice a0 (D.blk n).pend.length c0 = (getA L n).getD (.slice none 0 0) := by rw [← hsl0]; exact hv0
  clear hsl0 HLk
  go_wp2_with fail
  refine wp_region_noPanic ?_
  refine wp_region_held_drew (S := fun w' => w'.cell? ⟨p, 1, none⟩ = some (.map (some mb)) ∧ w'.rangeAt b off (cK d)) (by kernel_rfl) (heldW (Upd.refl [] w1).drew (by simp) (by simp) hcK ⟨c1, hd1⟩) (fun hHeld => ?_)
  refine wpAnyH_take (i := 0) (oi := ⟨some 19, _, _, _, _, _⟩) (v := .pointer (some ⟨p, 0, none⟩)) rfl (by kernel_rfl) (by kernel_rfl) (by kernel_rfl) (fun _ _ _ h => h) (Or.inl ⟨by rfl, by (intro W hSW; obtain ⟨hS1, hS2⟩ := hSW; go_simp)⟩) hHeld ?_
  simp only [Act.put, List.setIfInBounds_toArray, List.set_cons_zero, List.set_cons_succ]
  refine wpAnyH_take (i := 1) (oi := ⟨some 20, _, _, _, _, _⟩) (v := .pointer (some ⟨p, 0, none⟩)) rfl (by kernel_rfl) (by kernel_rfl) (by kernel_rfl) (fun _ _ _ h => h) (Or.inl ⟨by rfl, by (intro W hSW; obtain ⟨hS1, hS2⟩ := hSW; go_simp)⟩) hHeld ?_
  simp only [Act.put, List.setIfInBounds_toArray, List.set_cons_zero, List.set_cons_succ]
  refine wpAnyH_take (i := 2) (oi := ⟨some 21, _, _, _, _, _⟩) (v := .pointer (some ⟨p, 1, none⟩)) rfl (by kernel_rfl) (by kernel_rfl) (by kernel_rfl) (fun _ _ _ h => h) (Or.inl ⟨by rfl, by (intro W hSW; obtain ⟨hS1, hS2⟩ := hSW; go_simp)⟩) hHeld ?_
  simp only [Act.put, List.setIfInBounds_toArray, List.set_cons_zero, List.set_cons_succ]
  refine wpAnyH_take (i := 3) (oi := ⟨some 22, _, _, _, _, _⟩) (v := .map (some mb)) rfl (by kernel_rfl) (by kernel_rfl) (by kernel_rfl) (fun _ _ _ h => h) (Or.inl ⟨by rfl, by (intro W hSW; obtain ⟨hS1, hS2⟩ := hSW; go_simp)⟩) hHeld ?_
  simp only [Act.put, List.setIfInBounds_toArray, List.set_cons_zero, List.set_cons_succ]
  refine wpAnyH_take (i := 4) (oi := ⟨some 23, _, _, _, _, _⟩) (v := .int .i64 n) rfl (by kernel_rfl) (by kernel_rfl) (by kernel_rfl) (fun _ _ _ h => h) (Or.inl ⟨by rfl, by (intro W hSW; obtain ⟨hS1, hS2⟩ := hSW; go_simp)⟩) hHeld ?_
  simp only [Act.put, List.setIfInBounds_toArray, List.set_cons_zero, List.set_cons_succ]
  refine wpAnyH_take (i := 5) (oi := ⟨some 24, _, _, _, _, _⟩) (v := .pointer (some ⟨p, 0, none⟩)) rfl (by kernel_rfl) (by kernel_rfl) (by kernel_rfl) (fun _ _ _ h => h) (Or.inl ⟨by rfl, by (intro W hSW; obtain ⟨hS1, hS2⟩ := hSW; go_simp)⟩) hHeld ?_
  simp only [Act.put, List.setIfInBounds_toArray, List.set_cons_zero, List.set_cons_succ]
  refine wpAnyH_take (i := 6) (oi := ⟨some 25, _, _, _, _, _⟩) (v := .pointer (some ⟨p, 0, none⟩)) rfl (by kernel_rfl) (by kernel_rfl) (by kernel_rfl) (fun _ _ _ h => h) (Or.inl ⟨by rfl, by (intro W hSW; obtain ⟨hS1, hS2⟩ := hSW; go_simp)⟩) hHeld ?_
  simp only [Act.put, List.setIfInBounds_toArray, List.set_cons_zero, List.set_cons_succ]
  refine wpAnyH_take (i := 7) (oi := ⟨some 26, _, _, _, _, _⟩) (v := .pointer (some ⟨p, 1, none⟩)) rfl (by kernel_rfl) (by kernel_rfl) (by kernel_rfl) (fun _ _ _ h => h) (Or.inl ⟨by rfl, by (intro W hSW; obtain ⟨hS1, hS2⟩ := hSW; go_simp)⟩) hHeld ?_
  simp only [Act.put, List.setIfInBounds_toArray, List.set_cons_zero, List.set_cons_succ]
  refine wpAnyH_take (i := 8) (oi := ⟨some 27, _, _, _, _, _⟩) (v := .map (some mb)) rfl (by kernel_rfl) (by kernel_rfl) (by kernel_rfl) (fun _ _ _ h => h) (Or.inl ⟨by rfl, by (intro W hSW; obtain ⟨hS1, hS2⟩ := hSW; go_simp)⟩) hHeld ?_
  simp only [Act.put, List.setIfInBounds_toArray, List.set_cons_zero, List.set_cons_succ]
  refine wpAnyH_take (i := 9) (oi := ⟨some 28, _, _, _, _, _⟩) (v := .int .i64 n) rfl (by kernel_rfl) (by kernel_rfl) (by kernel_rfl) (fun _ _ _ h => h) (Or.inl ⟨by rfl, by (intro W hSW; obtain ⟨hS1, hS2⟩ := hSW; go_simp)⟩) hHeld ?_
  simp only [Act.put, List.setIfInBounds_toArray, List.set_cons_zero, List.set_cons_succ]
  refine wpAnyH_take (i := 11) (oi := ⟨some 30, _, _, _, _, _⟩) (v := .slice (some ⟨b, off, none⟩) 512 c) rfl (by kernel_rfl) (by kernel_rfl) (by kernel_rfl) (fun _ _ _ h => h) (Or.inl ⟨by rfl, by (intro W hSW; obtain ⟨hS1, hS2⟩ := hSW; go_simp)⟩) hHeld ?_
  simp only [Act.put, List.setIfInBounds_toArray, List.set_cons_zero, List.set_cons_succ]
  refine wpAnyH_take (i := 12) (oi := ⟨some 31, _, _, _, _, _⟩) (v := .pointer (some ⟨b, off, none⟩)) rfl (by kernel_rfl) (by kernel_rfl) (by kernel_rfl) (fun _ _ _ h => h) (Or.inl ⟨by rfl, by (intro W hSW; obtain ⟨hS1, hS2⟩ := hSW; go_simp)⟩) hHeld ?_
  simp only [Act.put, List.setIfInBounds_toArray, List.set_cons_zero, List.set_cons_succ]
  refine' wpAnyH_take (i := 13) (oi := ⟨some 32, _, _, _, _, _⟩) (v := _) rfl (by kernel_rfl) (by kernel_rfl) (by kernel_rfl) (fun _ _ _ h => h) (yieldsIf_load_mid (by rfl) _ _ rfl b off rfl (cK d) _ ?hS ?hu ?hd ?hi) hHeld ?rest
  case hS => exact fun W hW => hW.2
  case hu => exact hu105
  case hd => rfl
  case hi => exact hi105
  simp only [Act.put, List.setIfInBounds_toArray, List.set_cons_zero, List.set_cons_succ]
  have hS2 : (w1.drew.alloc (.cells (cK d).toArray 121)).cell? ⟨p, 1, none⟩ = some (.map (some mb)) ∧ (w1.drew.alloc (.cells (cK d).toArray 121)).rangeAt b off (cK d) := heldW ((Upd.refl [] w1).drew.alloc _) (by simp) (by simp) hcK ⟨c1, hd1⟩
  refine wpAnyH_ready (rs := [10, 14]) (by kernel_rfl) (by simp) ?_
  refine AllReadyH.cons (o := ⟨some 29, _, _, _, _, _⟩) rfl (fun K hK => ?_) (AllReadyH.cons (o := ⟨some 33, _, _, _, _, _⟩) rfl (fun K hK => ?_) AllReadyH.nil)
  ·refine step_lookup_run (by rfl) _ _ 117 (by rfl) (by rfl) (by rfl) hL1 ?_
   refine hK.out _ _ hHeld (fun _ => ?_)
   clear hK K
   simp only [Act.put, List.setIfInBounds_toArray, List.set_cons_zero, List.set_cons_succ]
   refine wpAnyH_ready (rs := [14]) (by kernel_rfl) (by simp) ?_
   refine AllReadyH.cons (o := ⟨some 33, _, _, _, _, _⟩) rfl (fun K hK => ?_) AllReadyH.nil
   refine step_build_K (by rfl) _ (by rfl) (b := d) (by rfl) ?_
   refine hK.out _ _ hS2 (fun _ => ?_)
   clear hK K
   simp only [Act.put, List.setIfInBounds_toArray, List.set_cons_zero, List.set_cons_succ]
   refine wpAnyH_ready (rs := [15]) (by kernel_rfl) (by simp) ?_
   refine AllReadyH.cons (o := ⟨some 34, _, _, _, _, _⟩) rfl (fun K hK => ?_) AllReadyH.nil
   refine step_append_G TK (by rfl) _ _ (by rfl) (base := 0) (v := .slice a0 (D.blk n).pend.length c0) (l := (D.blk n).pend) (A := some ⟨w1.heap.size, 0, none⟩) (c := 1) (r := [d]) (by rfl) (HOW.out.upd ((Upd.refl [] w1).drew.alloc _) (by simp)) (by rfl) (src_K (ty := 121) (heap_top _ _)) (oneK _) (by simp; omega) (by simp; omega) (Nat.zero_le _) ?_
   intro v7 w7 ho7 hg7 hat7
   obtain ⟨a7, c7, hv7e⟩ := ho7.slice
   rewrite [hll] at hv7e
   subst hv7e
   have hv7a : Upd ((Value.slice a0 (D.blk n).pend.length c0).ownBlock.toList) w1 w7 := upd_grown_alloc hg7
   have hv7 := hv7a.mono (G := mb :: (Value.slice a0 (D.blk n).pend.length c0).ownBlock.toList) (fun k hk _ => List.mem_cons_of_mem _ hk)
   refine hK.out _ _ (heldW hv7 hGp hGb hcK ⟨c1, hd1⟩) (fun _ => ?_)
   clear hK K
   simp only [Act.put, List.setIfInBounds_toArray, List.set_cons_zero, List.set_cons_succ]
   obtain ⟨w8, hst, hm8, hg8⟩ := MapI.store (owns_upd HM.out hv7a hGm) HSrt.out hu101 hLl n (by omega) (.slice a7 ((D.blk n).pend.length + 1) c7)
   have hv8 : Upd (mb :: (Value.slice a0 (D.blk n).pend.length c0).ownBlock.toList) w1 w8 := hv7.trans (upd_of_grown hg8)
   have hat8 : (Value.slice a7 ((D.blk n).pend.length + 1) c7).ownBlock = (Value.slice a0 (D.blk n).pend.length c0).ownBlock ∨ ∀ g, (Value.slice a7 ((D.blk n).pend.length + 1) c7).ownBlock = some g → w1.heap.size ≤ g := hat7.imp id fun h g hg => by have := h g hg; simp at this; omega
   have ho8 : OwnG cK 121 512 w8 0 (.slice a7 ((D.blk n).pend.length + 1) c7) ((D.blk n).pend ++ [d]) := ho7.upd (upd_of_grown (r := []) hg8) fun j hj q => by
    obtain rfl := List.mem_singleton.1 hj
    rcases hat8 with e | e
    ·exact hGm (by rw [← e, q]; simp)
    ·have := e _ q
     have := World.ownsMap.lt HM.out
     omega
   refine wpAnyH_ready (rs := [16]) (by kernel_rfl) (by simp) ?_
   refine AllReadyH.cons (o := ⟨none, _, _, _, _, _⟩) rfl (fun K hK => ?_) AllReadyH.nil
   refine step_mapUpdate_run (by rfl) _ _ _ 117 (by rfl) (by rfl) (by rfl) (by rfl) hst ?_
   refine hK.out _ _ (heldW hv8 hGp hGb hcK ⟨c1, hd1⟩) (fun _ => ?_)
   clear hK K
   refine wpAnyH_done (by kernel_rfl) ?_ _
   refine NoPanic.normal ?_
   simp only [Act.put]
   clear ho7 hg7 hat7 hv7a
   go_wp2_with fail
   go_ret
   have hW := HR.out.wrote hn hd5 hv0s ho8 hat8 hm8 hv8
   have hTe := HT.out.eff
   refine ⟨0, _, _, rfl, ?_, ⟨sb, mb, _, ops', hW.1, rfl⟩, ?_, ?_⟩
   ·refine ⟨rfl, Nat.le_refl _, .inl ⟨rfl, hTe.up.1, hTe.up.2.1, hTe.up.2.2.1, rfl⟩⟩
   ·refine (HT.out.upd.mono (fun k hk _ => by obtain rfl := List.mem_singleton.1 hk; exact hpF)).trans (hv8.mono fun k hk _ => ?_)
    rcases List.mem_cons.1 hk with rfl | hk
    ·simp [footD]
    ·simp only [footD, List.mem_cons]
     exact .inr (.inr (.inr (HB0.out k (by simpa using hk))))
   ·intro k hk
    rcases hW.2 k hk with q | q
    ·exact .inl q
    ·exact .inr (Nat.le_trans HT.out.upd.size q)
  ·refine step_build_K (by rfl) _ (by rfl) (b := d) (by rfl) ?_
   refine hK.out _ _ hS2 (fun _ => ?_)
   clear hK K
   simp only [Act.put, List.setIfInBounds_toArray, List.set_cons_zero, List.set_cons_succ]
   refine wpAnyH_ready (rs := [10]) (by kernel_rfl) (by simp) ?_
   refine AllReadyH.cons (o := ⟨some 29, _, _, _, _, _⟩) rfl (fun K hK => ?_) AllReadyH.nil
   refine step_lookup_run (by rfl) _ _ 117 (by rfl) (by rfl) (by rfl) hL2 ?_
   refine hK.out _ _ hS2 (fun _ => ?_)
   clear hK K
   simp only [Act.put, List.setIfInBounds_toArray, List.set_cons_zero, List.set_cons_succ]
   refine wpAnyH_ready (rs := [15]) (by kernel_rfl) (by simp) ?_
   refine AllReadyH.cons (o := ⟨some 34, _, _, _, _, _⟩) rfl (fun K hK => ?_) AllReadyH.nil
   refine step_append_G TK (by rfl) _ _ (by rfl) (base := 0) (v := .slice a0 (D.blk n).pend.length c0) (l := (D.blk n).pend) (A := some ⟨w1.heap.size, 0, none⟩) (c := 1) (r := [d]) (by rfl) (HOW.out.upd ((Upd.refl [] w1).drew.alloc _) (by simp)) (by rfl) (src_K (ty := 121) (heap_top _ _)) (oneK _) (by simp; omega) (by simp; omega) (Nat.zero_le _) ?_
   intro v7 w7 ho7 hg7 hat7
   obtain ⟨a7, c7, hv7e⟩ := ho7.slice
   rewrite [hll] at hv7e
   subst hv7e
   have hv7a : Upd ((Value.slice a0 (D.blk n).pend.length c0).ownBlock.toList) w1 w7 := upd_grown_alloc hg7
   have hv7 := hv7a.mono (G := mb :: (Value.slice a0 (D.blk n).pend.length c0).ownBlock.toList) (fun k hk _ => List.mem_cons_of_mem _ hk)
   refine hK.out _ _ (heldW hv7 hGp hGb hcK ⟨c1, hd1⟩) (fun _ => ?_)
   clear hK K
   simp only [Act.put, List.setIfInBounds_toArray, List.set_cons_zero, List.set_cons_succ]
   obtain ⟨w8, hst, hm8, hg8⟩ := MapI.store (owns_upd HM.out hv7a hGm) HSrt.out hu101 hLl n (by omega) (.slice a7 ((D.blk n).pend.length + 1) c7)
   have hv8 : Upd (mb :: (Value.slice a0 (D.blk n).pend.length c0).ownBlock.toList) w1 w8 := hv7.trans (upd_of_grown hg8)
   have hat8 : (Value.slice a7 ((D.blk n).pend.length + 1) c7).ownBlock = (Value.slice a0 (D.blk n).pend.length c0).ownBlock ∨ ∀ g, (Value.slice a7 ((D.blk n).pend.length + 1) c7).ownBlock = some g → w1.heap.size ≤ g := hat7.imp id fun h g hg => by have := h g hg; simp at this; omega
   have ho8 : OwnG cK 121 512 w8 0 (.slice a7 ((D.blk n).pend.length + 1) c7) ((D.blk n).pend ++ [d]) := ho7.upd (upd_of_grown (r := []) hg8) fun j hj q => by
    obtain rfl := List.mem_singleton.1 hj
    rcases hat8 with e | e
    ·exact hGm (by rw [← e, q]; simp)
    ·have := e _ q
     have := World.ownsMap.lt HM.out
     omega
   refine wpAnyH_ready (rs := [16]) (by kernel_rfl) (by simp) ?_
   refine AllReadyH.cons (o := ⟨none, _, _, _, _, _⟩) rfl (fun K hK => ?_) AllReadyH.nil
   refine step_mapUpdate_run (by rfl) _ _ _ 117 (by rfl) (by rfl) (by rfl) (by rfl) hst ?_
   refine hK.out _ _ (heldW hv8 hGp hGb hcK ⟨c1, hd1⟩) (fun _ => ?_)
   clear hK K
   refine wpAnyH_done (by kernel_rfl) ?_ _
   refine NoPanic.normal ?_
   simp only [Act.put]
   clear ho7 hg7 hat7 hv7a
   go_wp2_with fail
   go_ret
   have hW := HR.out.wrote hn hd5 hv0s ho8 hat8 hm8 hv8
   have hTe := HT.out.eff
   refine ⟨0, _, _, rfl, ?_, ⟨sb, mb, _, ops', hW.1, rfl⟩, ?_, ?_⟩
   ·refine ⟨rfl, Nat.le_refl _, .inl ⟨rfl, hTe.up.1, hTe.up.2.1, hTe.up.2.2.1, rfl⟩⟩
   ·refine (HT.out.upd.mono (fun k hk _ => by obtain rfl := List.mem_singleton.1 hk; exact hpF)).trans (hv8.mono fun k hk _ => ?_)
    rcases List.mem_cons.1 hk with rfl | hk
    ·simp [footD]
    ·simp only [footD, List.mem_cons]
     exact .inr (.inr (.inr (HB0.out k (by simpa using hk))))
   ·intro k hk
    rcases hW.2 k hk with q | q
    ·exact .inl q
    ·exact .inr (Nat.le_trans HT.out.upd.size q)
 ·have he' : ¬ (e : Int) = 0 := by omega
  go_wp2_with fail
  go_ret
  exact ⟨e, _, _, rfl, HT.out.eff.stop [.write n d] he, ⟨sb, mb, L, ops', HR.out, rfl⟩, HT.out.upd.mono (fun k hk _ => by obtain rfl := List.mem_singleton.1 hk; exact hpF), fun k hk => .inl hk⟩
end Go.Proofs.YtgpefiacbipfpaaGreatDoor
