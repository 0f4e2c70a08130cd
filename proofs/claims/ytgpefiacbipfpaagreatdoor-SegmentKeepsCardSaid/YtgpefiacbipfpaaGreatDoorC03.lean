/- Bytes in memory; appending to what came in without room, or to a row of the call's own. The codec's walks: room, PutUint, PutText, Put32. The codec's walks: PutText, Put32, table, Sum. The codec's walks: Sum. -/
import Derived.Lib.AppendStr
import Derived.Laws.Tables
import Derived.Laws.Rows
import Derived.Deep.WholeRow
import Derived.Deep.MidRow
import Derived.Test.YtgpefiacbipfpaaGreatDoorC01
namespace Go.Proofs.YtgpefiacbipfpaaGreatDoor
open Go.RowKit
section
variable {α : Type} {f : α → List Value} {k bytes : Nat} {st e : TypeId}
def Ready (f : α → List Value) (e : TypeId) (k : Nat) (w : World) (base : Nat) (v : Value) (l : List α) : Prop :=
 ((∃ a, v = .slice a l.length l.length) ∧ SlAt k (CellsAt f) w v l) ∨ OwnG f e k w base v l
theorem append_full (T : RowT f k bytes st e) {w : World} {a : Option Addr} {l : List α} (h : SlAt k (CellsAt f) w (.slice a l.length l.length) l) {ad : Addr} (c : Nat) {r : List α} (hr : SrcG f w (some ad) r) (h0 : r ≠ [])
  (hb : (l.length + r.length) * bytes ≤ 140737488355328) (h63 : l.length + r.length ≤ 140737488355328) (ty : TypeId) :
  ∃ v' w', (Builtin.append_ #[st, st] ty #[.slice a l.length l.length, .slice (some ad) r.length c]).run Tryz.prog w = .ok v' w' ∧ OwnG f e k w' w.heap.size v' (l ++ r) ∧ w.grownBy w' none := by
 obtain ⟨i0, z, hi0, hz0, hz1, hz2, hz3⟩ := T.info
 have hk := T.pos
 have hr0 : 0 < r.length := List.length_pos_iff.2 h0
 have hgr : ∀ (old : Nat), (w.drew.alloc (.cells ((flatG f l).toArray ++ (flatG f r).toArray ++ Builtin.zeroCells z.cells (grownCap w (l.length + r.length) old e - (l.length + r.length))) e)).ownsRow w.heap.size e k
    (.slice (some ⟨w.heap.size, 0, none⟩) (l.length + r.length) (grownCap w (l.length + r.length) old e)) (l.length + r.length) (flatG f l ++ flatG f r) ∧
   w.grownBy (w.drew.alloc (.cells ((flatG f l).toArray ++ (flatG f r).toArray ++ Builtin.zeroCells z.cells (grownCap w (l.length + r.length) old e - (l.length + r.length))) e)) none := by
  intro old
  have hge := grownCap_ge w (l.length + r.length) old e
  have hcm : grownCap w (l.length + r.length) old e ≤ maxLen := grownCap_le_maxLen w (l.length + r.length) old e (by unfold maxLen; omega)
  have hlen : (flatG f l ++ flatG f r).length = (l.length + r.length) * k := by rw [List.length_append, flatG_len T, flatG_len T, Nat.add_mul]
  refine ⟨⟨hlen, .inr ⟨w.heap.size, _, _, rfl, Nat.le_refl _, heap_alloc_new w.drew _, hge, hcm, ?_, ?_⟩⟩, ⟨rfl, rfl, rfl, by simp, fun j hj _ => by rw [heap_alloc, if_neg (show ¬ j = w.drew.heap.size from Nat.ne_of_lt hj)]; rfl⟩⟩
  ·rw [Array.size_append, Array.size_append, List.size_toArray, List.size_toArray, size_zeroCells, hz3, flatG_len T, flatG_len T, ← Nat.add_mul, ← Nat.add_mul]
   exact congrArg (· * k) (Nat.add_sub_cancel' hge)
  ·simp only [Array.toList_append, List.append_assoc]
   rw [← List.append_assoc, ← hlen]
   exact List.take_left
 rcases a with _ | b
 ·have hl : l = [] := by
   obtain ⟨a', cap', hv, h1, h2, h3⟩ := h
   simp only [Value.slice.injEq] at hv
   obtain ⟨rfl, -, -⟩ := hv
   cases l with
   | nil => rfl
   | cons x l => obtain ⟨b, off, e, _⟩ := h3 0 (by simp); cases e
  subst hl
  have hrun := run_append_nil (P := Tryz.prog) w st ty e i0 z T.und hi0 hz0 ad r.length c (flatG f r) (by rw [flatG_len T, hz1]) (hr.2 ad rfl) hr0 (by omega) (by
   rw [hz2]; simp only [List.length_nil, Nat.zero_add] at hb; omega)
  have := hgr 0
  simp only [List.length_nil, Nat.zero_add, flatG, List.flatMap_nil, List.nil_append, Array.empty_append] at this hrun ⊢
  exact ⟨_, _, hrun, by unfold OwnG; exact this.1, this.2⟩
 ·have hs := SlAt.srcG T (fun _ _ _ h => h) h
  have hrun := run_append_grow (P := Tryz.prog) w st ty e i0 z T.und hi0 hz0 b l.length l.length (flatG f l) (by rw [flatG_len T, hz1]) (hs.2 b rfl) ad r.length c (flatG f r) (by rw [flatG_len T, hz1]) (hr.2 ad rfl) (by omega) (by omega) (growslice_fits (by omega) (by rw [hz2]; exact hb))
  have := hgr l.length
  exact ⟨_, _, hrun, by unfold OwnG; rw [flatG_app, List.length_append]; exact this.1, this.2⟩
theorem append_ready (T : RowT f k bytes st e) {w : World} {base : Nat} {v : Value} {l : List α} (h : Ready f e k w base v l) {ad : Addr} (c : Nat) {r : List α} (hr : SrcG f w (some ad) r) (h0 : r ≠ []) (hs : ∀ x ∈ r, ∀ u ∈ f x, u.oneCell' = true)
  (hb : (l.length + r.length) * bytes ≤ 140737488355328) (h63 : l.length + r.length ≤ 140737488355328) (hbase : base ≤ w.heap.size) (ty : TypeId) :
  ∃ v' w', (Builtin.append_ #[st, st] ty #[v, .slice (some ad) r.length c]).run Tryz.prog w = .ok v' w' ∧ OwnG f e k w' base v' (l ++ r) ∧ Below base w w' := by
 rcases h with ⟨⟨a, rfl⟩, h⟩ | h
 ·obtain ⟨v', w', h1, h2, h3⟩ := append_full T h c hr h0 hb h63 ty
  exact ⟨v', w', h1, h2.base hbase, ⟨h3.os, h3.tape, h3.output, h3.size, fun k hk => h3.block k (by omega) (by simp)⟩⟩
 ·obtain ⟨v', w', h1, h2, h3, -⟩ := append_G T h c hr hs hb h63 hbase ty
  exact ⟨v', w', h1, h2, ⟨h3.os, h3.tape, h3.output, h3.size, fun k hk => h3.block k (by omega) (fun q => by have := (h.block k q.symm).1; omega)⟩⟩
theorem wpList_append_ready (T : RowT f k bytes st e) {w : World} {ops : Array Oper} {rest : List Oper} {o : Oper} {a : Act} {Q : Exit → Act → World → Prop} (hgd : o.guard = none) (s x : Operand)
  (ho : o.op = .call { callee := .builtin .append, args := #[s, x], argTypes := #[st, st] }) {base : Nat} {v : Value} {l : List α} (hs : a.eval s = v) (hown : Ready f e k w base v l)
  {ad : Addr} {c : Nat} {r : List α} (hx : a.eval x = .slice (some ad) r.length c) (hr : SrcG f w (some ad) r) (h0 : r ≠ []) (hsl : ∀ x ∈ r, ∀ u ∈ f x, u.oneCell' = true) (hb : (l.length + r.length) * bytes ≤ 140737488355328) (h63 : l.length + r.length ≤ 140737488355328) (hbase : base ≤ w.heap.size)
  (h : ∀ v' w', OwnG f e k w' base v' (l ++ r) → Below base w w' → wpList Tryz.prog ops Q rest (a.put o.dst v') w') : wpList Tryz.prog ops Q (o :: rest) a w :=
 wpList_plain hgd fun K hK => by
  obtain ⟨v', w', hrun, h2, h3⟩ := append_ready T hown c hr h0 hsl hb h63 hbase o.type
  unfold Oper.wp execOp
  simp only [ho, resolve, invoke, builtin, Sem.run_bind, Sem.run_pure, Result.andThen_ok, List.map_toArray, List.map_cons, List.map_nil, hs, hx, hrun]
  exact hK _ _ (h v' w' h2 h3)
theorem src_new (_T : RowT f k bytes st e) {w : World} {B : Nat} {r : List α} {ty : TypeId} (hB : w.heap[B]? = some (.cells (flatG f r).toArray ty (0, 0))) : SrcG f w (some ⟨B, 0, none⟩) r := by
 refine ⟨fun q => (nomatch q), ?_⟩
 intro ad q j u hu
 cases q
 rw [add_plainG, cell_blk hB, Nat.zero_add]
 simpa using hu
theorem SlAt.upd {w w' : World} {v : Value} {l : List α} (h : SlAt k (CellsAt f) w v l) (T : RowT f k bytes st e) {F : List Nat} (u : Upd F w w') (hF : ∀ g, v.ownBlock = some g → g ∉ F) : SlAt k (CellsAt f) w' v l := by
 obtain ⟨a, cap, rfl, h1, h2, h3⟩ := h
 refine ⟨a, cap, rfl, h1, h2, fun i hi => ?_⟩
 obtain ⟨b, off, rfl, hc⟩ := h3 i hi
 refine ⟨b, off, rfl, hc.same (u.block b ?_ (hF b rfl))⟩
 have hl := T.len l[i]
 have hk := T.pos
 have : (f l[i])[0]? = some (f l[i])[0] := List.getElem?_eq_getElem (by omega)
 exact World.block_lt_of_cell? _ _ (hc 0 _ this)
end
abbrev c8 (b : UInt8) : List Value := [.int .u8 b.toNat]
theorem T8 : RowT c8 1 1 23 5 where
 len := fun _ => rfl
 pos := by omega
 und := Tryz.underlying23
 info := by
  obtain ⟨i, h, h1, h2, h3⟩ := info_parts (show (Tryz.prog.info? 5).map (fun i => (i.zero, i.size, i.bytes)) = some (some (.int .u8 0), 1, 1) by kernel_rfl)
  exact ⟨i, _, h, h1, h2, h3, rfl⟩
theorem one8 (l : Bs) : ∀ x ∈ l, ∀ u ∈ c8 x, u.oneCell' = true := by
 intro x _ u hu
 simp only [c8, List.mem_cons, List.not_mem_nil, or_false] at hu
 subst hu; rfl
structure Rd (w : World) (v : Value) (l : Bs) : Prop where
 sl : SlAt 1 (CellsAt c8) w v l
 nl : ∀ n c, v = .slice none n c → c = 0
abbrev Ow (w : World) (base : Nat) (v : Value) (l : Bs) : Prop := OwnG c8 5 1 w base v l
abbrev Rdy (w : World) (base : Nat) (v : Value) (l : Bs) : Prop := Ready c8 5 1 w base v l
theorem Rd.rdy {w : World} {a : Option Addr} {n c : Nat} {l : Bs} (h : Rd w (.slice a n c) l) (base : Nat) : Rdy w base (.slice a n n) l := by
 obtain ⟨⟨a', c', hv, h1, h2, h3⟩, -⟩ := h
 simp only [Value.slice.injEq] at hv
 obtain ⟨rfl, rfl, rfl⟩ := hv
 exact .inl ⟨⟨a, rfl⟩, a, _, rfl, Nat.le_refl _, Nat.le_trans h1 h2, h3⟩
theorem Ow.rd {w : World} {base : Nat} {v : Value} {l : Bs} (h : Ow w base v l) : Rd w v l := ⟨OwnG.sl T8 h, fun n c e => by
 rcases h.2 with ⟨h, -⟩ | ⟨g, cap, cur, h, -⟩
 ·rw [h] at e; cases e; rfl
 ·rw [h] at e; cases e⟩
theorem Rd.upd {w w' : World} {v : Value} {l : Bs} (h : Rd w v l) {F : List Nat} (u : Upd F w w') (hF : ∀ g, v.ownBlock = some g → g ∉ F) : Rd w' v l := ⟨SlAt.upd h.sl T8 u hF, h.nl⟩
theorem Rd.keep {w w' : World} {v : Value} {l : Bs} (h : Rd w v l) (u : Upd [] w w') : Rd w' v l := h.upd u (by simp)
theorem Rd.src {w : World} {a : Option Addr} {n c : Nat} {l : Bs} (h : Rd w (.slice a n c) l) : SrcG c8 w a l := SlAt.srcG T8 (fun _ _ _ h => h) h.sl
theorem Rd.slice {w : World} {v : Value} {l : Bs} (h : Rd w v l) : ∃ a c, v = .slice a l.length c ∧ l.length ≤ c ∧ c ≤ 9223372036854775807 ∧ (a = none → l.length = 0 ∧ c = 0) := by
 obtain ⟨⟨a, c, rfl, h1, h2, h3⟩, h4⟩ := h
 refine ⟨a, c, rfl, h1, by unfold maxLen at h2; omega, fun e => ?_⟩
 subst e
 have := h4 _ _ rfl
 omega
theorem flat8 (l : Bs) : flatG c8 l = l.map fun b => .int .u8 b.toNat := by
 induction l with
 | nil => rfl
 | cons b l ih => simp only [flatG, List.flatMap_cons, List.map_cons, c8] at ih ⊢; rw [ih]; rfl
theorem Rd.nil (w : World) : Rd w (.slice none 0 0) [] := ⟨⟨none, 0, rfl, Nat.le_refl _, by unfold maxLen; omega, fun i hi => absurd hi (by simp)⟩, fun n c e => by cases e; rfl⟩
theorem Rd.cell {w : World} {a : Option Addr} {n c : Nat} {l : Bs} (h : Rd w (.slice a n c) l) : n = l.length ∧ n ≤ c ∧ c ≤ maxLen ∧ (0 < n → ∃ b off, a = some ⟨b, off, none⟩ ∧ ∀ i (hi : i < l.length), w.cell? ⟨b, off + i, none⟩ = some (.int .u8 l[i].toNat)) := by
 obtain ⟨⟨a', c', hv, h1, h2, h3⟩, -⟩ := h
 simp only [Value.slice.injEq] at hv
 obtain ⟨rfl, rfl, rfl⟩ := hv
 refine ⟨rfl, h1, h2, fun h0 => ?_⟩
 obtain ⟨b, off, rfl, -⟩ := h3 0 h0
 refine ⟨b, off, rfl, fun i hi => ?_⟩
 obtain ⟨b', off', e, hc⟩ := h3 i hi
 cases e
 have := hc 0 _ rfl
 simpa using this
theorem Ready.keep {α : Type} {f : α → List Value} {k bytes : Nat} {st e : TypeId} (T : RowT f k bytes st e) {w w' : World} {base : Nat} {v : Value} {l : List α} (h : Ready f e k w base v l) (u : Upd [] w w') : Ready f e k w' base v l := by
 rcases h with ⟨h1, h2⟩ | h
 ·exact .inl ⟨h1, SlAt.upd h2 T u (by simp)⟩
 ·exact .inr (h.upd u (by simp))
theorem heap_top (w : World) (o : Obj) : (w.alloc o).heap[w.heap.size]? = some o := by rw [heap_alloc, if_pos rfl]
theorem src_byte (w : World) {x : Int} {b : UInt8} (h : x = b.toNat) (ty : TypeId) : SrcG c8 (w.alloc (.cells #[.int .u8 x] ty)) (some ⟨w.heap.size, 0, none⟩) [b] :=
 src_new T8 (by subst h; exact heap_top _ _)
theorem bits_of {k : IntKind} (hw : ∀ x : Nat, x < 2 ^ k.bits → k.wrap (x : Int) = x) {a b : Nat} (ha : a < 2 ^ k.bits) (hb : b < 2 ^ k.bits) :
  bits .or k (a : Int) (b : Int) = ((a ||| b : Nat) : Int) ∧ bits .and k (a : Int) (b : Int) = ((a &&& b : Nat) : Int) ∧ bits .xor k (a : Int) (b : Int) = ((a ^^^ b : Nat) : Int) := by
 have h1 : (BitVec.ofInt k.bits (a : Int)).toNat = a := by rw [BitVec.ofInt_natCast, BitVec.toNat_ofNat]; exact Nat.mod_eq_of_lt ha
 have h2 : (BitVec.ofInt k.bits (b : Int)).toNat = b := by rw [BitVec.ofInt_natCast, BitVec.toNat_ofNat]; exact Nat.mod_eq_of_lt hb
 refine ⟨?_, ?_, ?_⟩
 ·show k.wrap ((BitVec.ofInt k.bits (a : Int) ||| BitVec.ofInt k.bits (b : Int)).toNat : Int) = _
  rw [BitVec.toNat_or, h1, h2, hw _ (Nat.or_lt_two_pow ha hb)]
 ·show k.wrap ((BitVec.ofInt k.bits (a : Int) &&& BitVec.ofInt k.bits (b : Int)).toNat : Int) = _
  rw [BitVec.toNat_and, h1, h2, hw _ (Nat.and_lt_two_pow _ hb)]
 ·show k.wrap ((BitVec.ofInt k.bits (a : Int) ^^^ BitVec.ofInt k.bits (b : Int)).toNat : Int) = _
  rw [BitVec.toNat_xor, h1, h2, hw _ (Nat.xor_lt_two_pow ha hb)]
theorem bits8 {a b : Nat} (ha : a < 256) (hb : b < 256) : bits .or .u8 (a : Int) (b : Int) = ((a ||| b : Nat) : Int) ∧ bits .and .u8 (a : Int) (b : Int) = ((a &&& b : Nat) : Int) ∧ bits .xor .u8 (a : Int) (b : Int) = ((a ^^^ b : Nat) : Int) :=
 bits_of (k := .u8) (fun x hx => by rw [IntKind.wrap_u8]; have : x < 256 := hx; omega) ha hb
theorem bits32 {a b : Nat} (ha : a < 4294967296) (hb : b < 4294967296) : bits .or .u32 (a : Int) (b : Int) = ((a ||| b : Nat) : Int) ∧ bits .and .u32 (a : Int) (b : Int) = ((a &&& b : Nat) : Int) ∧ bits .xor .u32 (a : Int) (b : Int) = ((a ^^^ b : Nat) : Int) :=
 bits_of (k := .u32) (fun x hx => by rw [IntKind.wrap_u32]; have : x < 4294967296 := hx; omega) ha hb
theorem bits64 {a b : Nat} (ha : a < 18446744073709551616) (hb : b < 18446744073709551616) : bits .or .u64 (a : Int) (b : Int) = ((a ||| b : Nat) : Int) ∧ bits .and .u64 (a : Int) (b : Int) = ((a &&& b : Nat) : Int) ∧ bits .xor .u64 (a : Int) (b : Int) = ((a ^^^ b : Nat) : Int) :=
 bits_of (k := .u64) (fun x hx => by rw [IntKind.wrap_u64]; have : x < 18446744073709551616 := hx; omega) ha hb
theorem step_append_G {α : Type} {f : α → List Value} {k bytes : Nat} {st e : TypeId} (T : RowT f k bytes st e) {ops : Array Oper} {o : Oper} {a : Act} {w : World} {K : Act → World → Prop} {Q : Exit → Act → World → Prop} {E : Prop}
  (hgd : o.guard = none) (s x : Operand) (ho : o.op = Op.call { callee := Callee.builtin Builtin.append, args := #[s, x], argTypes := #[st, st] }) {base : Nat} {v : Value} {l : List α} (hs : a.eval s = v) (hown : OwnG f e k w base v l)
  {A : Option Addr} {c : Nat} {r : List α} (hx : a.eval x = .slice A r.length c) (hr : SrcG f w A r) (hsl : ∀ x ∈ r, ∀ u ∈ f x, u.oneCell' = true) (hb : (l.length + r.length) * bytes ≤ 140737488355328) (h63 : l.length + r.length ≤ 140737488355328) (hbase : base ≤ w.heap.size)
  (hK : ∀ v' w', OwnG f e k w' base v' (l ++ r) → w.grownBy w' v.ownBlock → (v'.ownBlock = v.ownBlock ∨ ∀ g, v'.ownBlock = some g → w.heap.size ≤ g) → K (a.put o.dst v') w') :
  if Region.wanted o (yielded ops a.tmps) = true then Oper.wp Tryz.prog o a w K Q else E := by
 have hw : Region.wanted o (yielded ops a.tmps) = true := by simp [Region.wanted, hgd]
 obtain ⟨v', w', hrun, h2, h3, h4⟩ := append_G T hown c hr hsl hb h63 hbase o.type
 rw [if_pos hw]
 unfold Oper.wp
 simp [execOp, ho, resolve, invoke, builtin, hs, hx, hrun, Result.andThen]
 exact hK _ _ h2 h3 h4
theorem held1 {w w' : World} (u : Upd [] w w') {b0 o0 : Nat} {v0 : Value} (h : w.cell? ⟨b0, o0, none⟩ = some v0) : w'.cell? ⟨b0, o0, none⟩ = some v0 := cell_keep u h
theorem held2 {w w' : World} (u : Upd [] w w') {b0 o0 b1 o1 : Nat} {v0 v1 : Value} (h : w.cell? ⟨b0, o0, none⟩ = some v0 ∧ w.cell? ⟨b1, o1, none⟩ = some v1) : w'.cell? ⟨b0, o0, none⟩ = some v0 ∧ w'.cell? ⟨b1, o1, none⟩ = some v1 := ⟨cell_keep u h.1, cell_keep u h.2⟩
end Go.Proofs.YtgpefiacbipfpaaGreatDoor

namespace Go.Proofs.YtgpefiacbipfpaaGreatDoor
open Go.RowKit
set_option maxRecDepth 100000 in
theorem room_ok (w : World) (a : Option Addr) (n c : Nat) (hn : n ≤ c) (hc : c ≤ 9223372036854775807) (h0 : a = none → n = 0 ∧ c = 0) : Calls Tryz.prog 143 #[.slice a n c] w fun e w' => e = .returned (.slice a n n) ∧ w = w' := by
 rcases a with _ | ⟨b, o, p⟩
 ·obtain ⟨rfl, rfl⟩ := h0 rfl
  go_enter Tryz.func143, Tryz.ntmps143
  go_wp2_with fail
  go_ret
  exact ⟨rfl, rfl⟩
 ·go_enter Tryz.func143, Tryz.ntmps143
  go_wp2_with fail
  go_ret
  exact ⟨rfl, rfl⟩
def hiB (n : Nat) : UInt8 := UInt8.ofNat (n % 128 + 128)
def loB (n : Nat) : UInt8 := UInt8.ofNat n
set_option maxRecDepth 10000 in
theorem or128 : ∀ a : Fin 256, a.val ||| 128 = a.val % 128 + 128 := by decide
theorem byte_hi (n : Nat) : bits .or .u8 ((n : Int) % 256) 128 = ((hiB n).toNat : Nat) := by
 have h := (bits8 (a := n % 256) (b := 128) (Nat.mod_lt _ (by omega)) (by omega)).1
 have e : ((n : Int) % 256) = ((n % 256 : Nat) : Int) := by omega
 rw [e]
 refine h.trans ?_
 rw [hiB, UInt8.toNat_ofNat']
 congr 1
 have h1 : n % 256 = 128 * (n % 256 / 128) + n % 256 % 128 := (Nat.div_add_mod _ _).symm
 have h2 : n % 256 % 128 = n % 128 := by omega
 have h3 := or128 ⟨n % 256, Nat.mod_lt _ (by omega)⟩
 dsimp only at h3
 rw [h3, h2]
 omega
theorem byte_lo {n : Nat} (h : n < 256) : (n : Int) = ((loB n).toNat : Nat) := by
 rw [loB, UInt8.toNat_ofNat']; omega
set_option maxRecDepth 100000 in
set_option maxHeartbeats 1000000 in
theorem putUint_ok (w : World) {v : Value} {l : Bs} (h : Rd w v l) (n : Nat) (hn : n < 18446744073709551616) (hl : l.length ≤ 100000000) : Calls Tryz.prog 95 #[v, .int .u64 n] w fun e w' => ∃ v', e = .returned v' ∧ Ow w' w.heap.size v' (l ++ putU n) ∧ Upd [] w w' := by
 obtain ⟨a, c, rfl, h1, h2, h3⟩ := h.slice
 have HR := Lib.hid (h.rdy w.heap.size)
 clear h
 go_enter Tryz.func95, Tryz.ntmps95
 go_wp2_with fail
 refine (room_ok w a l.length c h1 h2 h3).mono ?_
 rintro e w1 ⟨rfl, rfl⟩
 go_wp2_with fail
 go_loopg [0, 1] n (fun k v u wr => ∃ lv : Bs, u = .int .u64 k ∧ k < 18446744073709551616 ∧ Hid (Rdy wr w.heap.size v lv) ∧ Hid (lv ++ putU k = l ++ putU n) ∧ Hid (Upd [] w wr))
 case atStart => exact ⟨l, rfl, hn, HR, Lib.hid rfl, Lib.hid (Upd.refl _ _)⟩
 case round =>
  obtain ⟨lv, rfl, hk, HV, HE, HU⟩ := hrel
  have hlv : lv.length ≤ 100000010 := by
   have h1 := congrArg List.length HE.out
   have h2 := putU_len64 (n := n) hn
   simp only [List.length_append] at h1
   omega
  by_cases h128 : gk < 128
  ·have hc : ¬ (128 : Int) ≤ (gk : Int) := by omega
   have hB := HU.out.size
   go_wp2_with (at_builtin; refine wpList_append_ready T8 rfl _ _ rfl (base := w.heap.size) (l := lv) rfl (HV.out.keep T8 ((Upd.refl [] wr).alloc _)) rfl (src_byte _ (byte_lo (n := gk) (by omega)) _) (by simp) (one8 _) ?c1 ?c2 ?c3 ?_)
   case c1 => (first | omega | (simp; omega))
   case c2 => (first | omega | (simp; omega))
   case c3 => (first | omega | (simp; omega))
   intro v2 w2 hown2 hb2
   have HU2 : Hid (Upd [] w w2) := Lib.hid ((HU.out.alloc _).below hb2 (Nat.le_refl _))
   have hE := HE.out
   rw [putU_lt h128, ← loB] at hE
   clear hb2 HV HU HE
   go_wp2_with fail
   go_ret
   exact ⟨_, rfl, by rw [← hE]; exact hown2, HU2.out⟩
  ·have hc : (128 : Int) ≤ (gk : Int) := by omega
   have hB := HU.out.size
   go_wp2_with (at_builtin; refine wpList_append_ready T8 rfl _ _ rfl (base := w.heap.size) (l := lv) rfl (HV.out.keep T8 ((Upd.refl [] wr).alloc _)) rfl (src_byte _ (byte_hi gk) _) (by simp) (one8 _) ?c1 ?c2 ?c3 ?_)
   case c1 => (first | omega | (simp; omega))
   case c2 => (first | omega | (simp; omega))
   case c3 => (first | omega | (simp; omega))
   intro v2 w2 hown2 hb2
   have HU2 : Hid (Upd [] w w2) := Lib.hid ((HU.out.alloc _).below hb2 (Nat.le_refl _))
   have HE2 : Hid ((lv ++ [hiB gk]) ++ putU (gk / 128) = l ++ putU n) := Lib.hid (by rw [← HE.out, putU_ge h128, ← hiB, List.append_assoc]; rfl)
   have HV2 : Hid (Rdy w2 w.heap.size v2 (lv ++ [hiB gk])) := Lib.hid (.inr hown2)
   clear hb2 HV HU HE hown2
   go_wp2_with fail
   go_roundg (gk / 128)
   case rel => exact ⟨_, by go_num, by omega, HV2, HE2, HU2⟩
   case measure => omega
end Go.Proofs.YtgpefiacbipfpaaGreatDoor

namespace Go.Proofs.YtgpefiacbipfpaaGreatDoor
open Go.RowKit
theorem strCells8 (s : ByteArray) : Lib.strCells s = flatG c8 s.data.toList := by
 rw [flat8]; simp [Lib.strCells]
set_option maxRecDepth 100000 in
set_option maxHeartbeats 1000000 in
theorem putText_ok (w : World) {v : Value} {l : Bs} (h : Rd w v l) (s : ByteArray) (hs : s.size ≤ 1000000) (hl : l.length ≤ 100000000) : Calls Tryz.prog 98 #[v, .string s] w fun e w' => ∃ v', e = .returned v' ∧ Ow w' w.heap.size v' (l ++ (putU s.size ++ s.data.toList)) ∧ Upd [] w w' := by
 have HC := Lib.hid (putUint_ok w h s.size (by omega) hl)
 clear h
 go_enter Tryz.func98, Tryz.ntmps98
 go_wp2_with fail
 refine HC.out.mono ?_
 rintro e w1 ⟨v1, rfl, hown, hU⟩
 have HU := Lib.hid hU
 have hsz := hU.size
 have hx := putU_len64 (n := s.size) (by omega)
 obtain ⟨i0, hi0, hz0, hz1, hz2⟩ := info_parts (show (Tryz.prog.info? 5).map (fun i => (i.zero, i.size, i.bytes)) = some (some (.int .u8 0), 1, 1) by kernel_rfl)
 have hlen : (l ++ putU s.size).length ≤ 100000010 := by rw [List.length_append]; omega
 clear hU HC
 go_wp2_with (at_builtin; refine Lib.wpList_append_own_string _ rfl _ _ 23 9 rfl w.heap.size 5 i0 Tryz.underlying23 Tryz.underlying9 hi0 hz0 hz1 hz2 _ _ _ rfl hown s rfl ?c1 ?c2 ?c3 ?_)
 case c1 => unfold maxLen; omega
 case c2 => omega
 case c3 => omega
 intro v2 w2 hown2 hg2 _
 have HU2 : Hid (Upd [] w w2) := Lib.hid (HU.out.grown hg2 (fun k hk => (hown.block k hk).1))
 clear hg2 HU hown
 go_wp2_with fail
 go_ret
 refine ⟨_, rfl, ?_, HU2.out⟩
 unfold Ow OwnG
 rw [← List.append_assoc, flatG_app, List.length_append, ← strCells8]
 simpa using hown2
theorem src_bytes4 (w : World) {x0 x1 x2 x3 : Int} {b0 b1 b2 b3 : UInt8} (h0 : x0 = b0.toNat) (h1 : x1 = b1.toNat) (h2 : x2 = b2.toNat) (h3 : x3 = b3.toNat) (ty : TypeId) :
  SrcG c8 (w.alloc (.cells #[.int .u8 x0, .int .u8 x1, .int .u8 x2, .int .u8 x3] ty)) (some ⟨w.heap.size, 0, none⟩) [b0, b1, b2, b3] :=
 src_new T8 (by subst h0 h1 h2 h3; exact heap_top _ _)
theorem byte_sh {n : Nat} (h : n < 4294967296) : (n : Int) % 256 = ((loB n).toNat : Int) ∧ (n : Int) / 256 % 256 = ((loB (n >>> 8)).toNat : Int) ∧ (n : Int) / 65536 % 256 = ((loB (n >>> 16)).toNat : Int) ∧ (n : Int) / 16777216 = ((loB (n >>> 24)).toNat : Int) := by
 simp only [loB, UInt8.toNat_ofNat', Nat.shiftRight_eq_div_pow]
 omega
set_option maxRecDepth 100000 in
set_option maxHeartbeats 1000000 in
theorem put32_ok (w : World) {v : Value} {l : Bs} (h : Rd w v l) (n : Nat) (hn : n < 4294967296) (hl : l.length ≤ 100000000) : Calls Tryz.prog 119 #[v, .int .u32 n] w fun e w' => ∃ v', e = .returned v' ∧ Ow w' w.heap.size v' (l ++ put32 n) ∧ Upd [] w w' := by
 obtain ⟨a, c, rfl, h1, h2, h3⟩ := h.slice
 have HR := Lib.hid (h.rdy w.heap.size)
 have HS := Lib.hid (byte_sh hn)
 clear h
 go_enter Tryz.func119, Tryz.ntmps119
 go_wp2_with fail
 refine (room_ok w a l.length c h1 h2 h3).mono ?_
 rintro e w1 ⟨rfl, rfl⟩
 go_wp2_with (at_builtin; refine wpList_append_ready T8 rfl _ _ rfl (base := w.heap.size) (l := l) rfl (HR.out.keep T8 ((Upd.refl [] w).alloc _)) rfl (src_bytes4 _ HS.out.1 HS.out.2.1 HS.out.2.2.1 HS.out.2.2.2 _) (by simp) (one8 _) ?c1 ?c2 ?c3 ?_)
 case c1 => (first | omega | (simp; done) | (simp; omega))
 case c2 => (first | omega | (simp; done) | (simp; omega))
 case c3 => (first | omega | (simp; done) | (simp; omega))
 intro v2 w2 hown2 hb2
 have HU2 : Hid (Upd [] w w2) := Lib.hid (((Upd.refl [] w).alloc _).below hb2 (Nat.le_refl _))
 clear hb2 HR
 go_wp2_with fail
 go_ret
 exact ⟨_, rfl, hown2, HU2.out⟩
abbrev tabC : Array Value := #[.int .u32 (crcTab 0), .int .u32 (crcTab 1), .int .u32 (crcTab 2), .int .u32 (crcTab 3), .int .u32 (crcTab 4), .int .u32 (crcTab 5), .int .u32 (crcTab 6), .int .u32 (crcTab 7),
 .int .u32 (crcTab 8), .int .u32 (crcTab 9), .int .u32 (crcTab 10), .int .u32 (crcTab 11), .int .u32 (crcTab 12), .int .u32 (crcTab 13), .int .u32 (crcTab 14), .int .u32 (crcTab 15)]
def tabUpto (i : Nat) : Array Value := ((List.range 16).map fun j => Value.int .u32 (if j < i then crcTab j else 0)).toArray
theorem tabUpto_set {i : Nat} (h : i < 16) : (tabUpto i).setIfInBounds i (.int .u32 (crcTab i)) = tabUpto (i + 1) := by
 apply Array.ext'
 simp only [tabUpto, Array.toList_setIfInBounds]
 apply List.ext_getElem?
 intro j
 simp only [List.getElem?_set, List.length_map, List.length_range, List.getElem?_map]
 by_cases e : i = j
 ·subst e; simp [h]
 ·rw [if_neg e]
  by_cases hj : j < 16
  ·simp only [List.getElem?_range hj, Option.map_some]
   congr 2
   by_cases h1 : j < i
   ·rw [if_pos h1, if_pos (by omega)]
   ·rw [if_neg h1, if_neg (by omega)]
  ·rw [List.getElem?_eq_none (by simp; omega)]; simp
theorem tabUpto_all : tabUpto 16 = tabC := rfl
theorem tabUpto_size (i : Nat) : (tabUpto i).size = 16 := by simp [tabUpto]
theorem tabUpto_one (i : Nat) : (tabUpto i).all (·.oneCell') = true := by
 rw [Array.all_eq_true_iff_forall_mem]
 intro v hv
 simp only [tabUpto, List.mem_toArray, List.mem_map] at hv
 obtain ⟨j, -, rfl⟩ := hv
 rfl
def crcSteps : Nat → Nat → Nat
 | 0, r => r
 | k + 1, r => crcSteps k (crcStep r)
theorem crcStep_int {r : Nat} (h : r < 4294967296) : bits .xor .u32 ((r : Int) / 2) (2197175160 * bits .and .u32 (r : Int) 1 % 4294967296) = ((crcStep r : Nat) : Int) := by
 have h1 := (bits32 (a := r) (b := 1) h (by omega)).2.1
 have h1' : bits .and .u32 (r : Int) 1 = ((r &&& 1 : Nat) : Int) := h1
 rw [h1']
 have e1 : (r : Int) / (2 : Int) = ((r >>> 1 : Nat) : Int) := by rw [Nat.shiftRight_eq_div_pow]; omega
 have e2 : (2197175160 * ((r &&& 1 : Nat) : Int)) % 4294967296 = ((0x82f63b78 * (r &&& 1) % 2 ^ 32 : Nat) : Int) := by omega
 rw [e1, e2]
 exact (bits32 (by rw [Nat.shiftRight_eq_div_pow]; omega) (Nat.mod_lt _ (by decide))).2.2
set_option maxRecDepth 100000 in
set_option maxHeartbeats 1000000 in
theorem table_ok (w : World) : Calls Tryz.prog 155 #[] w fun e w' => e = .returned (.agg tabC) ∧ Upd [] w w' := by
 go_enter Tryz.func155, Tryz.ntmps155
 go_wp2_with fail
 have hA : Hid (((w.alloc (.cells (tabUpto 0) 216)).alloc (.cells (tabUpto 0) 216)).heap[w.heap.size]? = some (.cells (tabUpto 0) 216 (0, 0)) ∧ ((w.alloc (.cells (tabUpto 0) 216)).alloc (.cells (tabUpto 0) 216)).heap[w.heap.size + 1]? = some (.cells (tabUpto 0) 216 (0, 0))) := by
  refine Lib.hid ⟨?_, ?_⟩
  ·rw [heap_alloc, if_neg (by simp), heap_top]
  ·rw [heap_alloc, if_pos (by simp)]
 go_loopg [4] 16 (fun k v wr => ∃ i : Nat, v = .int .i64 i ∧ i ≤ 16 ∧ k = 16 - i ∧ Hid (wr.heap[w.heap.size]? = some (.cells (tabUpto 0) 216 (0, 0)) ∧ wr.heap[w.heap.size + 1]? = some (.cells (tabUpto i) 216 (0, 0))) ∧ Hid (Upd [] w wr))
 case atStart => exact ⟨0, rfl, by omega, rfl, hA, Lib.hid (((Upd.refl [] w).alloc _).alloc _)⟩
 case round =>
  obtain ⟨i, rfl, hi, rfl, HB, HU⟩ := hrel
  obtain ⟨W1, rfl⟩ : ∃ W1, W1 = wr := ⟨_, rfl⟩
  have f1 : W1.frozen? ⟨w.heap.size + 1, i, none⟩ = false := frozen_blk HB.out.2 _
  by_cases h16 : i < 16
  ·have c1 : W1.cell? ⟨w.heap.size + 1, i, none⟩ = some (.int .u32 0) := by
    rw [cell_blk HB.out.2]
    simp [tabUpto, h16]
   have hlt : (i : Int) < 16 := by omega
   go_wp2_with fail
   go_loopg [3, 9] 4 (fun k r v wr => ∃ j x : Nat, v = .int .i64 j ∧ r = .int .u32 x ∧ j ≤ 4 ∧ k = 4 - j ∧ x < 4294967296 ∧ Hid (crcSteps (4 - j) x = crcTab i) ∧ wr = W1)
   case atStart => exact ⟨0, i, rfl, rfl, by omega, rfl, by omega, Lib.hid rfl, rfl⟩
   case round =>
    obtain ⟨j, x, rfl, rfl, hj, rfl, hx, HX, rfl⟩ := hrel
    by_cases h4 : j < 4
    ·have hlt4 : (j : Int) < 4 := by omega
     go_wp2_with fail
     go_roundg (4 - (j + 1))
     case rel => exact ⟨j + 1, crcStep x, by go_num, by rw [← crcStep_int hx], by omega, rfl, crcStep_lt hx, Lib.hid (by rw [← HX.out, show 4 - j = (4 - (j + 1)) + 1 by omega]; rfl), rfl⟩
     case measure => omega
    ·have hlt4 : ¬ (j : Int) < 4 := by omega
     obtain rfl : j = 4 := by omega
     have hX := HX.out
     simp only [Nat.sub_self, crcSteps] at hX
     subst hX
     go_wp2_with fail
     go_roundg (16 - (i + 1))
     case rel =>
      refine ⟨i + 1, by go_num, by omega, rfl, Lib.hid ⟨?_, ?_⟩, Lib.hid ?_⟩
      ·rw [heap_setCell, if_neg (by omega)]; exact HB.out.1
      ·rw [heap_setCell, if_pos rfl, HB.out.2]
       show some (Obj.cells ((tabUpto i).setIfInBounds i _) _ _) = _
       rw [tabUpto_set h16]
      ·exact HU.out.setCellNew (by omega) _ _
     case measure => omega
  ·have hlt : ¬ (i : Int) < 16 := by omega
   obtain rfl : i = 16 := by omega
   go_wp2_with (first
    | (refine wpList_load_row rfl 216 _ rfl (w.heap.size + 1) rfl _ (tabUpto 16) (0, 0) _ HB.out.2 Tryz.underlying216 rfl (by rw [tabUpto_size]; kernel_rfl) ?_)
    | (refine wpList_store_row rfl 216 _ _ rfl w.heap.size (tabUpto 16) rfl rfl _ (tabUpto 0) HB.out.1 (by rw [tabUpto_size]; kernel_rfl) (by rw [tabUpto_size, tabUpto_size]) (tabUpto_one 16) ?_)
    | fail)
   have hb : (W1.setRow w.heap.size (tabUpto 16)).heap[w.heap.size]? = some (.cells (tabUpto 16) 216 (0, 0)) := setRow_heap W1 _ _ _ _ _ HB.out.1
   refine bodyPost_ret (v := .agg (tabUpto 16)) (results_cell_row Tryz.results155 _ _ w.heap.size _ (tabUpto 16) (0, 0) _ rfl hb Tryz.underlying216 rfl (by rw [tabUpto_size]; kernel_rfl)) rfl ?_
   exact ⟨rfl, ⟨HU.out.os, HU.out.output, by simpa [World.setRow] using HU.out.size, fun k hk hn => by rw [setRow_other W1 _ k _ (by omega)]; exact HU.out.block k hk hn⟩⟩
end Go.Proofs.YtgpefiacbipfpaaGreatDoor

namespace Go.Proofs.YtgpefiacbipfpaaGreatDoor
open Go.RowKit
theorem tabC_at {i : Nat} (h : i < 16) : tabC[i]? = some (.int .u32 (crcTab i)) := by
 rw [← tabUpto_all]
 simp [tabUpto, h]
def crcHalf (x : Nat) : Nat := (x >>> 4) ^^^ crcTab (x &&& 15)
theorem crcByte_halves (r : Nat) (c : UInt8) : crcByte r c = crcHalf (crcHalf (r ^^^ c.toNat)) := rfl
theorem half_facts {x : Nat} (hx : x < 4294967296) : ∃ a y : Nat, a < 16 ∧ a = x &&& 15 ∧ y = crcHalf x ∧ y < 4294967296 ∧ bits .and .u32 (x : Int) 15 = (a : Int) ∧ bits .xor .u32 ((x : Int) / 16) (crcTab a : Int) = (y : Int) := by
 refine ⟨x &&& 15, crcHalf x, and15_lt x, rfl, rfl, crcHalf_lt hx, (bits32 (b := 15) hx (by omega)).2.1, ?_⟩
 have e1 : (x : Int) / (16 : Int) = ((x >>> 4 : Nat) : Int) := by rw [Nat.shiftRight_eq_div_pow]; omega
 rw [e1]
 exact (bits32 (by rw [Nat.shiftRight_eq_div_pow]; omega) (crcTab_lt (Nat.lt_trans (and15_lt x) (by decide)))).2.2
theorem fold_take_succ (l : Bs) (i : Nat) (h : i < l.length) (r : Nat) : (l.take (i + 1)).foldl crcByte r = crcByte ((l.take i).foldl crcByte r) l[i] := by
 rw [List.take_add_one, List.getElem?_eq_getElem h, List.foldl_append]
 rfl
set_option maxRecDepth 100000 in
set_option maxHeartbeats 2000000 in
theorem sum_ok (w : World) {v : Value} {l : Bs} (h : Rd w v l) : Calls Tryz.prog 120 #[v] w fun e w' => e = .returned (.int .u32 (sumB l)) ∧ Upd [] w w' := by
 obtain ⟨a, c, rfl, h1, h2, h3⟩ := h.slice
 have HR := Lib.hid h
 clear h
 go_enter Tryz.func120, Tryz.ntmps120
 go_wp2_with fail
 refine (table_ok w).mono ?_
 rintro e w1 ⟨rfl, hU1⟩
 have HU1 := Lib.hid hU1
 clear hU1
 go_wp2_with (first
    | (refine wpList_store_row rfl 216 _ _ rfl w1.heap.size tabC rfl rfl _ _ (heap_top _ _) (by kernel_rfl) rfl (tabUpto_one 16) ?_)
    | fail)
 have hW0 : Hid (((w1.alloc (.cells tabC 216)).heap[w1.heap.size]? = some (.cells tabC 216 (0, 0))) ∧ Upd [] w (w1.alloc (.cells tabC 216))) := Lib.hid ⟨heap_top _ _, HU1.out.alloc _⟩
 have hset : ∀ o : Array Value, (w1.alloc (.cells o 216)).setRow w1.heap.size tabC = w1.alloc (.cells tabC 216) := fun o => World.setRow_alloc_new _ _ _ _
 rewrite [hset]
 clear hset
 go_loopg [4, 10] l.length (fun k r v wr => ∃ i x : Nat, v = .int .i64 i ∧ r = .int .u32 x ∧ i ≤ l.length ∧ k = l.length - i ∧ x < 4294967296 ∧ Hid (x = (l.take i).foldl crcByte 0xffffffff) ∧ Hid (wr.heap[w1.heap.size]? = some (.cells tabC 216 (0, 0)) ∧ Upd [] w wr))
 case atStart => exact ⟨0, 4294967295, rfl, rfl, by omega, rfl, by omega, Lib.hid rfl, hW0⟩
 case round =>
  obtain ⟨i, x, rfl, rfl, hi, rfl, hx, HX, HB⟩ := hrel
  by_cases hil : i < l.length
  ·have hlt : (i : Int) < (l.length : Int) := by omega
   obtain ⟨-, -, -, hcell⟩ := (HR.out.keep HB.out.2).cell
   obtain ⟨b, off, rfl, hc⟩ := hcell (by omega)
   have hcb := hc i hil
   clear hc hcell
   obtain ⟨d, hd⟩ : ∃ d : Nat, d = l[i].toNat := ⟨_, rfl⟩
   have hd8 : d < 256 := by rw [hd]; exact l[i].toNat_lt
   rw [← hd] at hcb
   obtain ⟨x0, hx0⟩ : ∃ y : Nat, y = x ^^^ d := ⟨_, rfl⟩
   have hx0l : x0 < 4294967296 := by rw [hx0]; exact Nat.xor_lt_two_pow (n := 32) hx (by omega)
   have e0 : bits .xor .u32 (x : Int) (d : Int) = (x0 : Int) := by rw [hx0]; exact (bits32 hx (by omega)).2.2
   obtain ⟨a1, x1, ha1, ha1e, hx1e, hx1, f1, f2⟩ := half_facts hx0l
   obtain ⟨a2, x2, ha2, ha2e, hx2e, hx2, f3, f4⟩ := half_facts hx1
   have c1 : wr.cell? ⟨w1.heap.size, a1, none⟩ = some (.int .u32 (crcTab a1)) := by rw [cell_blk HB.out.1]; exact tabC_at ha1
   have c2 : wr.cell? ⟨w1.heap.size, a2, none⟩ = some (.int .u32 (crcTab a2)) := by rw [cell_blk HB.out.1]; exact tabC_at ha2
   have HX2 : Hid (x2 = (l.take (i + 1)).foldl crcByte 0xffffffff) := Lib.hid (by rw [fold_take_succ l i hil, ← HX.out, crcByte_halves, ← hd, ← hx0, ← hx1e, ← hx2e])
   clear HX hx0 hx1e hx2e ha1e ha2e hd
   go_wp2_with fail
   go_roundg (l.length - (i + 1))
   case rel => exact ⟨i + 1, x2, by go_num, rfl, by omega, rfl, hx2, HX2, HB⟩
   case measure => omega
  ·have hlt : ¬ (i : Int) < (l.length : Int) := by omega
   obtain rfl : i = l.length := by omega
   go_wp2_with fail
   go_ret
   have hX := HX.out
   rw [List.take_length] at hX
   have e : bits .xor .u32 IntKind.u32.max (x : Int) = ((4294967295 ^^^ x : Nat) : Int) := (bits32 (a := 4294967295) (by omega) hx).2.2
   refine ⟨?_, HB.out.2⟩
   rw [e, hX]
   rfl
end Go.Proofs.YtgpefiacbipfpaaGreatDoor
