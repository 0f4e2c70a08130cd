/- Segment: the name of a segment (strconv.Itoa of a small number). Segment: rows of frames and of numbers; own; the codec's Frame at five bytes; PutFrame of a frame that is too long. The document's codec: PutUint, PutFrame. A cache: doubly linked lists in blocks, a map: no program in sight. (Turned from wip/bcache.) -/
import Derived.Laws.Strings2
import Derived.Deep.RegionHeld3
import Derived.Deep.DeepCutAuto
import Derived.Handy
import Derived.OpenShut
import Derived.Lib.Hide
import Derived.Deep.LoopGhost
import Derived.Test.YtgpefiacbipfpaaGreatDoorC03
import Derived.Test.YtgpefiacbipfpaaGreatDoorC11
import Derived.Test.YtgpefiacbipfpaaGreatDoorC05
import Derived.Test.YtgpefiacbipfpaaGreatDoorC07
import Derived.Test.YtgpefiacbipfpaaGreatDoorC06
import Derived.Test.YtgpefiacbipfpaaGreatDoorC02
namespace Go.Proofs.YtgpefiacbipfpaaGreatDoor
open Go.RowKit
theorem digit_one : ∀ n : Fin 10, (⟨#[48, 49, 50, 51, 52, 53, 54, 55, 56, 57, 97, 98, 99, 100, 101, 102, 103, 104, 105, 106, 107, 108, 109, 110, 111, 112, 113, 114, 115, 116, 117, 118, 119, 120, 121, 122]⟩ : ByteArray).extract n.val (n.val + 1) = ⟨((nameS n.val).drop 4).toArray⟩ := by decide +kernel
theorem digit_two : ∀ n : Fin 100, 10 ≤ n.val → (⟨#[48, 48, 48, 49, 48, 50, 48, 51, 48, 52, 48, 53, 48, 54, 48, 55, 48, 56, 48, 57, 49, 48, 49, 49, 49, 50, 49, 51, 49, 52, 49, 53, 49, 54, 49, 55, 49, 56, 49, 57, 50, 48, 50, 49, 50, 50, 50, 51, 50, 52, 50, 53, 50, 54, 50, 55, 50, 56, 50, 57, 51, 48, 51, 49, 51, 50, 51, 51, 51, 52, 51, 53, 51, 54, 51, 55, 51, 56, 51, 57, 52, 48, 52, 49, 52, 50, 52, 51, 52, 52, 52, 53, 52, 54, 52, 55, 52, 56, 52, 57, 53, 48, 53, 49, 53, 50, 53, 51, 53, 52, 53, 53, 53, 54, 53, 55, 53, 56, 53, 57, 54, 48, 54, 49, 54, 50, 54, 51, 54, 52, 54, 53, 54, 54, 54, 55, 54, 56, 54, 57, 55, 48, 55, 49, 55, 50, 55, 51, 55, 52, 55, 53, 55, 54, 55, 55, 55, 56, 55, 57, 56, 48, 56, 49, 56, 50, 56, 51, 56, 52, 56, 53, 56, 54, 56, 55, 56, 56, 56, 57, 57, 48, 57, 49, 57, 50, 57, 51, 57, 52, 57, 53, 57, 54, 57, 55, 57, 56, 57, 57]⟩ : ByteArray).extract (2 * n.val) (2 * n.val + 2) = ⟨((nameS n.val).drop 4).toArray⟩ := by decide +kernel
theorem digit_all : ∀ n : Fin 100, (⟨#[115, 101, 103, 46]⟩ : ByteArray) ++ ⟨((nameS n.val).drop 4).toArray⟩ = nmS n.val := by decide +kernel
set_option maxRecDepth 100000 in
theorem small_ok (w : World) (n : Nat) (hn : n < 100) : Calls Tryz.prog 185 #[.int .i64 n] w fun e w' => e = .returned (.string ⟨((nameS n).drop 4).toArray⟩) ∧ w' = w := by
 go_enter Tryz.func185, Tryz.ntmps185
 by_cases h : n < 10
 ·have h' : (n : Int) < 10 := by omega
  have hr := run_slice_string (P := Tryz.prog) w 9 ⟨#[48, 49, 50, 51, 52, 53, 54, 55, 56, 57, 97, 98, 99, 100, 101, 102, 103, 104, 105, 106, 107, 108, 109, 110, 111, 112, 113, 114, 115, 116, 117, 118, 119, 120, 121, 122]⟩ .i64 .i64 (n : Int) ((n : Int) + 1) Tryz.underlying9 (by omega) (by omega) (by show (n : Int) + 1 ≤ ((36 : Nat) : Int); omega)
  have h1 : ((n : Int) + 1).toNat = n + 1 := by omega
  rw [Int.toNat_natCast, h1, digit_one ⟨n, h⟩] at hr
  go_wp2_with fail
  go_ret
  exact ⟨rfl, rfl⟩
 ·have h' : ¬ (n : Int) < 10 := by omega
  have hr := run_slice_string (P := Tryz.prog) w 9 ⟨#[48, 48, 48, 49, 48, 50, 48, 51, 48, 52, 48, 53, 48, 54, 48, 55, 48, 56, 48, 57, 49, 48, 49, 49, 49, 50, 49, 51, 49, 52, 49, 53, 49, 54, 49, 55, 49, 56, 49, 57, 50, 48, 50, 49, 50, 50, 50, 51, 50, 52, 50, 53, 50, 54, 50, 55, 50, 56, 50, 57, 51, 48, 51, 49, 51, 50, 51, 51, 51, 52, 51, 53, 51, 54, 51, 55, 51, 56, 51, 57, 52, 48, 52, 49, 52, 50, 52, 51, 52, 52, 52, 53, 52, 54, 52, 55, 52, 56, 52, 57, 53, 48, 53, 49, 53, 50, 53, 51, 53, 52, 53, 53, 53, 54, 53, 55, 53, 56, 53, 57, 54, 48, 54, 49, 54, 50, 54, 51, 54, 52, 54, 53, 54, 54, 54, 55, 54, 56, 54, 57, 55, 48, 55, 49, 55, 50, 55, 51, 55, 52, 55, 53, 55, 54, 55, 55, 55, 56, 55, 57, 56, 48, 56, 49, 56, 50, 56, 51, 56, 52, 56, 53, 56, 54, 56, 55, 56, 56, 56, 57, 57, 48, 57, 49, 57, 50, 57, 51, 57, 52, 57, 53, 57, 54, 57, 55, 57, 56, 57, 57]⟩ .i64 .i64 ((n : Int) * 2) ((n : Int) * 2 + 2) Tryz.underlying9 (by omega) (by omega) (by show (n : Int) * 2 + 2 ≤ ((200 : Nat) : Int); omega)
  have h1 : ((n : Int) * 2).toNat = 2 * n := by omega
  have h2 : ((n : Int) * 2 + 2).toNat = 2 * n + 2 := by omega
  rw [h1, h2, digit_two ⟨n, hn⟩ (by show 10 ≤ n; omega)] at hr
  go_wp2_with fail
  go_ret
  exact ⟨rfl, rfl⟩
set_option maxRecDepth 100000 in
theorem itoa_ok (w : World) (n : Nat) (hn : n < 100) : Calls Tryz.prog 114 #[.int .i64 n] w fun e w' => e = .returned (.string ⟨((nameS n).drop 4).toArray⟩) ∧ w' = w := by
 have hI : Calls Tryz.prog 152 #[.int .i64 n] w fun e w' => e = .returned (.string ⟨((nameS n).drop 4).toArray⟩) ∧ w' = w := by
  have hF : Calls Tryz.prog 169 #[.int .i64 n, .int .i64 10] w fun e w' => e = .returned (.string ⟨((nameS n).drop 4).toArray⟩) ∧ w' = w := by
   have hn' : (n : Int) < 100 := by omega
   have h0 : (0 : Int) ≤ (n : Int) := by omega
   go_enter Tryz.func169, Tryz.ntmps169
   go_wp2_with fail
   refine (small_ok w n hn).mono ?_
   rintro r w' ⟨rfl, rfl⟩
   go_wp2_with fail
   go_ret
   exact ⟨rfl, rfl⟩
  go_enter Tryz.func152, Tryz.ntmps152
  go_wp2_with fail
  refine hF.mono ?_
  rintro r w' ⟨rfl, rfl⟩
  go_wp2_with fail
  go_ret
  exact ⟨rfl, rfl⟩
 go_enter Tryz.func114, Tryz.ntmps114
 go_wp2_with fail
 refine hI.mono ?_
 rintro r w' ⟨rfl, rfl⟩
 go_wp2_with fail
 go_ret
 exact ⟨rfl, rfl⟩
set_option maxRecDepth 100000 in
theorem sname_ok (w : World) (n : Nat) (hn : n < 100) : Calls Tryz.prog 55 #[.int .i64 n] w fun e w' => e = .returned (.string (nmS n)) ∧ w' = w := by
 have HD := Lib.hid (digit_all ⟨n, hn⟩)
 have hl : ¬ 9223372036854775807 < 4 + ((nameS n).length - 4) := by have := nameS_len n; omega
 go_enter Tryz.func55, Tryz.ntmps55
 go_wp2_with fail
 refine (itoa_ok w n hn).mono ?_
 rintro r w' ⟨rfl, rfl⟩
 go_wp2_with fail
 go_ret
 exact ⟨congrArg (fun z => Ending.returned (.string z)) HD.out, rfl⟩
end Go.Proofs.YtgpefiacbipfpaaGreatDoor

namespace Go.Proofs.YtgpefiacbipfpaaGreatDoor
open Go.RowKit
structure FrR where
 k : UInt8
 dv : Value
 d : Bs
def FrR.fr (x : FrR) : Frm := (x.k, x.d)
def cFr (x : FrR) : List Value := [.int .u8 x.k.toNat, x.dv]
theorem TFr : RowT cFr 2 32 22 25 where
 len := fun _ => rfl
 pos := by omega
 und := Tryz.underlying22
 info := by
  obtain ⟨i, h, h1, h2, h3⟩ := info_parts (show (Tryz.prog.info? 25).map (fun i => (i.zero, i.size, i.bytes)) = some (some (.agg #[.int .u8 0, .slice none 0 0]), 2, 32) by kernel_rfl)
  exact ⟨i, _, h, h1, h2, h3, rfl⟩
theorem oneFr {w : World} {l : List FrR} (h : ∀ x ∈ l, Rd w x.dv x.d) : ∀ x ∈ l, ∀ u ∈ cFr x, u.oneCell' = true := by
 intro x hx u hu
 obtain ⟨a, c, e, -⟩ := (h x hx).slice
 simp only [cFr, e, List.mem_cons, List.not_mem_nil, or_false] at hu
 rcases hu with rfl | rfl <;> rfl
abbrev OwFr (w : World) (base : Nat) (v : Value) (l : List FrR) : Prop := OwnG cFr 25 2 w base v l
abbrev cI (n : Nat) : List Value := [.int .i64 n]
theorem TI : RowT cI 1 8 31 3 where
 len := fun _ => rfl
 pos := by omega
 und := Tryz.underlying31
 info := by
  obtain ⟨i, h, h1, h2, h3⟩ := info_parts (show (Tryz.prog.info? 3).map (fun i => (i.zero, i.size, i.bytes)) = some (some (.int .i64 0), 1, 8) by kernel_rfl)
  exact ⟨i, _, h, h1, h2, h3, rfl⟩
theorem oneI (l : List Nat) : ∀ x ∈ l, ∀ u ∈ cI x, u.oneCell' = true := by
 intro x _ u hu
 simp only [List.mem_cons, List.not_mem_nil, or_false] at hu
 subst hu; rfl
abbrev OwI (w : World) (base : Nat) (v : Value) (l : List Nat) : Prop := OwnG cI 3 1 w base v l
set_option maxRecDepth 100000 in
set_option maxHeartbeats 1000000 in
theorem cloneI_ok (w : World) {v : Value} {l : List Nat} (h : RdG cI 1 w v l) (hl : l.length ≤ 100000000) : Calls Tryz.prog 61 #[v] w fun e w' => ∃ v', e = .returned v' ∧ OwnG cI 3 1 w' w.heap.size v' l ∧ Upd [] w w' := by
 obtain ⟨a, c, rfl, h1, h2, h3⟩ := h.slice
 have HL := Lib.hid h
 clear h
 rcases a with _ | ad
 ·obtain ⟨h4, rfl⟩ := h3 rfl
  obtain rfl := List.eq_nil_of_length_eq_zero h4
  have hop : ∀ W, (binOp .eql 31 (.slice none 0 0) (.slice none 0 0)).run Tryz.prog W = .ok (.bool true) W := fun W => Lib.run_eql_slice_nil W _ _ _ _ _ _ _ TI.und
  go_enter Tryz.func61, Tryz.ntmps61
  go_wp2_with fail
  go_ret
  exact ⟨_, rfl, OwnG.nil _ _, Upd.refl _ _⟩
 ·have hop : ∀ W, (binOp .eql 31 (.slice (some ad) l.length c) (.slice none 0 0)).run Tryz.prog W = .ok (.bool false) W := fun W => Lib.run_eql_slice_nil W _ _ _ _ _ _ _ TI.und
  go_enter Tryz.func61, Tryz.ntmps61
  go_wp2_with (at_builtin; refine wpList_append_G TI rfl _ _ rfl (l := []) (base := w.heap.size) rfl (OwnG.empty TI (heap_top _ _) (Nat.le_refl _)) rfl (SlAt.srcG TI (fun _ _ _ h => h) (HL.out.keep TI ((Upd.refl [] w).alloc _)).sl) (oneI _) ?c1 ?c2 ?c3 ?_)
  case c1 => (first | omega | (simp; done) | (simp; omega))
  case c2 => (first | omega | (simp; done) | (simp; omega))
  case c3 => (first | omega | (simp; done) | (simp; omega))
  intro v2 w2 hown2 hg2 _
  have HU2 : Hid (Upd [] w w2) := Lib.hid (((Upd.refl [] w).alloc _).grown hg2 (fun g hg => by simp [Value.ownBlock] at hg; omega))
  clear hg2
  go_wp2_with fail
  go_ret
  exact ⟨_, rfl, by simpa using hown2, HU2.out⟩
theorem ret_own {fn : Func} {R : Ending → World → Prop} {a : Act} {W : World} {B : Nat} {k : Int} {v : Value} (hr : fn.results = #[.cell 2 25])
  (hs : a.tmps.getD 2 undef = .pointer (some ⟨B, 0, none⟩)) (z0 : W.cell? ⟨B, 0, none⟩ = some (.int .u8 k)) (z1 : W.cell? ⟨B, 1, none⟩ = some v) (hd : a.defers = []) (h : R (.returned (.agg #[.int .u8 k, v])) W) : bodyPost Tryz.prog fn R .ret a W := by
 refine bodyPost_ret (v := .agg #[.int .u8 k, v]) ?_ hd h
 have hs' := hs
 simp only [Array.getD_eq_getD_getElem?] at hs'
 simp [results, hr, hs', go_sem, z0, z1]
abbrev boxFv (k : UInt8) (v : Value) : Obj := .cells #[.int .u8 k.toNat, v] 25 (0, 0)
theorem held_far {X : World} {B : Nat} {v v' x y : Value} (b : Nat) (hb : b < B) (h : X.cell? ⟨b, 0, none⟩ = some x ∧ X.cell? ⟨b, 1, none⟩ = some y) : ((X.setCell ⟨B, 0, none⟩ v).setCell ⟨B, 1, none⟩ v').cell? ⟨b, 0, none⟩ = some x ∧ ((X.setCell ⟨B, 0, none⟩ v).setCell ⟨B, 1, none⟩ v').cell? ⟨b, 1, none⟩ = some y := by
 constructor
 ·rw [World.cell?_setCell_far _ _ _ _ (fun e => by dsimp only at e; omega), World.cell?_setCell_far _ _ _ _ (fun e => by dsimp only at e; omega)]; exact h.1
 ·rw [World.cell?_setCell_far _ _ _ _ (fun e => by dsimp only at e; omega), World.cell?_setCell_far _ _ _ _ (fun e => by dsimp only at e; omega)]; exact h.2
theorem heap_keepA' {w : World} {b : Nat} {o : Obj} (o' : Obj) (h : w.heap[b]? = some o) : (w.alloc o').heap[b]? = some o := (((Upd.refl [] w).alloc o').block b (lt_of_blk h) (by simp)).trans h
set_option maxRecDepth 100000 in
set_option maxHeartbeats 2000000 in
theorem own_ok (w : World) (k : UInt8) {u : Value} {d : Bs} (hd : Rd w u d) (hd2 : d.length ≤ 100000000) :
  Calls Tryz.prog 63 #[.agg #[.int .u8 k.toNat, u]] w fun e w' => ∃ v', e = .returned (.agg #[.int .u8 k.toNat, v']) ∧ Ow w' w.heap.size v' d ∧ Upd [] w w' := by
 obtain ⟨a, c, rfl, h1, h2, h3⟩ := hd.slice
 have HD := Lib.hid hd
 clear hd
 go_enter Tryz.func63, Tryz.ntmps63
 go_upto_region 1 with (fail)
 have hb0 := heap_keepA' (.cells #[.int .u8 0, .slice none 0 0] 25 (0, 0)) (heap_top w (boxFv k (.slice a d.length c)))
 have hb1 := heap_top (w.alloc (boxFv k (.slice a d.length c))) (.cells #[.int .u8 0, .slice none 0 0] 25 (0, 0))
 have hu : Upd [] w ((w.alloc (boxFv k (.slice a d.length c))).alloc (.cells #[.int .u8 0, .slice none 0 0] 25 (0, 0))) := ((Upd.refl [] w).alloc _).alloc _
 rw [World.size_alloc] at hb1
 generalize (w.alloc (boxFv k (.slice a d.length c))).alloc (.cells #[.int .u8 0, .slice none 0 0] 25 (0, 0)) = W at *
 have HU := Lib.hid hu
 have HB := Lib.hid hb1
 have p0 := cell_blk hb0 0
 have p1 := cell_blk hb0 1
 simp only [List.getElem?_toArray, List.getElem?_cons_zero, List.getElem?_cons_succ] at p0 p1
 have HC := Lib.hid fun (V : World) (u : Upd [] w V) => clone8_ok V (HD.out.keep u).g hd2
 clear hb0 hb1 hu
 go_region_held3 (fun w' => w'.cell? ⟨w.heap.size, 0, none⟩ = some (.int .u8 k.toNat) ∧ w'.cell? ⟨w.heap.size, 1, none⟩ = some (.slice a d.length c))
  (first
   | (with_reducible exact held2 (Upd.refl [] W).drew ⟨p0, p1⟩)
   | (with_reducible exact held2 hv6 ⟨p0, p1⟩)
   | (with_reducible exact held_far _ (Nat.lt_succ_self _) (held2 hv6 ⟨p0, p1⟩)))
  (first
   | (go_at_call 92; (with_reducible refine (HC.out _ ?_).mono ?_); (exact HU.out.drew); rintro e w6 ⟨v6, rfl, ho6, hu6⟩; obtain ⟨a6, c6, rfl⟩ := ho6.slice; have hv6 : Upd [] W w6 := (Upd.refl [] W).drew.trans hu6; have hB6 := (hv6.block _ (by exact lt_of_blk HB.out) (by simp)).trans HB.out; have z0 := cell_blk hB6 0; have z1 := cell_blk hB6 1; have f0 := frozen_blk hB6 0; have f1 := frozen_blk hB6 1))
 go_wp2_with fail
 have hb3 := box_set2 hB6 (.int .u8 k.toNat) (.slice a6 d.length c6)
 refine ret_own (v := .slice a6 d.length c6) rfl rfl (cell_blk hb3 0) (cell_blk hb3 1) rfl ⟨_, rfl, ?_, ?_⟩
 ·refine OwnG.base (a := W.heap.size) (ho6.upd (((Upd.refl [w.heap.size + 1] w6).setCell (by simp) _ _).setCell (by simp) _ _) fun j hj q => ?_) HU.out.size
  have h1 := (ho6.block j q).1
  have h2 := lt_of_blk HB.out
  rw [heap_drew] at h1
  rw [List.mem_singleton] at hj
  omega
 ·exact ((HU.out.trans hv6).setCellNew (Nat.le_succ _) _ _).setCellNew (Nat.le_succ _) _ _
set_option maxRecDepth 100000 in
set_option maxHeartbeats 2000000 in
theorem frame_five (w : World) {v : Value} {l : Bs} (h : Rd w v l) (h5 : l.length = 5) : Calls Tryz.prog 115 #[v] w fun e w' => FrameV w.heap.size w' e (0, [], 0, 10) ∧ Upd [] w w' := by
 obtain ⟨a, c, rfl, h1, h2, h3⟩ := h.slice
 rw [h5] at h1 h3 h ⊢
 obtain ⟨ad, rfl⟩ : ∃ ad, a = some ad := by
  cases a with
  | none => exact absurd (h3 rfl).1 (by omega)
  | some ad => exact ⟨ad, rfl⟩
 obtain ⟨-, -, -, hcell⟩ := h.cell
 obtain ⟨b, off, e, hc⟩ := hcell (by omega)
 cases e
 by_cases hc5 : c = 5
 ·subst hc5
  have HU : Hid (∀ V, Upd [] w V → Calls Tryz.prog 130 #[.slice (some ⟨b, off, none⟩) 0 0] V fun e w' => e = .returned (.tuple #[.int .u64 (getUint []).1, .int .i64 (getUint []).2.1, .int .i64 (getUint []).2.2]) ∧ w' = V) := Lib.hid fun V u => uint_ok V (Rd.empty (by unfold maxLen; omega) (fun q => by cases q))
  clear hcell hc h
  go_enter Tryz.func115, Tryz.ntmps115
  go_wp2_with fail
  refine (HU.out _ ((Upd.refl [] w).alloc _)).mono ?_
  rintro r w1 ⟨rfl, rfl⟩
  have h1' : ¬ ((getUint []).2.2 : Int) = 0 := by decide
  go_wp2_with fail
  exact ret_frame Tryz.results115 rfl (cell_blk (heap_top _ _) 0) (cell_blk (heap_top _ _) 1) rfl ⟨⟨_, rfl, Rd.nil _, nil_new _⟩, (Upd.refl [] w).alloc _⟩
 ·have HU : Hid (∀ V, Upd [] w V → Calls Tryz.prog 130 #[.slice (some ⟨b, off + 5, none⟩) 0 (c - 5)] V fun e w' => e = .returned (.tuple #[.int .u64 (getUint []).1, .int .i64 (getUint []).2.1, .int .i64 (getUint []).2.2]) ∧ w' = V) := Lib.hid fun V u => uint_ok V (Rd.empty (by unfold maxLen; omega) (fun q => by cases q))
  clear hcell hc h
  go_enter Tryz.func115, Tryz.ntmps115
  go_wp2_with fail
  refine (HU.out _ ((Upd.refl [] w).alloc _)).mono ?_
  rintro r w1 ⟨rfl, rfl⟩
  have h1' : ¬ ((getUint []).2.2 : Int) = 0 := by decide
  go_wp2_with fail
  exact ret_frame Tryz.results115 rfl (cell_blk (heap_top _ _) 0) (cell_blk (heap_top _ _) 1) rfl ⟨⟨_, rfl, Rd.nil _, nil_new _⟩, (Upd.refl [] w).alloc _⟩
theorem getFrame_five {l : Bs} (h : l.length = 5) : getFrame l = (0, [], 0, 10) := by
 have hd : l.drop 5 = [] := List.drop_eq_nil_of_le (by omega)
 unfold getFrame
 rw [if_neg (by omega), hd]
 rfl
theorem frame_all (w : World) {v : Value} {l : Bs} (h : Rd w v l) : Calls Tryz.prog 115 #[v] w fun e w' => FrameV w.heap.size w' e (getFrame l) ∧ Upd [] w w' := by
 by_cases h5 : l.length = 5
 ·rw [getFrame_five h5]; exact frame_five w h h5
 ·exact frame_ok w h h5
set_option maxRecDepth 100000 in
set_option maxHeartbeats 2000000 in
theorem putFrame_long (w : World) (v : Value) {u : Value} {d : Bs} (k : UInt8) (hd : Rd w u d) (hd2 : 2000 < d.length) :
  Calls Tryz.prog 62 #[v, .agg #[.int .u8 k.toNat, u]] w fun e w' => e = .returned (.tuple #[.slice none 0 0, .int .i64 12]) ∧ Upd [] w w' := by
 obtain ⟨a, c, rfl, h1, h2, h3⟩ := hd.slice
 clear hd
 have hn : (2000 : Int) < (d.length : Int) := by omega
 go_enter Tryz.func62, Tryz.ntmps62
 go_wp2_with fail
 go_ret2
 exact ⟨rfl, (Upd.refl [] w).alloc _⟩
end Go.Proofs.YtgpefiacbipfpaaGreatDoor

namespace Go.Proofs.YtgpefiacbipfpaaGreatDoor
open Go.RowKit
set_option maxRecDepth 100000 in
set_option maxHeartbeats 2000000 in
theorem rputUint_ok (w : World) (n : Nat) (hn : n < 1000000) : Calls Tryz.prog 34 #[.int .u64 n] w fun e w' => ∃ v', e = .returned v' ∧ Ow w' w.heap.size v' (putU n) ∧ Upd [] w w' := by
 have HL := Lib.hid (putU_len 2 n (by omega))
 go_enter Tryz.func34, Tryz.ntmps34
 go_wp2_with fail
 go_loopg [0, 3] (n + 1) (fun gh s0 s3 wr => ∃ (m : Nat) (P : Bs), s0 = .int .u64 m ∧ gh = m + 1 ∧ m < 1000000 ∧ P.length ≤ 3 ∧ Hid (Ow wr w.heap.size s3 P ∧ Upd [] w wr ∧ P ++ putU m = putU n))
 case atStart => exact ⟨n, [], rfl, rfl, hn, by simp, Lib.hid ⟨OwnG.nil _ _, Upd.refl _ _, rfl⟩⟩
 case round =>
  obtain ⟨m, P, rfl, rfl, hm, hP, HS⟩ := hrel
  obtain ⟨a3, c3, m3, hm3, rfl⟩ := HS.out.1.sliceM
  clear hm3
  by_cases h1 : m < 128
  ·have h1' : ¬ (128 : Int) ≤ (m : Int) := by omega
   have hdt : (UInt8.ofNat m).toNat = m := by rw [UInt8.toNat_ofNat']; omega
   have HB := Lib.hid hdt
   have hm8 : (m : Int) < 128 := by omega
   clear hdt
   go_wp2_with (first
    | (at_builtin; refine wpList_append_G T8 rfl _ _ rfl (base := w.heap.size) (l := P) (r := [UInt8.ofNat m]) (by rfl) (HS.out.1.upd ((Upd.refl [] wr).alloc _) (by simp)) (by rfl) (src_new T8 (ty := 5) (B := wr.heap.size) (by rw [show flatG c8 [UInt8.ofNat m] = [.int .u8 m] by simp [flatG, c8, HB.out]]; exact heap_top' _ _ _ rfl)) (one8 _) ?c1 ?c2 ?c3 ?_)
    | fail)
   case c1 => first | omega | (simp; omega)
   case c2 => first | omega | (simp; omega)
   case c3 => have := HS.out.2.1.size; simp; omega
   intro v4 w4 ho4 hg4 hn4
   have hu4 : Upd [] w w4 := (HS.out.2.1.alloc _).grown hg4 (fun g hg => (HS.out.1.block g hg).1)
   have h := HS.out.2.2
   rw [putU_lt h1] at h
   rw [h] at ho4
   have H4 := Lib.hid (And.intro ho4 hu4)
   obtain ⟨a4, c4, m4, hm4, rfl⟩ := ho4.sliceM
   clear ho4 hu4 hg4 hn4 hm4 h
   go_wp2_with fail
   go_ret
   exact ⟨_, rfl, H4.out⟩
  ·have h1' : (128 : Int) ≤ (m : Int) := by omega
   obtain ⟨d, hd⟩ : ∃ d, d = m % 128 := ⟨_, rfl⟩
   obtain ⟨q, hq⟩ : ∃ q, q = m / 128 := ⟨_, rfl⟩
   have q1 : (m : Int) % 128 = (d : Int) := by omega
   have q2 : (m : Int) / 128 = (q : Int) := by omega
   have hd8 : d < 128 := by omega
   have hqm : q < m := by omega
   obtain ⟨cb, hcb⟩ : ∃ cb, cb = UInt8.ofNat (d + 128) := ⟨_, rfl⟩
   have hdt : (UInt8.ofNat (d + 128)).toNat = 128 + d := by rw [UInt8.toNat_ofNat']; omega
   have HB := Lib.hid hdt
   have HN : Hid ((P ++ [cb]) ++ putU q = putU n) := Lib.hid (by
    rw [hcb, ← HS.out.2.2, putU_ge h1, hd, hq, List.append_assoc]; rfl)
   have hP2 : P.length + 1 ≤ 3 := by
    have h := congrArg List.length HN.out
    have := putU_pos q
    have := HL.out
    simp at h
    omega
   have hd8' : (128 : Int) + (d : Int) < 256 := by omega
   have F8 : Hid (flatG c8 [cb] = [.int .u8 ((128 : Int) + (d : Int))]) := Lib.hid (by
    have : (cb.toNat : Int) = 128 + (d : Int) := by rw [hcb, hdt]; omega
    show [Value.int .u8 (cb.toNat : Int)] = _
    rw [this])
   clear hd hq hdt hcb
   go_wp2_with (first
    | (at_builtin; refine wpList_append_G T8 rfl _ _ rfl (base := w.heap.size) (l := P) (r := [cb]) (by rfl) (HS.out.1.upd ((Upd.refl [] wr).alloc _) (by simp)) (by rfl) (src_new T8 (ty := 5) (B := wr.heap.size) (by rw [F8.out]; exact heap_top' _ _ _ rfl)) (one8 _) ?c1 ?c2 ?c3 ?_)
    | fail)
   case c1 => first | omega | (simp; omega)
   case c2 => first | omega | (simp; omega)
   case c3 => have := HS.out.2.1.size; simp; omega
   intro v4 w4 ho4 hg4 hn4
   have hu4 : Upd [] w w4 := (HS.out.2.1.alloc _).grown hg4 (fun g hg => (HS.out.1.block g hg).1)
   have H4 := Lib.hid (And.intro ho4 (And.intro hu4 HN.out))
   obtain ⟨a4, c4, m4, hm4, rfl⟩ := ho4.sliceM
   clear ho4 hu4 hg4 hn4 hm4 HN
   go_wp2_with fail
   go_roundg (q + 1)
   case measure => omega
   case rel => exact ⟨q, P ++ [cb], by go_num, rfl, by omega, by rw [List.length_append, List.length_singleton]; omega, H4⟩
theorem blk_keepU {w w' : World} (u : Upd [] w w') {b : Nat} {o : Obj} (h : w.heap[b]? = some o) : w'.heap[b]? = some o := (u.block b (lt_of_blk h) (by simp)).trans h
theorem Ow.lit {w : World} {base B : Nat} {k : UInt8} (hB : w.heap[B]? = some (.cells #[.int .u8 k.toNat] 5 (0, 0))) (hb : base ≤ B) : Ow w base (.slice (some ⟨B, 0, none⟩) 1 1) [k] :=
 ⟨rfl, .inr ⟨B, 1, #[.int .u8 k.toNat], rfl, hb, hB, Nat.le_refl _, by unfold maxLen; omega, rfl, rfl⟩⟩
theorem Ow.srcs {w : World} {base n c : Nat} {a : Option Addr} {l : Bs} (h : Ow w base (.slice a n c) l) : ∀ X, Upd [] w X → SrcG c8 X a l := fun X u => OwnG.src T8 (h.upd u (by simp))
set_option maxRecDepth 100000 in
set_option maxHeartbeats 4000000 in
theorem rputFrame_ok (w : World) (k : UInt8) {u : Value} {d : Bs} (hd : Rd w u d) (hdl : d.length ≤ 140737488351232) :
  Calls Tryz.prog 9 #[.agg #[.int .u8 k.toNat, u]] w fun e w' => Upd [] w w' ∧ ((d.length ≤ 2000 ∧ ∃ v', e = .returned (.tuple #[v', .int .i64 0]) ∧ Ow w' w.heap.size v' (putFrame k d)) ∨ (2000 < d.length ∧ e = .returned (.tuple #[.slice none 0 0, .int .i64 12]))) := by
 obtain ⟨a, c, rfl, h1, h2, h3⟩ := hd.slice
 obtain ⟨n, hn⟩ : ∃ n, n = d.length := ⟨_, rfl⟩
 rw [← hn] at hd hdl h1 h3 ⊢
 have HD := Lib.hid (And.intro hd hn)
 have hn' : (n : Int) ≤ 140737488351232 := by omega
 clear hd hn h3
 by_cases hl : 2000 < n
 ·have hl' : (2000 : Int) < (n : Int) := by omega
  go_enter Tryz.func9, Tryz.ntmps9
  go_wp2_with fail
  go_ret2
  exact ⟨(Upd.refl [] w).alloc _, .inr ⟨by omega, rfl⟩⟩
 ·have hl' : ¬ (2000 : Int) < (n : Int) := by omega
  have hl2 : (n : Int) ≤ 2000 := by omega
  go_enter Tryz.func9, Tryz.ntmps9
  go_upto_region 3 with (fail)
  have hb0 := heap_top w (boxFv k (.slice a n c))
  have hu0 := (Upd.refl [] w).alloc (boxFv k (.slice a n c))
  generalize w.alloc (boxFv k (.slice a n c)) = W at *
  have p0 := cell_blk hb0 0
  have p1 := cell_blk hb0 1
  simp only [List.getElem?_toArray, List.getElem?_cons_zero, List.getElem?_cons_succ] at p0 p1
  have hwu : IntKind.u64.wrap (n : Int) = (n : Int) := by rw [IntKind.wrap_u64]; omega
  have HU : Hid (∀ X : World, Calls Tryz.prog 34 #[.int .u64 (IntKind.u64.wrap (n : Int))] X fun e w' => ∃ v', e = .returned v' ∧ Ow w' X.heap.size v' (putU n) ∧ Upd [] X w') := Lib.hid fun X : World => by rw [hwu]; exact rputUint_ok X n (by omega)
  clear hwu
  have HPl := Lib.hid (putU_len 2 n (by omega))
  have HK : Hid (∀ X, Upd [] W X → X.cell? ⟨w.heap.size, 0, none⟩ = some (.int .u8 k.toNat) ∧ X.cell? ⟨w.heap.size, 1, none⟩ = some (.slice a n c)) := Lib.hid fun X u => ⟨held1 u p0, held1 u p1⟩
  have hws : w.heap.size < W.heap.size := lt_of_blk hb0
  have HW0 := Lib.hid (And.intro hu0 hws)
  have hS0 := HK.out _ (Upd.refl [] W).drew
  clear hb0 hu0
  go_cut [4] (fun v4 wx => ∃ (a4 : Option Addr) (m4 c4 : Nat), v4 = .slice a4 m4 c4 ∧ Hid (Ow wx w.heap.size (.slice a4 m4 c4) (k :: putU n) ∧ Upd [] W wx))
  case first =>
   go_region_held3 (fun X => X.cell? ⟨w.heap.size, 0, none⟩ = some (.int .u8 k.toNat) ∧ X.cell? ⟨w.heap.size, 1, none⟩ = some (.slice a n c))
    (first
     | (with_reducible exact hS0)
     | (exact HK.out _ (by first | exact (Upd.refl [] W).drew | exact ((Upd.refl [] W).alloc _).drew | exact ((Upd.refl [] W).drew).alloc _ | exact hu6 | exact hu6.alloc _ | exact hu7)))
    (first
     | (go_at_call 34; (with_reducible refine (HU.out _).mono ?_); rintro e w6 ⟨v6, rfl, ho6, hw6⟩; obtain ⟨a6, c6, m6, hm6, rfl⟩ := ho6.sliceM; have hu6 : Upd [] W w6 := (by first | exact (Upd.refl [] W).drew.trans hw6 | exact (((Upd.refl [] W).drew).alloc _).trans hw6 | exact (((Upd.refl [] W).alloc _).drew).trans hw6); (try have hB6 := blk_keepU hw6 (show (World.drew (World.alloc W (.cells #[.int .u8 k.toNat] 5 (0, 0)))).heap[W.heap.size]? = some (.cells #[.int .u8 k.toNat] 5 (0, 0)) from heap_top _ _)); have HM6 := Lib.hid hm6; have HSRC := Lib.hid ho6.srcs; clear hm6)
     | (refine step_append_G T8 (by rfl) _ _ (by rfl) (base := w.heap.size) (l := [k]) (r := putU n) (by rfl) (Ow.lit ?_ ?_) (by rw [← HM6.out]; rfl) (HSRC.out _ ?_) (one8 _) ?_ ?_ ?_ ?_
      ; (first | exact hB6 | exact heap_top _ _)
      ; (first | exact Nat.le_of_lt HW0.out.2 | exact Nat.le_trans (Nat.le_of_lt HW0.out.2) hu6.size)
      ; (first | exact Upd.refl [] w6 | exact (Upd.refl [] w6).alloc _)
      ; (have := HPl.out; simp only [List.length_singleton]; omega)
      ; (have := HPl.out; simp only [List.length_singleton]; omega)
      ; (first | exact Nat.le_trans (Nat.le_of_lt HW0.out.2) hu6.size | exact Nat.le_trans (Nat.le_of_lt HW0.out.2) (hu6.alloc _).size)
      ; intro v7 w7 ho7 hg7 hn7
      ; obtain ⟨a7, c7, m7, hm7, rfl⟩ := ho7.sliceM
      ; have hu7 : Upd [] W w7 := (by first | exact hu6.grown hg7 (fun g hg => by cases hg; exact Nat.le_refl _) | exact (hu6.alloc _).grown hg7 (fun g hg => by cases hg; exact hu6.size))
      ; clear hm7))
   all_goals
    have HF := Lib.hid (And.intro ho7 hu7)
    clear ho7 hg7 hn7 hu7 ho6 hw6 hu6
    go_wp2_with fail
    go_meet
    case rel => exact ⟨_, _, _, rfl, HF⟩
  case rest =>
   obtain ⟨a4, m4, c4, rfl, HF⟩ := hcut
   obtain ⟨w4, hw4⟩ : ∃ x, x = wc := ⟨_, rfl⟩
   subst hw4
   obtain ⟨p0, p1⟩ := HK.out _ HF.out.2
   have hrd := HD.out.1.keep (HW0.out.1.trans HF.out.2)
   have hsrc := hrd.src
   have HR := Lib.hid hrd
   have HSr := Lib.hid hsrc
   clear hS0 hrd hsrc
   go_wp2_with (first
    | (at_builtin; refine wpList_append_G T8 rfl _ _ rfl (base := w.heap.size) (l := k :: putU n) (r := d) (by rfl) HF.out.1 (by rw [← HD.out.2]; rfl) HSr.out (one8 _) ?c1 ?c2 ?c3 ?_)
    | fail)
   case c1 => have := HPl.out; have := HD.out.2; omega
   case c2 => have := HPl.out; have := HD.out.2; omega
   case c3 => exact Nat.le_trans (Nat.le_of_lt HW0.out.2) HF.out.2.size
   intro v5 w5 ho5 hg5 hn5
   have hu5 : Upd [] w w5 := (HW0.out.1.trans HF.out.2).grown hg5 fun g hg => (HF.out.1.block g hg).1
   have hfr : k :: (putU n ++ d) = frameRest k d := by rw [HD.out.2]; rfl
   rewrite [hfr] at ho5
   clear hfr
   obtain ⟨a5, c5, m5, hm5, rfl⟩ := ho5.sliceM
   have HS := Lib.hid (rsum_ok w5 (Ow.rd ho5))
   have H5 := Lib.hid (And.intro ho5 hu5)
   have HM5 := Lib.hid hm5
   clear ho5 hu5 hg5 hn5 hm5 p0 p1
   go_wp2_with fail
   refine HS.out.mono ?_
   rintro e w6 ⟨rfl, rfl⟩
   have HP32 := Lib.hid (rput32_ok w6 (sumB (frameRest k d)) (sumB_lt _))
   go_wp2_with fail
   refine HP32.out.mono ?_
   rintro e w7 ⟨v7, rfl, ho7, hu7⟩
   obtain ⟨a7, c7, m7, hm7, rfl⟩ := ho7.sliceM
   have H7 := Lib.hid (And.intro ho7 hu7)
   clear ho7 hu7 hm7
   go_wp2_with (first
    | (at_builtin; refine wpList_append_G T8 rfl _ _ rfl (base := w.heap.size) (l := put32 (sumB (frameRest k d))) (r := frameRest k d) (by rfl) (H7.out.1.base H5.out.2.size) (by rw [← HM5.out]; rfl) (OwnG.src T8 (H5.out.1.upd H7.out.2 (by simp))) (one8 _) ?c1 ?c2 ?c3 ?_)
    | fail)
   case c1 => have h3 := HPl.out; have h4 := HD.out.2; have e1 : (put32 (sumB (frameRest k d))).length = 4 := rfl; have e2 : (frameRest k d).length = (putU d.length).length + d.length + 1 := by simp [frameRest]
              rw [← h4] at e2; first | omega | (rw [e1, e2]; omega)
   case c2 => have h3 := HPl.out; have h4 := HD.out.2; have e1 : (put32 (sumB (frameRest k d))).length = 4 := rfl; have e2 : (frameRest k d).length = (putU d.length).length + d.length + 1 := by simp [frameRest]
              rw [← h4] at e2; first | omega | (rw [e1, e2]; omega)
   case c3 => exact Nat.le_trans H5.out.2.size H7.out.2.size
   intro v8 w8 ho8 hg8 hn8
   have hu8 : Upd [] w w8 := (H5.out.2.trans H7.out.2).grown hg8 fun g hg => Nat.le_trans H5.out.2.size (H7.out.1.block g hg).1
   have H8 := Lib.hid (And.intro ho8 hu8)
   obtain ⟨a8, c8, m8, hm8, rfl⟩ := ho8.sliceM
   clear ho8 hu8 hg8 hn8 hm8
   go_wp2_with fail
   go_ret2
   exact ⟨H8.out.2, .inl ⟨by omega, _, rfl, H8.out.1⟩⟩
end Go.Proofs.YtgpefiacbipfpaaGreatDoor

namespace Go.Proofs.YtgpefiacbipfpaaGreatDoor.Bc
open Go.RowKit
def pt (o : Option Nat) : Value := .pointer (o.map fun b => ⟨b, 0, none⟩)
structure It (κ ν : Type) where
 k : κ
 v : ν
 d : Bool
 p : Nat
structure Nd (κ ν : Type) where
 a : Nat
 it : It κ ν
structure Cfg (κ ν : Type) where
 ek : κ → Value
 ev : ν → Value
 tc : TypeId
 ti : TypeId
section
variable {κ ν : Type} (C : Cfg κ ν)
def nodeObj (x : It κ ν) (prev next : Option Nat) : Obj := .cells #[C.ek x.k, C.ev x.v, .bool x.d, .int .i64 x.p, pt prev, pt next] C.ti (0, 0)
def cacheObj (most : Int) (m : Nat) (oldest first : Option Nat) : Obj := .cells #[.int .i64 most, .map (some m), pt oldest, pt first] C.tc (0, 0)
def hd : List (Nd κ ν) → Option Nat → Option Nat
 | [], q => q
 | n :: _, _ => some n.a
def lst : List (Nd κ ν) → Option Nat → Option Nat
 | [], p => p
 | n :: r, _ => lst r (some n.a)
def Chain (H : Nat → Option Obj) : Option Nat → List (Nd κ ν) → Option Nat → Prop
 | _, [], _ => True
 | p, n :: r, q => H n.a = some (nodeObj C n.it p (hd r q)) ∧ Chain H (some n.a) r q
theorem hd_app (l r : List (Nd κ ν)) (q : Option Nat) : hd (l ++ r) q = hd l (hd r q) := by cases l <;> rfl
theorem lst_app (l r : List (Nd κ ν)) (p : Option Nat) : lst (l ++ r) p = lst r (lst l p) := by
 induction l generalizing p with
 | nil => rfl
 | cons n l ih => exact ih _
theorem chain_app (H : Nat → Option Obj) (p : Option Nat) (l r : List (Nd κ ν)) (q : Option Nat) :
  Chain C H p (l ++ r) q ↔ Chain C H p l (hd r q) ∧ Chain C H (lst l p) r q := by
 induction l generalizing p with
 | nil => simp [Chain, lst]
 | cons n l ih => simp [Chain, lst, hd_app, ih, and_assoc]
theorem chain_congr {H H' : Nat → Option Obj} {p : Option Nat} {l : List (Nd κ ν)} {q : Option Nat} (h : ∀ n ∈ l, H' n.a = H n.a) (hc : Chain C H p l q) : Chain C H' p l q := by
 induction l generalizing p with
 | nil => trivial
 | cons n l ih =>
  obtain ⟨h1, h2⟩ := hc
  exact ⟨by rw [h n (by simp)]; exact h1, ih (fun x hx => h x (by simp [hx])) h2⟩
theorem chain_at {H : Nat → Option Obj} {p : Option Nat} {l : List (Nd κ ν)} {q : Option Nat} (hc : Chain C H p l q) {n : Nd κ ν} (hn : n ∈ l) : ∃ a b, H n.a = some (nodeObj C n.it a b) := by
 induction l generalizing p with
 | nil => simp at hn
 | cons x l ih =>
  obtain ⟨h1, h2⟩ := hc
  rcases List.mem_cons.1 hn with rfl | hn
  ·exact ⟨_, _, h1⟩
  ·exact ih h2 hn
structure Lay (w : World) (c m : Nat) (most : Int) (l : List (Nd κ ν)) : Prop where
 cache : w.heap[c]? = some (cacheObj C most m (hd l none) (lst l none))
 chain : Chain C (fun k => w.heap[k]?) none l none
 nodup : (c :: m :: l.map (·.a)).Nodup
abbrev foot (c m : Nat) (l : List (Nd κ ν)) : List Nat := c :: m :: l.map (·.a)
theorem Lay.congr {w w' : World} {c m : Nat} {most : Int} {l : List (Nd κ ν)} (h : Lay C w c m most l) (hh : ∀ k ∈ foot c m l, w'.heap[k]? = w.heap[k]?) : Lay C w' c m most l :=
 ⟨by rw [hh c (by simp)]; exact h.cache, chain_congr C (fun n hn => hh n.a (by simp; right; right; exact ⟨n, hn, rfl⟩)) h.chain, h.nodup⟩
theorem Lay.alike {w w' : World} {c m : Nat} {most : Int} {l : List (Nd κ ν)} (h : Lay C w c m most l) (g : w'.Alike w) : Lay C w' c m most l :=
 h.congr C (fun k _ => by rw [g.1])
theorem Lay.lt {w : World} {c m : Nat} {most : Int} {l : List (Nd κ ν)} (h : Lay C w c m most l) {n : Nd κ ν} (hn : n ∈ l) : n.a < w.heap.size := by
 obtain ⟨a, b, hb⟩ := chain_at C h.chain hn
 exact lt_of_blk hb
end
section
variable {κ ν : Type} (C : Cfg κ ν)
theorem hd_nil (q : Option Nat) : hd ([] : List (Nd κ ν)) q = q := rfl
theorem hd_cons (n : Nd κ ν) (r : List (Nd κ ν)) (q : Option Nat) : hd (n :: r) q = some n.a := rfl
theorem lst_nil (q : Option Nat) : lst ([] : List (Nd κ ν)) q = q := rfl
theorem lst_cons (n : Nd κ ν) (r : List (Nd κ ν)) (q : Option Nat) : lst (n :: r) q = lst r (some n.a) := rfl
def unlinkW (w : World) (c x : Nat) (prev next : Option Nat) : World :=
 let w1 := match prev with | some y => w.setCell ⟨y, 5, none⟩ (pt next) | none => w.setCell ⟨c, 2, none⟩ (pt next)
 let w2 := match next with | some z => w1.setCell ⟨z, 4, none⟩ (pt prev) | none => w1.setCell ⟨c, 3, none⟩ (pt prev)
 (w2.setCell ⟨x, 4, none⟩ (pt none)).setCell ⟨x, 5, none⟩ (pt none)
theorem put_node4 (x : It κ ν) (a b : Option Nat) (u : Option Nat) : Obj.put 4 (pt u) (nodeObj C x a b) = nodeObj C x u b := rfl
theorem put_node5 (x : It κ ν) (a b : Option Nat) (u : Option Nat) : Obj.put 5 (pt u) (nodeObj C x a b) = nodeObj C x a u := rfl
theorem put_cache2 (most : Int) (m : Nat) (a b u : Option Nat) : Obj.put 2 (pt u) (cacheObj C most m a b) = cacheObj C most m u b := rfl
theorem put_cache3 (most : Int) (m : Nat) (a b u : Option Nat) : Obj.put 3 (pt u) (cacheObj C most m a b) = cacheObj C most m a u := rfl
theorem lay_unlink {w w' : World} {c m : Nat} {most : Int} {l1 l2 : List (Nd κ ν)} {x : Nd κ ν} (h : Lay C w c m most (l1 ++ x :: l2))
  (hw : w'.Alike (unlinkW w c x.a (lst l1 none) (hd l2 none))) :
  Lay C w' c m most (l1 ++ l2) ∧ w'.heap[x.a]? = some (nodeObj C x.it none none) ∧ Upd (c :: (l1 ++ x :: l2).map (·.a)) w w' := by
 obtain ⟨h1, h2, h3⟩ := h
 have hnd : (c :: m :: (l1 ++ l2).map (·.a)).Nodup := h3.sublist (by simp)
 rw [chain_app] at h2
 obtain ⟨h2, h4, h5⟩ := h2
 rcases List.eq_nil_or_concat l1 with rfl | ⟨l1, y, rfl⟩
 ·rcases l2 with _ | ⟨z, l2⟩
  ·simp [unlinkW, lst_nil, lst_cons, hd_nil, hd_cons] at hw h1 h3 h4 ⊢
   have hh := hw.1
   refine ⟨⟨?_, trivial, ?_⟩, ?_, ?_⟩
   ·rw [hh]; simp [heap_setCell, h1, h3, put_cache2, put_cache3, hd_nil, lst_nil]
   ·simp; exact h3.1.1
   ·rw [hh]; simp [heap_setCell, h4, put_node4, put_node5, Ne.symm h3.1.2]
   ·exact ((((Upd.refl _ _).setCell (by simp) _ _).setCell (by simp) _ _).setCell (by simp) _ _ |>.setCell (by simp) _ _).alike hw
  ·obtain ⟨h5, h6⟩ := h5
   simp [unlinkW, lst_nil, lst_cons, hd_cons] at hw h1 h3 h4 h5 h6 ⊢
   have hh := hw.1
   obtain ⟨⟨n1, n2, n3, n4⟩, ⟨n5, n6, n7⟩, ⟨n8, n9⟩, n10, n11⟩ := h3
   refine ⟨⟨?_, ⟨?_, ?_⟩, ?_⟩, ?_, ?_⟩
   ·rw [hh]; simp [heap_setCell, h1, n2, n3, put_cache2, hd_cons, lst_cons]
   ·simp only [hh]; simp [heap_setCell, h5, Ne.symm n3, Ne.symm n8, put_node4]
   ·refine chain_congr C (fun n hn => ?_) h6
    have q1 := n4 n hn; have q2 := n7 n hn; have q3 := n9 n hn; have q4 := n10 n hn
    simp only [hh]; simp [heap_setCell, q1, q3, q4]
   ·simp; exact ⟨⟨n1, n3, n4⟩, ⟨n6, n7⟩, n10, n11⟩
   ·rw [hh]; simp [heap_setCell, h4, put_node4, put_node5, n8, Ne.symm n2]
   ·exact ((((Upd.refl _ _).setCell (by simp) _ _).setCell (by simp) _ _).setCell (by simp) _ _ |>.setCell (by simp) _ _).alike hw
 ·simp only [List.concat_eq_append, List.append_assoc] at *
  rw [chain_app] at h2
  obtain ⟨h2, h7, _⟩ := h2
  rcases l2 with _ | ⟨z, l2⟩
  ·simp [unlinkW, lst_nil, lst_cons, hd_nil, hd_cons, lst_app, hd_app, List.nodup_append] at hw h1 h2 h3 h4 h5 h7 ⊢
   have hh := hw.1
   obtain ⟨⟨n1, n2, n3, n4⟩, ⟨n5, n6, n7⟩, n8, n9, n10⟩ := h3
   refine ⟨⟨?_, (chain_app ..).2 ⟨?_, ?_, trivial⟩, ?_⟩, ?_, ?_⟩
   ·rw [hh]; simp [heap_setCell, h1, n3, n4, put_cache3, hd_app, hd_cons, lst_app, lst_cons, lst_nil]
   ·refine chain_congr C (fun n hn => ?_) h2
    have q1 := n2 n hn; have q2 := n10 n hn
    simp only [hh]; simp [heap_setCell, q1, q2.1, q2.2]
   ·simp only [hh]; simp [heap_setCell, h7, Ne.symm n3, n9, put_node5, hd_nil]
   ·simpa using hnd
   ·rw [hh]; simp [heap_setCell, h4, put_node4, put_node5, Ne.symm n9, Ne.symm n4]
   ·exact ((((Upd.refl _ _).setCell (by simp) _ _).setCell (by simp) _ _).setCell (by simp) _ _ |>.setCell (by simp) _ _).alike hw
  ·obtain ⟨h5, h6⟩ := h5
   simp [unlinkW, lst_nil, lst_cons, hd_nil, hd_cons, lst_app, hd_app, List.nodup_append] at hw h1 h2 h3 h4 h5 h6 h7 ⊢
   have hh := hw.1
   obtain ⟨⟨n1, n2, n3, n4, n5, n6⟩, ⟨n7, n8, n9, n10, n11⟩, n12, ⟨⟨n13, n14, n15⟩, ⟨n16, n17⟩, n18, n19⟩, n20⟩ := h3
   refine ⟨⟨?_, (chain_app ..).2 ⟨?_, ?_, ?_, ?_⟩, ?_⟩, ?_, ?_⟩
   ·rw [hh]; simp [heap_setCell, h1, n3, n4, n5, hd_app, hd_cons, lst_app, lst_cons]
   ·refine chain_congr C (fun n hn => ?_) h2
    have q1 := n2 n hn; have q2 := n20 n hn
    simp only [hh]; simp [heap_setCell, q2.1, q2.2.1, q2.2.2.1]
   ·simp only [hh]; simp [heap_setCell, h7, n13, n14, put_node5, hd_cons]
   ·simp only [hh]; simp [heap_setCell, h5, Ne.symm n14, Ne.symm n16, put_node4]
   ·refine chain_congr C (fun n hn => ?_) h6
    have q1 := n15 n hn; have q2 := n17 n hn; have q3 := n18 n hn
    simp only [hh]; simp [heap_setCell, q1, q2, q3]
   ·simpa using hnd
   ·rw [hh]; simp [heap_setCell, h4, put_node4, put_node5, Ne.symm n13, n16]
   ·exact ((((Upd.refl _ _).setCell (by simp) _ _).setCell (by simp) _ _).setCell (by simp) _ _ |>.setCell (by simp) _ _).alike hw
def linkW (w : World) (c x : Nat) (last : Option Nat) : World :=
 let w1 := w.setCell ⟨x, 4, none⟩ (pt last)
 let w2 := match last with | some y => w1.setCell ⟨y, 5, none⟩ (pt (some x)) | none => w1.setCell ⟨c, 2, none⟩ (pt (some x))
 w2.setCell ⟨c, 3, none⟩ (pt (some x))
theorem lay_link {w w' : World} {c m : Nat} {most : Int} {l : List (Nd κ ν)} {x : Nd κ ν} (h : Lay C w c m most l) (hx : w.heap[x.a]? = some (nodeObj C x.it none none))
  (hnd : (c :: m :: (l ++ [x]).map (·.a)).Nodup) (hw : w'.Alike (linkW w c x.a (lst l none))) :
  Lay C w' c m most (l ++ [x]) ∧ Upd (c :: (l ++ [x]).map (·.a)) w w' := by
 obtain ⟨h1, h2, h3⟩ := h
 have hnd' := hnd
 rcases List.eq_nil_or_concat l with rfl | ⟨l1, y, rfl⟩
 ·simp [linkW, lst_nil, hd_nil] at hw h1 hnd ⊢
  have hh := hw.1
  refine ⟨⟨?_, ⟨?_, trivial⟩, by simpa using hnd'⟩, ?_⟩
  ·rw [hh]; simp [heap_setCell, h1, hnd, put_cache2, put_cache3, hd_cons, lst_nil, lst_cons]
  ·simp only [hh]; simp [heap_setCell, hx, Ne.symm hnd.1.2, put_node4, hd_nil]
  ·exact ((((Upd.refl _ _).setCell (by simp) _ _).setCell (by simp) _ _).setCell (by simp) _ _).alike hw
 ·simp only [List.concat_eq_append] at *
  rw [chain_app] at h2
  obtain ⟨h2, h7, _⟩ := h2
  simp [linkW, lst_nil, lst_cons, hd_nil, hd_cons, lst_app, hd_app, List.nodup_append] at hw h1 h2 h7 hnd ⊢
  have hh := hw.1
  obtain ⟨⟨n1, n2, n3, n4⟩, ⟨n5, n6, n7⟩, n8, n9, n10⟩ := hnd
  refine ⟨⟨?_, (chain_app ..).2 ⟨?_, ?_, ?_, trivial⟩, by simpa using hnd'⟩, ?_⟩
  ·rw [hh]; simp [heap_setCell, h1, n3, n4, put_cache3, hd_app, hd_cons, lst_app, lst_cons, lst_nil]
  ·refine chain_congr C (fun n hn => ?_) h2
   have q1 := n2 n hn; have q2 := n10 n hn
   simp only [hh]; simp [heap_setCell, q1, q2.1, q2.2]
  ·simp only [hh]; simp [heap_setCell, h7, n9, Ne.symm n3, put_node5, hd_cons]
  ·simp only [hh]; simp [heap_setCell, hx, Ne.symm n9, Ne.symm n4, put_node4, hd_nil]
  ·exact ((((Upd.refl _ _).setCell (by simp) _ _).setCell (by simp) _ _).setCell (by simp) _ _).alike hw
end
section
variable {κ ν : Type} (C : Cfg κ ν)
def MapRep (es : Array MapEntry) (l : List (Nd κ ν)) : Prop := (es.toList.map fun e => (e.key, e.val)).Perm (l.map fun n => (C.ek n.it.k, pt (some n.a)))
theorem mapRep_mem {es : Array MapEntry} {l : List (Nd κ ν)} (h : MapRep C es l) {e : MapEntry} (he : e ∈ es.toList) : ∃ n ∈ l, e.key = C.ek n.it.k ∧ e.val = pt (some n.a) := by
 have : (e.key, e.val) ∈ l.map fun n => (C.ek n.it.k, pt (some n.a)) := h.mem_iff.1 (List.mem_map.2 ⟨e, he, rfl⟩)
 obtain ⟨n, hn, hq⟩ := List.mem_map.1 this
 simp only [Prod.mk.injEq] at hq
 exact ⟨n, hn, hq.1.symm, hq.2.symm⟩
theorem mapRep_size {es : Array MapEntry} {l : List (Nd κ ν)} (h : MapRep C es l) : es.size = l.length := by
 have := h.length_eq; simpa using this
theorem mapRep_push {es : Array MapEntry} {l : List (Nd κ ν)} (h : MapRep C es l) (x : Nd κ ν) (b : Nat) : MapRep C (es.push { key := C.ek x.it.k, val := pt (some x.a), born := b }) (l ++ [x]) := by
 unfold MapRep at *
 simp only [Array.toList_push, List.map_append, List.map_cons, List.map_nil]
 exact h.append_right _
end
section
variable {κ ν : Type} [DecidableEq κ] (C : Cfg κ ν)
structure Keys (P : Program) (K : TypeId) : Prop where
 plain : P.underlying K = some (.int .i64) ∨ P.underlying K = some .string
 same : ∀ D, P.underlying K = some D → ∀ a b : κ, Instr.sameNow D (C.ek a) (C.ek b) = some (decide (a = b))
 bits : ∀ a : κ, Instr.sameBits 10000 (C.ek a) (C.ek a) = true
theorem run_check {P : Program} {K : TypeId} (hK : P.underlying K = some (.int .i64) ∨ P.underlying K = some .string) (w : World) (e : Bool) (v : Value) : (Instr.checkKey e 10000 K v).run P w = .ok () w := by
 unfold Instr.checkKey
 rcases hK with h | h <;> simp [run_underlying h]
theorem findNow_miss {D : TypeDesc} (hS : ∀ a b : κ, Instr.sameNow D (C.ek a) (C.ek b) = some (decide (a = b))) (k : κ) : ∀ (es : List MapEntry) (i : Nat), (∀ e ∈ es, ∃ k', e.key = C.ek k' ∧ k' ≠ k) →
  Instr.findNow D (C.ek k) es i = some none := by
 intro es
 induction es with
 | nil => intro i _; rfl
 | cons e es ih =>
  intro i h
  obtain ⟨k', h1, h2⟩ := h e (by simp)
  simp only [Instr.findNow, h1, hS, decide_eq_false (fun (q : k = k') => h2 q.symm)]
  exact ih _ (fun x hx => h x (by simp [hx]))
theorem findNow_hit {D : TypeDesc} (hS : ∀ a b : κ, Instr.sameNow D (C.ek a) (C.ek b) = some (decide (a = b))) (k : κ) : ∀ (es : List MapEntry) (i : Nat), (∀ e ∈ es, ∃ k', e.key = C.ek k') → (∃ e ∈ es, e.key = C.ek k) →
  ∃ j e, es[j]? = some e ∧ e.key = C.ek k ∧ Instr.findNow D (C.ek k) es i = some (some (i + j, e.val)) := by
 intro es
 induction es with
 | nil => intro i _ h; obtain ⟨e, he, _⟩ := h; simp at he
 | cons e es ih =>
  intro i h hx
  obtain ⟨k', h1⟩ := h e (by simp)
  by_cases hk : k = k'
  ·subst hk
   exact ⟨0, e, rfl, h1, by simp [Instr.findNow, h1, hS]⟩
  ·have hx' : ∃ e ∈ es, e.key = C.ek k := by
    obtain ⟨x, hx1, hx2⟩ := hx
    rcases List.mem_cons.1 hx1 with rfl | hx1
    ·rw [h1] at hx2
     have := hS k k'; rw [hx2, hS k k] at this; simp [hk] at this
    ·exact ⟨x, hx1, hx2⟩
   obtain ⟨j, e', g1, g2, g3⟩ := ih (i + 1) (fun x hx => h x (by simp [hx])) hx'
   exact ⟨j + 1, e', by simpa using g1, g2, by simp [Instr.findNow, h1, hS, hk, g3]; omega⟩
variable {P : Program} {K : TypeId} (HK : Keys C P K)
include HK
theorem find_miss {es : Array MapEntry} {l : List (Nd κ ν)} (h : MapRep C es l) {k : κ} (hk : ∀ n ∈ l, n.it.k ≠ k) (w : World) : (Instr.findKey K (C.ek k) es.toList).run P w = .ok none w := by
 have hex : ∃ D, P.underlying K = some D := by rcases HK.plain with h | h <;> exact ⟨_, h⟩
 obtain ⟨D, hD⟩ := hex
 have := findNow_miss C (HK.same D hD) k es.toList 0 (fun e he => by obtain ⟨n, hn, h1, _⟩ := mapRep_mem C h he; exact ⟨_, h1, hk n hn⟩)
 simp [Instr.findKey, run_underlying hD, this]
theorem ek_inj {a b : κ} (h : C.ek a = C.ek b) : a = b := by
 have hex : ∃ D, P.underlying K = some D := by rcases HK.plain with h | h <;> exact ⟨_, h⟩
 obtain ⟨D, hD⟩ := hex
 have h1 := HK.same D hD a b
 rw [← h, HK.same D hD a a] at h1
 simpa using h1
theorem find_hit {es : Array MapEntry} {l1 l2 : List (Nd κ ν)} {x : Nd κ ν} (h : MapRep C es (l1 ++ x :: l2)) (hnd : ((l1 ++ x :: l2).map (·.it.k)).Nodup) (w : World) :
  ∃ j, (Instr.findKey K (C.ek x.it.k) es.toList).run P w = .ok (some (j, pt (some x.a))) w ∧ j < es.size ∧ ((es[j]?).map (·.key)) = some (C.ek x.it.k) ∧ MapRep C (es.eraseIdxIfInBounds j) (l1 ++ l2) := by
 have hex : ∃ D, P.underlying K = some D := by rcases HK.plain with h | h <;> exact ⟨_, h⟩
 obtain ⟨D, hD⟩ := hex
 have hin : ∃ e ∈ es.toList, e.key = C.ek x.it.k := by
  have : (C.ek x.it.k, pt (some x.a)) ∈ es.toList.map fun e => (e.key, e.val) := h.mem_iff.2 (List.mem_map.2 ⟨x, by simp, rfl⟩)
  obtain ⟨e, he, hq⟩ := List.mem_map.1 this
  simp only [Prod.mk.injEq] at hq
  exact ⟨e, he, hq.1⟩
 obtain ⟨j, e, g1, g2, g3⟩ := findNow_hit C (HK.same D hD) x.it.k es.toList 0 (fun e he => by obtain ⟨n, hn, h1, _⟩ := mapRep_mem C h he; exact ⟨_, h1⟩) hin
 have hm : e ∈ es.toList := List.mem_of_getElem? g1
 obtain ⟨n, hn, h1, h2⟩ := mapRep_mem C h hm
 have hkn : n.it.k = x.it.k := ek_inj C HK (h1.symm.trans g2)
 have hnx : n = x := by
  rw [List.map_append, List.map_cons, List.nodup_append] at hnd
  obtain ⟨_, hnd2, hnd3⟩ := hnd
  rcases List.mem_append.1 hn with hn | hn
  ·exact (hnd3 _ (List.mem_map.2 ⟨n, hn, rfl⟩) x.it.k (by simp) hkn).elim
  ·rcases List.mem_cons.1 hn with rfl | hn
   ·rfl
   ·exact ((List.nodup_cons.1 hnd2).1 (List.mem_map.2 ⟨n, hn, hkn⟩)).elim
 subst hnx
 have hj : j < es.size := by
  rcases Nat.lt_or_ge j es.size with h' | h'
  ·exact h'
  ·rw [List.getElem?_eq_none (by simpa using h')] at g1; cases g1
 refine ⟨j, by simp [Instr.findKey, run_underlying hD, g3, h2], hj, ?_, ?_⟩
 ·have : es[j]? = some e := by simpa using g1
  rw [this]; simp [g2]
 ·have hl : es.toList = es.toList.take j ++ e :: es.toList.drop (j + 1) := by
   rw [List.getElem?_eq_getElem (by simpa using hj)] at g1
   cases g1
   rw [List.getElem_cons_drop, List.take_append_drop]
  have he : (es.eraseIdxIfInBounds j).toList = es.toList.take j ++ es.toList.drop (j + 1) := by
   simp [Array.eraseIdxIfInBounds, hj, List.eraseIdx_eq_take_drop_succ]
  unfold MapRep at h ⊢
  rw [he]
  rw [hl] at h
  have h' : ((e.key, e.val) :: (es.toList.take j ++ es.toList.drop (j + 1)).map fun e => (e.key, e.val)).Perm ((C.ek n.it.k, pt (some n.a)) :: (l1 ++ l2).map fun n => (C.ek n.it.k, pt (some n.a))) := by
   refine List.Perm.trans ?_ (h.trans ?_)
   ·simp only [List.map_append, List.map_cons]; exact List.perm_middle.symm
   ·simp only [List.map_append, List.map_cons]; exact List.perm_middle
  rw [h1, h2] at h'
  exact h'.cons_inv
end
section
variable {κ ν : Type} [DecidableEq κ] {C : Cfg κ ν} {P : Program} {T K E : TypeId} {w : World} {m clock : Nat} {es : Array MapEntry}
theorem run_lookup_hit (HK : Keys C P K) (ht : P.underlying T = some (.map K E)) (hb : w.heap[m]? = some (.map es clock)) {l1 l2 : List (Nd κ ν)} {x : Nd κ ν} (h : MapRep C es (l1 ++ x :: l2)) (hnd : ((l1 ++ x :: l2).map (·.it.k)).Nodup) {k : κ} (hk : x.it.k = k) :
  (Instr.lookup T (.map (some m)) (C.ek k) false).run P w = .ok (pt (some x.a)) w := by
 subst hk
 obtain ⟨j, h1, _⟩ := find_hit C HK h hnd w
 simp [Instr.lookup, run_underlying ht, MapKept.run_getObj_map hb, run_check HK.plain, h1, Result.andThen]
theorem run_lookup_miss (HK : Keys C P K) (ht : P.underlying T = some (.map K E)) (hz : (zeroValue E).run P w = .ok (.pointer none) w) (hb : w.heap[m]? = some (.map es clock)) {l : List (Nd κ ν)} (h : MapRep C es l) {k : κ} (hk : ∀ n ∈ l, n.it.k ≠ k) :
  (Instr.lookup T (.map (some m)) (C.ek k) false).run P w = .ok (pt none) w := by
 simp [Instr.lookup, run_underlying ht, MapKept.run_getObj_map hb, run_check HK.plain, find_miss C HK h hk w, Result.andThen, hz, pt]
theorem run_store_new (HK : Keys C P K) (ht : P.underlying T = some (.map K E)) (hb : w.heap[m]? = some (.map es clock)) {l : List (Nd κ ν)} (h : MapRep C es l) {k : κ} (hk : ∀ n ∈ l, n.it.k ≠ k) (v : Value) :
  (Instr.mapUpdate T (.map (some m)) (C.ek k) v).run P w = .ok () (ChangeMaps.setBlock w m (.map (es.push { key := C.ek k, val := v, born := clock }) (clock + 1))) := by
 simp [Instr.mapUpdate, run_underlying ht, MapKept.run_getObj_map hb, run_check HK.plain, find_miss C HK h hk w, Result.andThen, MapKept.run_setObj_map _ hb, ChangeMaps.setBlock]
theorem run_delete_hit (HK : Keys C P K) (ht : P.underlying T = some (.map K E)) (hb : w.heap[m]? = some (.map es clock)) {l1 l2 : List (Nd κ ν)} {x : Nd κ ν} (h : MapRep C es (l1 ++ x :: l2)) (hnd : ((l1 ++ x :: l2).map (·.it.k)).Nodup) {k : κ} (hk : x.it.k = k) (k2 ty : TypeId) :
  ∃ es', (Builtin.delete_ #[T, k2] ty #[.map (some m), C.ek k]).run P w = .ok (.tuple #[]) (ChangeMaps.setBlock w m (.map es' clock)) ∧ MapRep C es' (l1 ++ l2) := by
 subst hk
 obtain ⟨j, h1, h2, h3, h4⟩ := find_hit C HK h hnd w
 refine ⟨_, ?_, h4⟩
 simp [Builtin.delete_, run_underlying ht, MapKept.run_getObj_map hb, run_check HK.plain, h1, Result.andThen, MapKept.run_setObj_map _ hb, ChangeMaps.setBlock]
theorem run_len_map (ht : P.underlying T = some (.map K E)) (hb : w.heap[m]? = some (.map es clock)) (ty : TypeId) :
  (Builtin.len_ #[T] ty #[.map (some m)]).run P w = .ok (.int .i64 es.size) w := by
 simp [Builtin.len_, run_underlying ht, MapKept.run_getObj_map hb, goInt, Result.andThen]
theorem heap_setBlock (w : World) (b : Nat) (o : Obj) (k : Nat) (h : b < w.heap.size) : (ChangeMaps.setBlock w b o).heap[k]? = if k = b then some o else w.heap[k]? := by
 unfold ChangeMaps.setBlock
 simp only [Array.getElem?_setIfInBounds, h, if_true]
 by_cases e : b = k
 ·subst e; simp
 ·rw [if_neg e, if_neg (fun q => e q.symm)]
end
section
variable {κ ν : Type} (C : Cfg κ ν)
structure Rep (w : World) (c m : Nat) (most : Int) (l : List (Nd κ ν)) : Prop where
 lay : Lay C w c m most l
 map : ∃ es clock, w.heap[m]? = some (.map es clock) ∧ MapRep C es l
 keys : (l.map (·.it.k)).Nodup
theorem Rep.alike {w w' : World} {c m : Nat} {most : Int} {l : List (Nd κ ν)} (h : Rep C w c m most l) (g : w'.Alike w) : Rep C w' c m most l :=
 ⟨h.lay.alike C g, by obtain ⟨es, k, h1, h2⟩ := h.map; exact ⟨es, k, by rw [g.1]; exact h1, h2⟩, h.keys⟩
end
section
variable {κ ν : Type} (C : Cfg κ ν)
theorem new_rep (w : World) (most : Int) : Rep C ((w.alloc (.map #[] 0)).alloc (.cells #[.int .i64 most, .map (some w.heap.size), .pointer none, .pointer none] C.tc)) (w.heap.size + 1) w.heap.size most [] := by
 refine ⟨⟨?_, trivial, ?_⟩, ⟨#[], 0, ?_, .refl _⟩, .nil⟩
 ·rw [heap_alloc, if_pos (by simp)]; rfl
 ·simp
 ·rw [heap_alloc, if_neg (by simp), heap_alloc, if_pos rfl]
theorem lay_cells {w : World} {c m : Nat} {most : Int} {l : List (Nd κ ν)} (h : Lay C w c m most l) :
  w.cell? ⟨c, 0, none⟩ = some (.int .i64 most) ∧ w.cell? ⟨c, 1, none⟩ = some (.map (some m)) ∧ w.cell? ⟨c, 2, none⟩ = some (pt (hd l none)) ∧ w.cell? ⟨c, 3, none⟩ = some (pt (lst l none)) ∧ (∀ o, w.frozen? ⟨c, o, none⟩ = false) :=
 ⟨cell_blk h.cache 0, cell_blk h.cache 1, cell_blk h.cache 2, cell_blk h.cache 3, frozen_blk h.cache⟩
theorem node_cells {w : World} {a : Nat} {x : It κ ν} {p q : Option Nat} (h : w.heap[a]? = some (nodeObj C x p q)) :
  w.cell? ⟨a, 0, none⟩ = some (C.ek x.k) ∧ w.cell? ⟨a, 1, none⟩ = some (C.ev x.v) ∧ w.cell? ⟨a, 2, none⟩ = some (.bool x.d) ∧ w.cell? ⟨a, 3, none⟩ = some (.int .i64 x.p) ∧ w.cell? ⟨a, 4, none⟩ = some (pt p) ∧ w.cell? ⟨a, 5, none⟩ = some (pt q) ∧ (∀ o, w.frozen? ⟨a, o, none⟩ = false) :=
 ⟨cell_blk h 0, cell_blk h 1, cell_blk h 2, cell_blk h 3, cell_blk h 4, cell_blk h 5, frozen_blk h⟩
theorem pt_none : pt none = .pointer none := rfl
theorem pt_some (a : Nat) : pt (some a) = .pointer (some ⟨a, 0, none⟩) := rfl
end
section
variable {κ ν : Type} {C : Cfg κ ν}
theorem Lay.m_not {w : World} {c m : Nat} {most : Int} {l : List (Nd κ ν)} (h : Lay C w c m most l) : m ∉ c :: l.map (·.a) := by
 have := h.nodup
 simp only [List.nodup_cons, List.mem_cons, not_or] at this ⊢
 exact ⟨fun e => this.1.1 e.symm, this.2.1⟩
theorem rep_used {w w1 w2 : World} {c m : Nat} {most : Int} {l1 l2 : List (Nd κ ν)} {x : Nd κ ν} (h : Rep C w c m most (l1 ++ x :: l2)) (u1 : Upd (c :: (l1 ++ x :: l2).map (·.a)) w w1)
  (hL : Lay C w2 c m most (l1 ++ l2 ++ [x])) (u2 : Upd (c :: (l1 ++ l2 ++ [x]).map (·.a)) w1 w2) : Rep C w2 c m most (l1 ++ l2 ++ [x]) ∧ Upd (c :: (l1 ++ x :: l2).map (·.a)) w w2 := by
 have u2' : Upd (c :: (l1 ++ x :: l2).map (·.a)) w1 w2 := u2.mono (fun k hk _ => by simp at hk ⊢; grind)
 have u := u1.trans u2'
 obtain ⟨es, ck, h1, h2⟩ := h.map
 have hp : (l1 ++ x :: l2).Perm (l1 ++ l2 ++ [x]) := by
  rw [List.append_assoc]
  exact List.Perm.append_left _ (List.perm_append_singleton x l2).symm
 refine ⟨⟨hL, ⟨es, ck, ?_, h2.trans (hp.map _)⟩, ((hp.map _).nodup_iff).1 h.keys⟩, u⟩
 rw [u.block m (lt_of_blk h1) h.lay.m_not]; exact h1
theorem used_nodup {c m : Nat} {l1 l2 : List (Nd κ ν)} {x : Nd κ ν} (h : (c :: m :: (l1 ++ x :: l2).map (·.a)).Nodup) : (c :: m :: (l1 ++ l2 ++ [x]).map (·.a)).Nodup := by
 have hp : (l1 ++ x :: l2).Perm (l1 ++ l2 ++ [x]) := by
  rw [List.append_assoc]
  exact List.Perm.append_left _ (List.perm_append_singleton x l2).symm
 exact ((((hp.map (·.a)).cons m).cons c).nodup_iff).1 h
end
section
variable {κ ν : Type} {C : Cfg κ ν}
theorem Rep.congr {w w' : World} {c m : Nat} {most : Int} {l : List (Nd κ ν)} (h : Rep C w c m most l) (hh : ∀ k ∈ foot c m l, w'.heap[k]? = w.heap[k]?) : Rep C w' c m most l :=
 ⟨h.lay.congr C hh, by obtain ⟨es, k, h1, h2⟩ := h.map; exact ⟨es, k, by rw [hh m (by simp)]; exact h1, h2⟩, h.keys⟩
theorem Rep.lt {w : World} {c m : Nat} {most : Int} {l : List (Nd κ ν)} (h : Rep C w c m most l) {k : Nat} (hk : k ∈ foot c m l) : k < w.heap.size := by
 simp at hk
 rcases hk with rfl | rfl | ⟨n, hn, rfl⟩
 ·exact lt_of_blk h.lay.cache
 ·obtain ⟨es, k, h1, h2⟩ := h.map; exact lt_of_blk h1
 ·exact h.lay.lt C hn
theorem Rep.keep {w w' : World} {c m : Nat} {most : Int} {l : List (Nd κ ν)} (h : Rep C w c m most l) {F : List Nat} (u : Upd F w w') (hF : ∀ k ∈ foot c m l, k ∉ F) : Rep C w' c m most l :=
 h.congr fun k hk => u.block k (h.lt hk) (hF k hk)
theorem Rep.alloc {w : World} {c m : Nat} {most : Int} {l : List (Nd κ ν)} (h : Rep C w c m most l) (o : Obj) : Rep C (w.alloc o) c m most l :=
 h.keep ((Upd.refl [] w).alloc o) (by simp)
theorem Rep.node {w : World} {c m : Nat} {most : Int} {l1 l2 : List (Nd κ ν)} {x : Nd κ ν} (h : Rep C w c m most (l1 ++ x :: l2)) : w.heap[x.a]? = some (nodeObj C x.it (lst l1 none) (hd l2 none)) := by
 have := h.lay.chain
 rw [chain_app] at this
 exact this.2.1
theorem Rep.change {w w' : World} {c m : Nat} {most : Int} {l1 l2 : List (Nd κ ν)} {x : Nd κ ν} (h : Rep C w c m most (l1 ++ x :: l2)) (it : It κ ν) (hk : it.k = x.it.k)
  (hx : w'.heap[x.a]? = some (nodeObj C it (lst l1 none) (hd l2 none))) (hh : ∀ k ∈ foot c m (l1 ++ x :: l2), k ≠ x.a → w'.heap[k]? = w.heap[k]?) : Rep C w' c m most (l1 ++ ⟨x.a, it⟩ :: l2) := by
 obtain ⟨⟨h1, h2, h3⟩, ⟨es, ck, h4, h5⟩, h6⟩ := h
 rw [chain_app] at h2
 obtain ⟨h2, h7, h8⟩ := h2
 have h3' := h3
 simp [List.nodup_append] at h3
 obtain ⟨⟨n1, n2, n3, n4⟩, ⟨n5, n6, n7⟩, n8, ⟨n9, n10⟩, n11⟩ := h3
 refine ⟨⟨?_, (chain_app ..).2 ⟨?_, ?_, ?_⟩, by simpa using h3'⟩, ⟨es, ck, ?_, ?_⟩, ?_⟩
 ·rw [hh c (by simp) n3, h1]
  simp only [hd_app, lst_app, hd_cons, lst_cons]
 ·exact chain_congr C (fun n hn => hh n.a (by simp; right; right; left; exact ⟨n, hn, rfl⟩) (n11 n hn).1) h2
 ·exact hx
 ·exact chain_congr C (fun n hn => hh n.a (by simp; right; right; right; right; exact ⟨n, hn, rfl⟩) (n9 n hn)) h8
 ·rw [hh m (by simp) n6]; exact h4
 ·simpa [MapRep, hk] using h5
 ·simpa [hk] using h6
theorem rep_new {w1 w2 : World} {c m : Nat} {most : Int} {l : List (Nd κ ν)} {x : Nd κ ν} {es : Array MapEntry} {ck : Nat}
  (h1 : w1.heap[m]? = some (.map es ck)) (h2 : MapRep C es (l ++ [x])) (hk : ((l ++ [x]).map (·.it.k)).Nodup) (hL : Lay C w2 c m most (l ++ [x])) (u : Upd (c :: (l ++ [x]).map (·.a)) w1 w2) : Rep C w2 c m most (l ++ [x]) :=
 ⟨hL, ⟨es, ck, by rw [u.block m (lt_of_blk h1) hL.m_not]; exact h1, h2⟩, hk⟩
end
section
variable {κ ν : Type} {C : Cfg κ ν}
theorem Rep.set12 {w w' : World} {c m : Nat} {most : Int} {l : List (Nd κ ν)} {x : Nd κ ν} (h : Rep C w c m most (l ++ [x])) (v : ν) (b : Bool)
  (hw : w'.Alike ((w.setCell ⟨x.a, 1, none⟩ (C.ev v)).setCell ⟨x.a, 2, none⟩ (.bool b))) : Rep C w' c m most (l ++ [⟨x.a, { x.it with v := v, d := b }⟩]) := by
 have hx := h.node
 refine h.change _ rfl ?_ (fun k _ hk => ?_)
 ·rw [hw.1]; simp [heap_setCell, hx, nodeObj, Obj.put]
 ·rw [hw.1]; simp [heap_setCell, hk]
theorem Rep.new_not {w : World} {c m : Nat} {most : Int} {l : List (Nd κ ν)} (h : Rep C w c m most l) : w.heap.size ∉ foot c m l := fun hk => Nat.lt_irrefl _ (h.lt hk)
end
section
variable {κ ν : Type} {C : Cfg κ ν}
theorem put_new_pre {w0 W2 : World} {c m ck : Nat} {most : Int} {l : List (Nd κ ν)} {es : Array MapEntry} (h : Lay C w0 c m most l) (hb : w0.heap[m]? = some (.map es ck)) (it : It κ ν)
  (hW : W2.Alike (ChangeMaps.setBlock (w0.alloc (nodeObj C it none none)) m (.map (es.push { key := C.ek it.k, val := pt (some w0.heap.size), born := ck }) (ck + 1)))) :
  Lay C W2 c m most l ∧ W2.heap[w0.heap.size]? = some (nodeObj C it none none) ∧ W2.heap[m]? = some (.map (es.push { key := C.ek it.k, val := pt (some w0.heap.size), born := ck }) (ck + 1)) ∧
   Upd [m] w0 W2 ∧ (c :: m :: (l ++ [(⟨w0.heap.size, it⟩ : Nd κ ν)]).map (·.a)).Nodup := by
 have hm := lt_of_blk hb
 have hs : m < (w0.alloc (nodeObj C it none none)).heap.size := by simp; omega
 have hcm := h.nodup
 simp only [List.nodup_cons, List.mem_cons, not_or] at hcm
 obtain ⟨⟨q1, q2⟩, q3, q4⟩ := hcm
 have hc := lt_of_blk h.cache
 have keep : ∀ k, k < w0.heap.size → k ≠ m → W2.heap[k]? = w0.heap[k]? := fun k hk hn => by
  rw [hW.1, heap_setBlock _ _ _ _ hs, if_neg hn, heap_alloc, if_neg (by omega)]
 refine ⟨⟨by rw [keep c hc q1]; exact h.cache, chain_congr C (fun n hn => keep n.a (h.lt C hn) (fun e => q3 (List.mem_map.2 ⟨n, hn, e⟩))) h.chain, h.nodup⟩, ?_, ?_, ⟨hW.2.1, hW.2.2, ?_, fun k hk hn => keep k hk (by simpa using hn)⟩, ?_⟩
 ·have hne : w0.heap.size ≠ m := by omega
  rw [hW.1, heap_setBlock _ _ _ _ hs, if_neg hne, heap_alloc, if_pos rfl]
 ·rw [hW.1, heap_setBlock _ _ _ _ hs, if_pos rfl]
 ·rw [hW.1]; simp [ChangeMaps.setBlock]
 ·have hl : ∀ n ∈ l, n.a < w0.heap.size := fun n hn => h.lt C hn
  simp [List.nodup_append]
  simp at q2 q3
  refine ⟨⟨q1, fun n hn => q2 n hn, by omega⟩, ⟨fun n hn => q3 n hn, by omega⟩, q4, fun n hn => by have := hl n hn; omega⟩
end
theorem cast0 : ((0 : Nat) : Int) = 0 := rfl
theorem Rep.c_lt {κ ν : Type} {C : Cfg κ ν} {w : World} {c m : Nat} {most : Int} {l : List (Nd κ ν)} (h : Rep C w c m most l) : c < w.heap.size := h.lt (by simp)
theorem Rep.m_lt {κ ν : Type} {C : Cfg κ ν} {w : World} {c m : Nat} {most : Int} {l : List (Nd κ ν)} (h : Rep C w c m most l) : m < w.heap.size := h.lt (by simp)
theorem store6 {w w' : World} {g : Nat} {a0 a1 a2 a3 a4 a5 b0 b1 b2 b3 b4 b5 : Value} {t : TypeId} (h : w.heap[g]? = some (.cells #[a0, a1, a2, a3, a4, a5] t (0, 0)))
  (hw : w'.Alike ((((((w.setCell ⟨g, 0, none⟩ b0).setCell ⟨g, 1, none⟩ b1).setCell ⟨g, 2, none⟩ b2).setCell ⟨g, 3, none⟩ b3).setCell ⟨g, 4, none⟩ b4).setCell ⟨g, 5, none⟩ b5)) :
  w'.heap[g]? = some (.cells #[b0, b1, b2, b3, b4, b5] t (0, 0)) ∧ Upd [g] w w' := by
 refine ⟨?_, ?_⟩
 ·rw [hw.1]; simp [heap_setCell, h, Obj.put]
 ·exact (((((((Upd.refl _ _).setCell (by simp) _ _).setCell (by simp) _ _).setCell (by simp) _ _).setCell (by simp) _ _).setCell (by simp) _ _).setCell (by simp) _ _).alike hw
section
variable {κ ν : Type} {C : Cfg κ ν}
theorem rep_gone {w w1 w2 : World} {c m ck : Nat} {most : Int} {l1 l2 : List (Nd κ ν)} {x : Nd κ ν} {es es' : Array MapEntry} (h : Rep C w c m most (l1 ++ x :: l2)) (hb : w1.heap[m]? = some (.map es ck))
  (hL : Lay C w1 c m most (l1 ++ l2)) (hm : MapRep C es' (l1 ++ l2)) (hW : w2.Alike (ChangeMaps.setBlock w1 m (.map es' ck))) : Rep C w2 c m most (l1 ++ l2) ∧ Upd [m] w1 w2 := by
 have hm1 := lt_of_blk hb
 have keep : ∀ k, k ≠ m → w2.heap[k]? = w1.heap[k]? := fun k hn => by rw [hW.1, heap_setBlock _ _ _ _ hm1, if_neg hn]
 have hnd := hL.nodup
 simp only [List.nodup_cons, List.mem_cons, not_or] at hnd
 refine ⟨⟨⟨by rw [keep c hnd.1.1]; exact hL.cache, chain_congr C (fun n hn => keep n.a (fun e => hnd.2.1 (List.mem_map.2 ⟨n, hn, e⟩))) hL.chain, hL.nodup⟩, ⟨es', ck, ?_, hm⟩, ?_⟩, ⟨hW.2.1, hW.2.2, ?_, fun k _ hn => keep k (by simpa using hn)⟩⟩
 ·rw [hW.1, heap_setBlock _ _ _ _ hm1, if_pos rfl]
 ·exact h.keys.sublist (by simp)
 ·rw [hW.1]; simp [ChangeMaps.setBlock]
end
section
variable {κ ν : Type} {C : Cfg κ ν}
end
end Go.Proofs.YtgpefiacbipfpaaGreatDoor.Bc
