/- bytes.Equal, HasPrefix, CutPrefix. The codec's walks: Frame. The codec's walks: Frame, where the length fits. The codec's walks: Frame, joined. -/
import Derived.Laws.BytesArg
import Derived.Test.YtgpefiacbipfpaaGreatDoorC04
namespace Go.Proofs.YtgpefiacbipfpaaGreatDoor
open Go.RowKit
theorem Rd.str {w : World} {v : Value} {l : Bs} (h : Rd w v l) : (convert 23 9 v).run Tryz.prog w = .ok (.string (strOf l)) w := by
 obtain ⟨a, c, rfl, h1, h2, h3⟩ := h.slice
 rcases a with _ | ⟨b, o, p⟩
 ·obtain ⟨h4, rfl⟩ := h3 rfl
  obtain rfl := List.eq_nil_of_length_eq_zero h4
  exact run_convert_bytes_nil (P := Tryz.prog) w 23 5 Tryz.underlying23 Tryz.underlying5 0 0 9 Tryz.underlying9
 ·refine run_convert_bytes_back (P := Tryz.prog) w 23 9 5 ⟨b, o, p⟩ c l Tryz.underlying23 Tryz.underlying5 Tryz.underlying9 fun j hj => ?_
  obtain ⟨-, -, -, hcell⟩ := h.cell
  obtain ⟨b', o', e, hc⟩ := hcell (by omega)
  cases e
  rw [add_plainG]
  exact hc j hj
theorem strOf_inj {l r : Bs} (h : strOf l = strOf r) : l = r := by
 have := congrArg (fun s => s.data.toList) h
 simpa [strOf] using this
set_option maxRecDepth 100000 in
theorem equal_walk (w : World) (v u : Value) (s t : ByteArray) (h1 : (convert 23 9 v).run Tryz.prog w = .ok (.string s) w) (h2 : (convert 23 9 u).run Tryz.prog w = .ok (.string t) w) :
  Calls Tryz.prog 111 #[v, u] w fun e w' => e = .returned (.bool (s.toList == t.toList)) ∧ w' = w := by
 go_enter Tryz.func111, Tryz.ntmps111
 go_wp2_with fail
 go_ret
 exact ⟨rfl, rfl⟩
theorem equal_ok (w : World) {v u : Value} {l r : Bs} (h1 : Rd w v l) (h2 : Rd w u r) : Calls Tryz.prog 111 #[v, u] w fun e w' => e = .returned (.bool (decide (l = r))) ∧ w' = w := by
 refine (equal_walk w v u _ _ h1.str h2.str).mono ?_
 rintro e w' ⟨rfl, rfl⟩
 refine ⟨?_, rfl⟩
 rw [← beq_toListBytes, bytes_beq]
 congr 2
 exact decide_eq_decide.2 ⟨strOf_inj, fun e => by rw [e]⟩
theorem Rd.init {w : World} {a : Option Addr} {n c : Nat} {l : Bs} (h : Rd w (.slice a n c) l) (m : Nat) (hm : m ≤ l.length) : Rd w (.slice a m c) (l.take m) := by
 obtain ⟨⟨a', cap, hv, h1, h2, h3⟩, h4⟩ := h
 simp only [Value.slice.injEq] at hv
 obtain ⟨rfl, rfl, rfl⟩ := hv
 have hlen : (l.take m).length = m := by rw [List.length_take]; omega
 refine ⟨⟨a, c, by rw [hlen], by rw [hlen]; omega, h2, fun j hj => ?_⟩, fun n c e => by cases e; exact h4 _ _ rfl⟩
 obtain ⟨b, off, e, hc⟩ := h3 j (by rw [hlen] at hj; omega)
 refine ⟨b, off, e, ?_⟩
 have e2 : (l.take m)[j] = l[j]'(by rw [hlen] at hj; omega) := by simp
 rw [e2]; exact hc
theorem Rd.tail {w : World} {b off n c : Nat} {l : Bs} (h : Rd w (.slice (some ⟨b, off, none⟩) n c) l) (i : Nat) (hi : i ≤ l.length) : Rd w (.slice (some ⟨b, off + i, none⟩) (n - i) (c - i)) (l.drop i) := by
 have hn := h.cell
 have := h.part i (n - i) (by omega) (c - i) (by omega) (by omega)
 rwa [List.take_of_length_le (by rw [List.length_drop]; omega)] at this
set_option maxRecDepth 100000 in
set_option maxHeartbeats 1000000 in
theorem hasPrefix_ok (w : World) {v u : Value} {l r : Bs} (h1 : Rd w v l) (h2 : Rd w u r) : Calls Tryz.prog 164 #[v, u] w fun e w' => e = .returned (.bool (decide (r <+: l))) ∧ w' = w := by
 obtain ⟨a, c, rfl, g1, g2, g3⟩ := h1.slice
 obtain ⟨a2, c2, rfl, k1, k2, k3⟩ := h2.slice
 by_cases hl : r.length ≤ l.length
 ·have hr : (decide (l.take r.length = r)) = decide (r <+: l) := decide_eq_decide.2 (by rw [List.prefix_iff_eq_take]; exact eq_comm)
  rw [← hr]
  rcases a with _ | ad
  ·obtain ⟨h4, rfl⟩ := g3 rfl
   obtain rfl := List.eq_nil_of_length_eq_zero h4
   obtain rfl := List.eq_nil_of_length_eq_zero (show r.length = 0 by simpa using hl)
   have HE := Lib.hid (equal_ok w (Rd.nil w) h2)
   simp only [List.length_nil, List.take_nil, decide_true] at HE ⊢
   clear h1 h2 hr
   go_enter Tryz.func164, Tryz.ntmps164
   go_wp2_with fail
   refine HE.out.mono ?_
   rintro e w' ⟨rfl, rfl⟩
   go_wp2_with fail
   go_ret
   exact ⟨rfl, rfl⟩
  ·have HE := Lib.hid (equal_ok w (h1.init r.length hl) h2)
   have hlt : (r.length : Int) ≤ (l.length : Int) := by omega
   clear h1 h2 hr
   generalize decide (l.take r.length = r) = R at *
   go_enter Tryz.func164, Tryz.ntmps164
   go_wp2_with fail
   refine HE.out.mono ?_
   rintro e w' ⟨rfl, rfl⟩
   go_wp2_with fail
   go_ret
   exact ⟨rfl, rfl⟩
 ·have hr : decide (r <+: l) = false := decide_eq_false fun q => hl q.length_le
  rw [hr]
  have hlt : ¬ (r.length : Int) ≤ (l.length : Int) := by omega
  clear h1 h2
  go_enter Tryz.func164, Tryz.ntmps164
  go_wp2_with fail
  go_ret
  exact ⟨rfl, rfl⟩
set_option maxRecDepth 100000 in
set_option maxHeartbeats 1000000 in
theorem cutPrefix_yes (w : World) {v u : Value} {l r : Bs} (h1 : Rd w v l) (h2 : Rd w u r) (hp : r <+: l) (hlen : r.length < l.length) : Calls Tryz.prog 129 #[v, u] w fun e w' => ∃ v', e = .returned (.tuple #[v', .bool true]) ∧ Rd w v' (l.drop r.length) ∧ w' = w ∧ v'.ownBlock = v.ownBlock := by
 have hpre := hasPrefix_ok w h1 h2
 rw [decide_eq_true hp] at hpre
 have HP := Lib.hid hpre
 obtain ⟨a, c, rfl, g1, g2, g3⟩ := h1.slice
 obtain ⟨a2, c2, rfl, k1, k2, k3⟩ := h2.slice
 obtain ⟨-, -, -, hcell⟩ := h1.cell
 obtain ⟨b, off, rfl, -⟩ := hcell (by omega)
 have HT := Lib.hid (h1.tail r.length (by omega))
 have hne : ¬ c = r.length := by omega
 clear hpre h1 h2 hcell
 go_enter Tryz.func129, Tryz.ntmps129
 go_wp2_with fail
 refine HP.out.mono ?_
 rintro e w' ⟨rfl, rfl⟩
 go_wp2_with fail
 go_ret2
 exact ⟨_, rfl, HT.out, rfl, rfl⟩
set_option maxRecDepth 100000 in
set_option maxHeartbeats 1000000 in
theorem cutPrefix_no (w : World) {v u : Value} {l r : Bs} (h1 : Rd w v l) (h2 : Rd w u r) (hp : ¬ r <+: l) : Calls Tryz.prog 129 #[v, u] w fun e w' => e = .returned (.tuple #[v, .bool false]) ∧ w' = w := by
 have hpre := hasPrefix_ok w h1 h2
 rw [decide_eq_false hp] at hpre
 have HP := Lib.hid hpre
 clear hpre h1 h2
 go_enter Tryz.func129, Tryz.ntmps129
 go_wp2_with fail
 refine HP.out.mono ?_
 rintro e w' ⟨rfl, rfl⟩
 go_wp2_with fail
 go_ret2
 exact ⟨rfl, rfl⟩
end Go.Proofs.YtgpefiacbipfpaaGreatDoor

namespace Go.Proofs.YtgpefiacbipfpaaGreatDoor
open Go.RowKit
theorem nil_new (base : Nat) : ∀ g, (Value.slice none 0 0).ownBlock = some g → base ≤ g := fun g h => by cases h
def FrameV (base : Nat) (w' : World) (e : Ending) (R : UInt8 × Bs × Nat × Nat) : Prop := ∃ v', e = .returned (.tuple #[.agg #[.int .u8 R.1.toNat, v'], .int .i64 R.2.2.1, .int .i64 R.2.2.2]) ∧ Rd w' v' R.2.1 ∧ ∀ g, v'.ownBlock = some g → base ≤ g
theorem ret_frame {fn : Func} {R : Ending → World → Prop} {a : Act} {W : World} {B : Nat} {k : Int} {v : Value} (hr : fn.results = #[.cell 2 25, .tmp 3, .tmp 4])
  (hs : a.tmps.getD 2 undef = .pointer (some ⟨B, 0, none⟩)) (z0 : W.cell? ⟨B, 0, none⟩ = some (.int .u8 k)) (z1 : W.cell? ⟨B, 1, none⟩ = some v) (hd : a.defers = []) (h : R (.returned (.tuple #[.agg #[.int .u8 k, v], a.tmps.getD 3 undef, a.tmps.getD 4 undef])) W) : bodyPost Tryz.prog fn R .ret a W := by
 refine bodyPost_ret (v := .tuple #[.agg #[.int .u8 k, v], a.tmps.getD 3 undef, a.tmps.getD 4 undef]) ?_ hd h
 have hs' := hs
 simp only [Array.getD_eq_getD_getElem?] at hs'
 simp [results, hr, hs', go_sem, z0, z1]
set_option maxRecDepth 100000 in
set_option maxHeartbeats 2000000 in
theorem frame_short (w : World) {v : Value} {l : Bs} (h : Rd w v l) (hl : l.length < 5) : Calls Tryz.prog 115 #[v] w fun e w' => FrameV w.heap.size w' e (0, [], 0, 10) ∧ Upd [] w w' := by
 obtain ⟨a, c, rfl, h1, h2, h3⟩ := h.slice
 have hlt : (l.length : Int) < 5 := by omega
 clear h
 go_enter Tryz.func115, Tryz.ntmps115
 go_wp2_with fail
 exact ret_frame Tryz.results115 rfl (cell_blk (heap_top _ _) 0) (cell_blk (heap_top _ _) 1) rfl ⟨⟨_, rfl, Rd.nil _, nil_new _⟩, (Upd.refl [] w).alloc _⟩
theorem uint_at5 (w : World) {b off n c : Nat} {l : Bs} (h : Rd w (.slice (some ⟨b, off, none⟩) n c) l) (hl : 5 ≤ l.length) (V : World) (u : Upd [] w V) :
  Calls Tryz.prog 130 #[.slice (some ⟨b, off + 5, none⟩) (n - 5) (c - 5)] V fun e w' => e = .returned (.tuple #[.int .u64 (getUint (l.drop 5)).1, .int .i64 (getUint (l.drop 5)).2.1, .int .i64 (getUint (l.drop 5)).2.2]) ∧ w' = V :=
 uint_ok V ((h.tail 5 hl).keep u)
set_option maxRecDepth 100000 in
set_option maxHeartbeats 2000000 in
theorem frame_walk1 (w : World) {b off n c u k e : Nat} (hn : 5 < n) (hc : n ≤ c) (hc2 : c ≤ 9223372036854775807) (hu : u < 18446744073709551616) (hk : k ≤ 10) (he : e ≤ 20)
  (HU : ∀ V, Upd [] w V → Calls Tryz.prog 130 #[.slice (some ⟨b, off + 5, none⟩) (n - 5) (c - 5)] V fun r w' => r = .returned (.tuple #[.int .u64 u, .int .i64 k, .int .i64 e]) ∧ w' = V) (E : Nat)
  (hE : (e ≠ 0 ∧ E = e) ∨ (e = 0 ∧ 2000 < u ∧ E = 12) ∨ (e = 0 ∧ u ≤ 2000 ∧ n < 5 + k + u ∧ E = 10)) :
  Calls Tryz.prog 115 #[.slice (some ⟨b, off, none⟩) n c] w fun r w' => FrameV w.heap.size w' r (0, [], 0, E) ∧ Upd [] w w' := by
 have HU := Lib.hid HU
 have hlt : ¬ (n : Int) < 5 := by omega
 have hne : ¬ c = 5 := by omega
 rcases hE with ⟨h1, rfl⟩ | ⟨rfl, h2, rfl⟩ | ⟨rfl, h2, h3, rfl⟩
 ·have h1' : ¬ (E : Int) = 0 := by omega
  go_enter Tryz.func115, Tryz.ntmps115
  go_wp2_with fail
  refine (HU.out _ ((Upd.refl [] w).alloc _)).mono ?_
  rintro r w1 ⟨rfl, rfl⟩
  go_wp2_with fail
  exact ret_frame Tryz.results115 rfl (cell_blk (heap_top _ _) 0) (cell_blk (heap_top _ _) 1) rfl ⟨⟨_, rfl, Rd.nil _, nil_new _⟩, (Upd.refl [] w).alloc _⟩
 ·have h1' : (2000 : Int) < (u : Int) := by omega
  go_enter Tryz.func115, Tryz.ntmps115
  go_wp2_with fail
  refine (HU.out _ ((Upd.refl [] w).alloc _)).mono ?_
  rintro r w1 ⟨rfl, rfl⟩
  go_wp2_with fail
  exact ret_frame Tryz.results115 rfl (cell_blk (heap_top _ _) 0) (cell_blk (heap_top _ _) 1) rfl ⟨⟨_, rfl, Rd.nil _, nil_new _⟩, (Upd.refl [] w).alloc _⟩
 ·have h1' : ¬ (2000 : Int) < (u : Int) := by omega
  have h2' : (n : Int) - 5 - (k : Int) < (u : Int) := by omega
  go_enter Tryz.func115, Tryz.ntmps115
  go_wp2_with fail
  refine (HU.out _ ((Upd.refl [] w).alloc _)).mono ?_
  rintro r w1 ⟨rfl, rfl⟩
  go_wp2_with fail
  exact ret_frame Tryz.results115 rfl (cell_blk (heap_top _ _) 0) (cell_blk (heap_top _ _) 1) rfl ⟨⟨_, rfl, Rd.nil _, nil_new _⟩, (Upd.refl [] w).alloc _⟩
end Go.Proofs.YtgpefiacbipfpaaGreatDoor

namespace Go.Proofs.YtgpefiacbipfpaaGreatDoor
open Go.RowKit
theorem box_set2 {W : World} {B : Nat} {a0 b0 : Value} {T : TypeId} (h : W.heap[B]? = some (.cells #[a0, b0] T (0, 0))) (a b : Value) :
  ((W.setCell ⟨B, 0, none⟩ a).setCell ⟨B, 1, none⟩ b).heap[B]? = some (.cells #[a, b] T (0, 0)) := by
 rw [heap_setCell, if_pos rfl, heap_setCell, if_pos rfl, h]
 rfl
set_option maxRecDepth 100000 in
set_option maxHeartbeats 2000000 in
theorem frame_walk2 (w : World) {b off n c u k s1 s2 : Nat} (hc : n ≤ c) (hc2 : c ≤ 9223372036854775807) (hu : u ≤ 2000) (hk : k ≤ 10) (hk0 : 1 ≤ k) (hf : 5 + k + u ≤ n) (_hs1 : s1 < 4294967296) (_hs2 : s2 < 4294967296) (hne : s1 ≠ s2)
  (HU : ∀ V, Upd [] w V → Calls Tryz.prog 130 #[.slice (some ⟨b, off + 5, none⟩) (n - 5) (c - 5)] V fun r w' => r = .returned (.tuple #[.int .u64 u, .int .i64 k, .int .i64 0]) ∧ w' = V)
  (H3 : ∀ V, Upd [] w V → Calls Tryz.prog 153 #[.slice (some ⟨b, off, none⟩) n c] V fun r w' => r = .returned (.tuple #[.int .u32 s1, .int .i64 0]) ∧ Upd [] V w')
  (HS : ∀ V, Upd [] w V → Calls Tryz.prog 120 #[.slice (some ⟨b, off + 4, none⟩) (5 + k + u - 4) (c - 4)] V fun r w' => r = .returned (.int .u32 s2) ∧ Upd [] V w') :
  Calls Tryz.prog 115 #[.slice (some ⟨b, off, none⟩) n c] w fun r w' => FrameV w.heap.size w' r (0, [], 0, 11) ∧ Upd [] w w' := by
 have HU := Lib.hid HU
 have H3 := Lib.hid H3
 have HS := Lib.hid HS
 have hlt : ¬ (n : Int) < 5 := by omega
 have hne5 : ¬ c = 5 := by omega
 have hne4 : ¬ c = 4 := by omega
 have h1' : ¬ (2000 : Int) < (u : Int) := by omega
 have h2' : ¬ (n : Int) - 5 - (k : Int) < (u : Int) := by omega
 have h3' : ¬ (s1 : Int) = (s2 : Int) := by omega
 go_enter Tryz.func115, Tryz.ntmps115
 go_wp2_with fail
 refine (HU.out _ ((Upd.refl [] w).alloc _)).mono ?_
 rintro r w1 ⟨rfl, rfl⟩
 go_wp2_with fail
 refine (H3.out _ ((Upd.refl [] w).alloc _)).mono ?_
 rintro r w1 ⟨rfl, hU1⟩
 have HU1 : Hid (Upd [] w w1) := Lib.hid (((Upd.refl [] w).alloc _).trans hU1)
 have HB1 := Lib.hid ((hU1.block w.heap.size (by simp) (by simp)).trans (heap_top _ _))
 clear hU1
 go_wp2_with fail
 refine (HS.out _ HU1.out).mono ?_
 rintro r w2 ⟨rfl, hU2⟩
 have hB2 := (hU2.block w.heap.size (lt_of_blk HB1.out) (by simp)).trans HB1.out
 have z0 := cell_blk hB2 0
 have z1 := cell_blk hB2 1
 have f0 := frozen_blk hB2 0
 have f1 := frozen_blk hB2 1
 have HU2 : Hid (Upd [] w w2) := Lib.hid (HU1.out.trans hU2)
 have HB2 := Lib.hid hB2
 clear hU2 hB2
 go_wp2_with fail
 have hb3 := box_set2 HB2.out (.int .u8 0) (.slice none 0 0)
 exact ret_frame Tryz.results115 rfl (cell_blk hb3 0) (cell_blk hb3 1) rfl ⟨⟨_, rfl, Rd.nil _, nil_new _⟩, (HU2.out.setCellNew (Nat.le_refl _) _ _).setCellNew (Nat.le_refl _) _ _⟩
set_option maxRecDepth 100000 in
set_option maxHeartbeats 4000000 in
theorem frame_walk3 (w : World) {b off n c u k s1 : Nat} {x : UInt8} {d : Bs} (hc : n ≤ c) (hc2 : c ≤ 9223372036854775807) (hu : u ≤ 2000) (hk : k ≤ 10) (hk0 : 1 ≤ k) (hf : 5 + k + u ≤ n) (_hs1 : s1 < 4294967296)
  (hx : w.cell? ⟨b, off + 4, none⟩ = some (.int .u8 x.toNat))
  (HU : ∀ V, Upd [] w V → Calls Tryz.prog 130 #[.slice (some ⟨b, off + 5, none⟩) (n - 5) (c - 5)] V fun r w' => r = .returned (.tuple #[.int .u64 u, .int .i64 k, .int .i64 0]) ∧ w' = V)
  (H3 : ∀ V, Upd [] w V → Calls Tryz.prog 153 #[.slice (some ⟨b, off, none⟩) n c] V fun r w' => r = .returned (.tuple #[.int .u32 s1, .int .i64 0]) ∧ Upd [] V w')
  (HS : ∀ V, Upd [] w V → Calls Tryz.prog 120 #[.slice (some ⟨b, off + 4, none⟩) (5 + k + u - 4) (c - 4)] V fun r w' => r = .returned (.int .u32 s1) ∧ Upd [] V w')
  (A : Addr) (hsl : ∀ W, (Instr.slice 23 (.slice (some ⟨b, off, none⟩) n c) (some (.int .i64 (5 + (k : Int)))) (some (.int .i64 (5 + (k : Int) + (u : Int)))) none).run Tryz.prog W = .ok (.slice (some A) u (c - (5 + k))) W)
  (HD : ∀ V, Upd [] w V → Calls Tryz.prog 92 #[.slice (some A) u u] V fun e w' => ∃ v', e = .returned v' ∧ Ow w' V.heap.size v' d ∧ Upd [] V w') :
  Calls Tryz.prog 115 #[.slice (some ⟨b, off, none⟩) n c] w fun r w' => FrameV w.heap.size w' r (x, d, 5 + k + u, 0) ∧ Upd [] w w' := by
 have HU := Lib.hid HU
 have H3 := Lib.hid H3
 have HS := Lib.hid HS
 have hlt : ¬ (n : Int) < 5 := by omega
 have hne5 : ¬ c = 5 := by omega
 have hne4 : ¬ c = 4 := by omega
 have h1' : ¬ (2000 : Int) < (u : Int) := by omega
 have h2' : ¬ (n : Int) - 5 - (k : Int) < (u : Int) := by omega
 have hn4 : (4 : Int) < (n : Int) := by omega
 have HD := Lib.hid HD
 have hwr : IntKind.i64.wrap (5 + (k : Int)) = 5 + (k : Int) := IntWalk.i64_in _ (by omega)
 go_enter Tryz.func115, Tryz.ntmps115
 go_wp2_with fail
 refine (HU.out _ ((Upd.refl [] w).alloc _)).mono ?_
 rintro r w1 ⟨rfl, rfl⟩
 go_wp2_with fail
 refine (H3.out _ ((Upd.refl [] w).alloc _)).mono ?_
 rintro r w1 ⟨rfl, hU1⟩
 have HU1 : Hid (Upd [] w w1) := Lib.hid (((Upd.refl [] w).alloc _).trans hU1)
 have HB1 := Lib.hid ((hU1.block w.heap.size (by simp) (by simp)).trans (heap_top _ _))
 clear hU1
 go_wp2_with fail
 refine (HS.out _ HU1.out).mono ?_
 rintro r w2 ⟨rfl, hU2⟩
 have hB2 := (hU2.block w.heap.size (lt_of_blk HB1.out) (by simp)).trans HB1.out
 have HU2 : Hid (Upd [] w w2) := Lib.hid (HU1.out.trans hU2)
 have HB2 := Lib.hid hB2
 have p0 := cell_keep HU2.out hx
 clear hU2 hB2
 go_wp2_with fail
 go_region_held3 (fun w' => w'.cell? ⟨b, off + 4, none⟩ = some (.int .u8 x.toNat))
  (first
   | (with_reducible exact held1 HU2.out.drew hx)
   | (with_reducible exact held1 hv6 hx)
   | (with_reducible exact held1 ((hv6.setCellNew (Nat.le_refl _) _ _).setCellNew (Nat.le_refl _) _ _) hx))
  (first
   | (go_at_call 143; refine (room_ok _ (some A) u (c - (5 + k)) (by omega) (by omega) (fun q => by cases q)).mono ?_; rintro e w5 ⟨rfl, rfl⟩)
   | (go_at_call 92; (with_reducible refine (HD.out _ ?_).mono ?_); (exact HU2.out.drew); rintro e w6 ⟨v6, rfl, ho6, hu6⟩; obtain ⟨a6, c6, rfl⟩ := ho6.slice; have hv6 : Upd [] w w6 := HU2.out.drew.trans hu6; have hB6 := (hu6.block w.heap.size (by exact lt_of_blk HB2.out) (by simp)).trans HB2.out; have z0 := cell_blk hB6 0; have z1 := cell_blk hB6 1; have f0 := frozen_blk hB6 0; have f1 := frozen_blk hB6 1))
 go_wp2_with fail
 have hb3 := box_set2 hB6 (.int .u8 x.toNat) (.slice a6 d.length c6)
 refine ret_frame (v := .slice a6 d.length c6) Tryz.results115 rfl (cell_blk hb3 0) (cell_blk hb3 1) rfl ⟨⟨_, rfl, ?_, fun g hg => Nat.le_trans HU2.out.size (by have := (ho6.block g hg).1; exact this)⟩, (hv6.setCellNew (Nat.le_refl _) _ _).setCellNew (Nat.le_refl _) _ _⟩
 have hle : w.heap.size < w2.heap.size := lt_of_blk HB2.out
 refine Ow.rd (base := w2.heap.size) (ho6.upd (((Upd.refl [w.heap.size] w6).setCell (by simp) _ _).setCell (by simp) _ _) fun j hj q => ?_)
 have := (ho6.block j q).1
 simp at hj this
 omega
end Go.Proofs.YtgpefiacbipfpaaGreatDoor

namespace Go.Proofs.YtgpefiacbipfpaaGreatDoor
open Go.RowKit
theorem getU_le : ∀ (k i acc : Nat) (b : Bs), (getU k i acc b).2.1 ≤ i + k := by
 intro k
 induction k with
 | zero => intro i acc b; simp [getU]
 | succ k ih =>
  intro i acc b
  cases b with
  | nil => simp [getU]
  | cons c r =>
   simp only [getU]
   split
   ·have := ih (i + 1) ((acc ||| (c.toNat % 128) <<< (7 * i)) % 2 ^ 64) r; omega
   ·split
    ·simp
    ·simp
theorem elem8 : Tryz.prog.underlying 23 = some (.slice (Tryz.prog.elem 23)) := by kernel_rfl
theorem size8 (w : World) : (sizeOf (Tryz.prog.elem 23)).run Tryz.prog w = .ok 1 w := by kernel_rfl
theorem frame_ok (w : World) {v : Value} {l : Bs} (h : Rd w v l) (h5 : l.length ≠ 5) : Calls Tryz.prog 115 #[v] w fun e w' => FrameV w.heap.size w' e (getFrame l) ∧ Upd [] w w' := by
 by_cases hl : l.length < 5
 ·have hR : getFrame l = (0, [], 0, 10) := by unfold getFrame; rw [if_pos hl]
  rw [hR]
  exact frame_short w h hl
 ·obtain ⟨a, c, rfl, h1, h2, h3⟩ := h.slice
  obtain ⟨-, -, -, hcell⟩ := h.cell
  obtain ⟨b, off, rfl, hc⟩ := hcell (by omega)
  have hb := getU_bounds 10 0 0 (l.drop 5) (by decide)
  have hle := getU_le 10 0 0 (l.drop 5)
  have hU := fun V (u : Upd [] w V) => uint_at5 w h (by omega) V u
  unfold getFrame
  rw [if_neg hl]
  have hlen : (l.drop 5).length = l.length - 5 := List.length_drop
  unfold getUint at hU ⊢
  generalize getU 10 0 0 (l.drop 5) = g at *
  obtain ⟨u, k, e⟩ := g
  dsimp only at hb hle hU ⊢
  obtain ⟨hb1, hb2, hb3, hb4⟩ := hb
  by_cases he : e = 0
  ·subst he
   obtain ⟨hk0, hk1⟩ := hb2 rfl
   rw [if_neg (by simp)]
   by_cases hu : 2000 < u
   ·rw [if_pos hu]
    exact frame_walk1 w (by omega) h1 h2 hb1 (by omega) (by omega) hU 12 (.inr (.inl ⟨rfl, hu, rfl⟩))
   ·rw [if_neg hu]
    by_cases hs : l.length - 5 - k < u
    ·rw [if_pos hs]
     exact frame_walk1 w (by omega) h1 h2 hb1 (by omega) (by omega) hU 10 (.inr (.inr ⟨rfl, by omega, by omega, rfl⟩))
    ·rw [if_neg hs]
     have hpart : ∀ V, Upd [] w V → Rd V (.slice (some ⟨b, off + 4, none⟩) (5 + k + u - 4) (c - 4)) ((l.take (5 + k + u)).drop 4) := fun V hV => by
      have := (h.part 4 (5 + k + u - 4) (by omega) (c - 4) (by omega) (by omega)).keep hV
      rwa [List.drop_take]
     have h3' : ∀ V, Upd [] w V → Calls Tryz.prog 153 #[.slice (some ⟨b, off, none⟩) l.length c] V fun r w' => r = .returned (.tuple #[.int .u32 (get32 l), .int .i64 0]) ∧ Upd [] V w' := fun V hV => by
      have := u32_ok V (h.keep hV)
      rwa [if_neg (by omega), if_neg (by omega)] at this
     have hS : ∀ V, Upd [] w V → Calls Tryz.prog 120 #[.slice (some ⟨b, off + 4, none⟩) (5 + k + u - 4) (c - 4)] V fun r w' => r = .returned (.int .u32 (sumB ((l.take (5 + k + u)).drop 4))) ∧ Upd [] V w' := fun V hV => sum_ok V (hpart V hV)
     have hg32 : get32 l < 4294967296 := by
      obtain ⟨y0, y1, y2, y3, g0, g1, g2, g3, -, -, -, -, hg⟩ := four l (by omega)
      rw [hg]
      have b1 : y1 <<< 8 < 2 ^ 32 := by rw [Nat.shiftLeft_eq]; omega
      have b2 : y2 <<< 16 < 2 ^ 32 := by rw [Nat.shiftLeft_eq]; omega
      have b3 : y3 <<< 24 < 2 ^ 32 := by rw [Nat.shiftLeft_eq]; omega
      exact Nat.or_lt_two_pow (n := 32) (Nat.or_lt_two_pow (Nat.or_lt_two_pow (by omega) b1) b2) b3
     by_cases hq : get32 l = sumB ((l.take (5 + k + u)).drop 4)
     ·rw [if_neg (by simpa using hq)]
      have h4 := hc 4 (by omega)
      have e4 : l.getD 4 0 = l[4] := by rw [List.getD_eq_getElem?_getD, List.getElem?_eq_getElem (by omega)]; rfl
      rw [e4]
      rw [← hq] at hS
      have hd : (l.take (5 + k + u)).drop (5 + k) = (l.drop (5 + k)).take u := by rw [List.drop_take]; congr 1; omega
      rw [hd]
      by_cases hce : c = 5 + k
      ·refine frame_walk3 w h1 h2 (by omega) (by omega) (by omega) (by omega) hg32 h4 hU h3' hS ⟨b, off, none⟩ (fun W => ?_) (fun V hV => ?_)
       ·rw [run_slice_lh (w := W) 23 (some ⟨b, off, none⟩) l.length c elem8 .i64 .i64 _ _ (by omega) (by omega) (by omega), size8]
        simp only [Result.andThen, sliced]
        have e1 : (5 + (k : Int)).toNat = 5 + k := by omega
        have e2 : (5 + (k : Int) + (u : Int)).toNat = 5 + k + u := by omega
        rw [e1, e2, if_pos (by omega), show 5 + k + u - (5 + k) = u by omega]
       ·have hu0 : u = 0 := by omega
        subst hu0
        have hz : (l.drop (5 + k)).take 0 = [] := rfl
        rw [hz]
        have hr : RdG c8 1 V (.slice (some ⟨b, off, none⟩) 0 0) [] := ⟨⟨some ⟨b, off, none⟩, 0, rfl, Nat.le_refl _, by unfold maxLen; omega, fun i hi => absurd hi (by simp)⟩, fun n c e => by cases e⟩
        exact clone8_ok V hr (by simp)
      ·refine frame_walk3 w h1 h2 (by omega) (by omega) (by omega) (by omega) hg32 h4 hU h3' hS ⟨b, off + (5 + k), none⟩ (fun W => ?_) (fun V hV => ?_)
       ·rw [run_slice_lh (w := W) 23 (some ⟨b, off, none⟩) l.length c elem8 .i64 .i64 _ _ (by omega) (by omega) (by omega), size8]
        simp only [Result.andThen, sliced]
        have e1 : (5 + (k : Int)).toNat = 5 + k := by omega
        have e2 : (5 + (k : Int) + (u : Int)).toNat = 5 + k + u := by omega
        rw [e1, e2, if_neg (by omega), show 5 + k + u - (5 + k) = u by omega]
        simp only [Option.map, add_plainG, Nat.mul_one]
       ·have hr := ((h.part (5 + k) u (by omega) u (Nat.le_refl _) (by omega)).keep hV).g
        have hlu : ((l.drop (5 + k)).take u).length = u := by rw [List.length_take, List.length_drop]; omega
        exact clone8_ok V hr (by omega)
     ·rw [if_pos (by simpa using hq)]
      exact frame_walk2 w h1 h2 (by omega) (by omega) (by omega) (by omega) hg32 (sumB_lt _) hq hU h3' hS
  ·rw [if_pos he]
   exact frame_walk1 w (by omega) h1 h2 hb1 (by omega) (by omega) hU e (.inl ⟨he, rfl⟩)
end Go.Proofs.YtgpefiacbipfpaaGreatDoor
