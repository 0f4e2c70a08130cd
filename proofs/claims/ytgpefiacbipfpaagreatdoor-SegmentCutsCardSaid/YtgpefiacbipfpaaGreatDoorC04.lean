/- bytes.Clone, slices.Clone: another row of the same. (Printed by gclone.py.) bytes.Equal, HasPrefix, CutPrefix. The codec's walks: Frame. The codec's walks: Frame, where the length fits. -/
import Derived.Lib.SliceRun
import Derived.Laws.BytesArg
import Derived.Test.YtgpefiacbipfpaaGreatDoorC03
namespace Go.Proofs.YtgpefiacbipfpaaGreatDoor
open Go.RowKit
structure RdG {α : Type} (f : α → List Value) (k : Nat) (w : World) (v : Value) (l : List α) : Prop where
 sl : SlAt k (CellsAt f) w v l
 nl : ∀ n c, v = .slice none n c → c = 0
theorem RdG.slice {α : Type} {f : α → List Value} {k : Nat} {w : World} {v : Value} {l : List α} (h : RdG f k w v l) : ∃ a c, v = .slice a l.length c ∧ l.length ≤ c ∧ c ≤ 9223372036854775807 ∧ (a = none → l.length = 0 ∧ c = 0) := by
 obtain ⟨⟨a, c, rfl, h1, h2, h3⟩, h4⟩ := h
 refine ⟨a, c, rfl, h1, by unfold maxLen at h2; omega, fun e => ?_⟩
 subst e
 have := h4 _ _ rfl
 omega
theorem RdG.upd {α : Type} {f : α → List Value} {k bytes : Nat} {st e : TypeId} (T : RowT f k bytes st e) {w w' : World} {v : Value} {l : List α} (h : RdG f k w v l) {F : List Nat} (u : Upd F w w') (hF : ∀ g, v.ownBlock = some g → g ∉ F) : RdG f k w' v l := ⟨SlAt.upd h.sl T u hF, h.nl⟩
theorem RdG.keep {α : Type} {f : α → List Value} {k bytes : Nat} {st e : TypeId} (T : RowT f k bytes st e) {w w' : World} {v : Value} {l : List α} (h : RdG f k w v l) (u : Upd [] w w') : RdG f k w' v l := h.upd T u (by simp)
theorem OwnG.rd {α : Type} {f : α → List Value} {k bytes : Nat} {st e : TypeId} (T : RowT f k bytes st e) {w : World} {base : Nat} {v : Value} {l : List α} (h : OwnG f e k w base v l) : RdG f k w v l := ⟨OwnG.sl T h, fun n c e => by
 rcases h.2 with ⟨h, -⟩ | ⟨g, cap, cur, h, -⟩
 ·rw [h] at e; cases e; rfl
 ·rw [h] at e; cases e⟩
theorem Rd.g {w : World} {v : Value} {l : Bs} (h : Rd w v l) : RdG c8 1 w v l := ⟨h.sl, h.nl⟩
theorem RdG.b {w : World} {v : Value} {l : Bs} (h : RdG c8 1 w v l) : Rd w v l := ⟨h.sl, h.nl⟩
abbrev cB (b : Bool) : List Value := [.bool b]
theorem TB : RowT cB 1 1 149 4 where
 len := fun _ => rfl
 pos := by omega
 und := Tryz.underlying149
 info := by
  obtain ⟨i, h, h1, h2, h3⟩ := info_parts (show (Tryz.prog.info? 4).map (fun i => (i.zero, i.size, i.bytes)) = some (some (.bool false), 1, 1) by kernel_rfl)
  exact ⟨i, _, h, h1, h2, h3, rfl⟩
theorem oneB (l : List Bool) : ∀ x ∈ l, ∀ u ∈ cB x, u.oneCell' = true := by
 intro x _ u hu
 simp only [cB, List.mem_cons, List.not_mem_nil, or_false] at hu
 subst hu; rfl
abbrev cR (r : Run) : List Value := [.int .i64 r.1, .int .i64 r.2]
theorem TR : RowT cR 2 16 90 148 where
 len := fun _ => rfl
 pos := by omega
 und := Tryz.underlying90
 info := by
  obtain ⟨i, h, h1, h2, h3⟩ := info_parts (show (Tryz.prog.info? 148).map (fun i => (i.zero, i.size, i.bytes)) = some (some (.agg #[.int .i64 0, .int .i64 0]), 2, 16) by kernel_rfl)
  exact ⟨i, _, h, h1, h2, h3, rfl⟩
theorem oneR (l : List Run) : ∀ x ∈ l, ∀ u ∈ cR x, u.oneCell' = true := by
 intro x _ u hu
 simp only [cR, List.mem_cons, List.not_mem_nil, or_false] at hu
 rcases hu with rfl | rfl <;> rfl
structure WrC where
 at_ : Nat
 a : Option Addr
 n : Nat
 c : Nat
abbrev cW (x : WrC) : List Value := [.int .i64 x.at_, .slice x.a x.n x.c]
theorem TW : RowT cW 2 32 101 168 where
 len := fun _ => rfl
 pos := by omega
 und := Tryz.underlying101
 info := by
  obtain ⟨i, h, h1, h2, h3⟩ := info_parts (show (Tryz.prog.info? 168).map (fun i => (i.zero, i.size, i.bytes)) = some (some (.agg #[.int .i64 0, .slice none 0 0]), 2, 32) by kernel_rfl)
  exact ⟨i, _, h, h1, h2, h3, rfl⟩
theorem oneW (l : List WrC) : ∀ x ∈ l, ∀ u ∈ cW x, u.oneCell' = true := by
 intro x _ u hu
 simp only [cW, List.mem_cons, List.not_mem_nil, or_false] at hu
 rcases hu with rfl | rfl <;> rfl
set_option maxRecDepth 100000 in
set_option maxHeartbeats 1000000 in
theorem clone8_ok (w : World) {v : Value} {l : List UInt8} (h : RdG c8 1 w v l) (hl : l.length ≤ 100000000) : Calls Tryz.prog 92 #[v] w fun e w' => ∃ v', e = .returned v' ∧ OwnG c8 5 1 w' w.heap.size v' l ∧ Upd [] w w' := by
 obtain ⟨a, c, rfl, h1, h2, h3⟩ := h.slice
 have HL := Lib.hid h
 clear h
 rcases a with _ | ad
 ·obtain ⟨h4, rfl⟩ := h3 rfl
  obtain rfl := List.eq_nil_of_length_eq_zero h4
  have hop : ∀ W, (binOp .eql 23 (.slice none 0 0) (.slice none 0 0)).run Tryz.prog W = .ok (.bool true) W := fun W => Lib.run_eql_slice_nil W _ _ _ _ _ _ _ T8.und
  go_enter Tryz.func92, Tryz.ntmps92
  go_wp2_with fail
  go_ret
  exact ⟨_, rfl, OwnG.nil _ _, Upd.refl _ _⟩
 ·have hop : ∀ W, (binOp .eql 23 (.slice (some ad) l.length c) (.slice none 0 0)).run Tryz.prog W = .ok (.bool false) W := fun W => Lib.run_eql_slice_nil W _ _ _ _ _ _ _ T8.und
  go_enter Tryz.func92, Tryz.ntmps92
  go_wp2_with (at_builtin; refine wpList_append_G T8 rfl _ _ rfl (l := []) (base := w.heap.size) rfl (OwnG.empty T8 (heap_top _ _) (Nat.le_refl _)) rfl (SlAt.srcG T8 (fun _ _ _ h => h) (HL.out.keep T8 ((Upd.refl [] w).alloc _)).sl) (one8 _) ?c1 ?c2 ?c3 ?_)
  case c1 => (first | omega | (simp; done) | (simp; omega))
  case c2 => (first | omega | (simp; done) | (simp; omega))
  case c3 => (first | omega | (simp; done) | (simp; omega))
  intro v2 w2 hown2 hg2 _
  have HU2 : Hid (Upd [] w w2) := Lib.hid (((Upd.refl [] w).alloc _).grown hg2 (fun g hg => by simp [Value.ownBlock] at hg; omega))
  clear hg2
  go_wp2_with fail
  go_ret
  exact ⟨_, rfl, by simpa using hown2, HU2.out⟩
set_option maxRecDepth 100000 in
set_option maxHeartbeats 1000000 in
theorem cloneB_ok (w : World) {v : Value} {l : List Bool} (h : RdG cB 1 w v l) (hl : l.length ≤ 100000000) : Calls Tryz.prog 112 #[v] w fun e w' => ∃ v', e = .returned v' ∧ OwnG cB 4 1 w' w.heap.size v' l ∧ Upd [] w w' := by
 obtain ⟨a, c, rfl, h1, h2, h3⟩ := h.slice
 have HL := Lib.hid h
 clear h
 rcases a with _ | ad
 ·obtain ⟨h4, rfl⟩ := h3 rfl
  obtain rfl := List.eq_nil_of_length_eq_zero h4
  have hop : ∀ W, (binOp .eql 149 (.slice none 0 0) (.slice none 0 0)).run Tryz.prog W = .ok (.bool true) W := fun W => Lib.run_eql_slice_nil W _ _ _ _ _ _ _ TB.und
  go_enter Tryz.func112, Tryz.ntmps112
  go_wp2_with fail
  go_ret
  exact ⟨_, rfl, OwnG.nil _ _, Upd.refl _ _⟩
 ·have hop : ∀ W, (binOp .eql 149 (.slice (some ad) l.length c) (.slice none 0 0)).run Tryz.prog W = .ok (.bool false) W := fun W => Lib.run_eql_slice_nil W _ _ _ _ _ _ _ TB.und
  go_enter Tryz.func112, Tryz.ntmps112
  go_wp2_with (at_builtin; refine wpList_append_G TB rfl _ _ rfl (l := []) (base := w.heap.size) rfl (OwnG.empty TB (heap_top _ _) (Nat.le_refl _)) rfl (SlAt.srcG TB (fun _ _ _ h => h) (HL.out.keep TB ((Upd.refl [] w).alloc _)).sl) (oneB _) ?c1 ?c2 ?c3 ?_)
  case c1 => (first | omega | (simp; done) | (simp; omega))
  case c2 => (first | omega | (simp; done) | (simp; omega))
  case c3 => (first | omega | (simp; done) | (simp; omega))
  intro v2 w2 hown2 hg2 _
  have HU2 : Hid (Upd [] w w2) := Lib.hid (((Upd.refl [] w).alloc _).grown hg2 (fun g hg => by simp [Value.ownBlock] at hg; omega))
  clear hg2
  go_wp2_with fail
  go_ret
  exact ⟨_, rfl, by simpa using hown2, HU2.out⟩
set_option maxRecDepth 100000 in
set_option maxHeartbeats 1000000 in
theorem cloneR_ok (w : World) {v : Value} {l : List Run} (h : RdG cR 2 w v l) (hl : l.length ≤ 100000000) : Calls Tryz.prog 139 #[v] w fun e w' => ∃ v', e = .returned v' ∧ OwnG cR 148 2 w' w.heap.size v' l ∧ Upd [] w w' := by
 obtain ⟨a, c, rfl, h1, h2, h3⟩ := h.slice
 have HL := Lib.hid h
 clear h
 rcases a with _ | ad
 ·obtain ⟨h4, rfl⟩ := h3 rfl
  obtain rfl := List.eq_nil_of_length_eq_zero h4
  have hop : ∀ W, (binOp .eql 90 (.slice none 0 0) (.slice none 0 0)).run Tryz.prog W = .ok (.bool true) W := fun W => Lib.run_eql_slice_nil W _ _ _ _ _ _ _ TR.und
  go_enter Tryz.func139, Tryz.ntmps139
  go_wp2_with fail
  go_ret
  exact ⟨_, rfl, OwnG.nil _ _, Upd.refl _ _⟩
 ·have hop : ∀ W, (binOp .eql 90 (.slice (some ad) l.length c) (.slice none 0 0)).run Tryz.prog W = .ok (.bool false) W := fun W => Lib.run_eql_slice_nil W _ _ _ _ _ _ _ TR.und
  go_enter Tryz.func139, Tryz.ntmps139
  go_wp2_with (at_builtin; refine wpList_append_G TR rfl _ _ rfl (l := []) (base := w.heap.size) rfl (OwnG.empty TR (heap_top _ _) (Nat.le_refl _)) rfl (SlAt.srcG TR (fun _ _ _ h => h) (HL.out.keep TR ((Upd.refl [] w).alloc _)).sl) (oneR _) ?c1 ?c2 ?c3 ?_)
  case c1 => (first | omega | (simp; done) | (simp; omega))
  case c2 => (first | omega | (simp; done) | (simp; omega))
  case c3 => (first | omega | (simp; done) | (simp; omega))
  intro v2 w2 hown2 hg2 _
  have HU2 : Hid (Upd [] w w2) := Lib.hid (((Upd.refl [] w).alloc _).grown hg2 (fun g hg => by simp [Value.ownBlock] at hg; omega))
  clear hg2
  go_wp2_with fail
  go_ret
  exact ⟨_, rfl, by simpa using hown2, HU2.out⟩
set_option maxRecDepth 100000 in
set_option maxHeartbeats 1000000 in
theorem cloneW_ok (w : World) {v : Value} {l : List WrC} (h : RdG cW 2 w v l) (hl : l.length ≤ 100000000) : Calls Tryz.prog 101 #[v] w fun e w' => ∃ v', e = .returned v' ∧ OwnG cW 168 2 w' w.heap.size v' l ∧ Upd [] w w' := by
 obtain ⟨a, c, rfl, h1, h2, h3⟩ := h.slice
 have HL := Lib.hid h
 clear h
 rcases a with _ | ad
 ·obtain ⟨h4, rfl⟩ := h3 rfl
  obtain rfl := List.eq_nil_of_length_eq_zero h4
  have hop : ∀ W, (binOp .eql 101 (.slice none 0 0) (.slice none 0 0)).run Tryz.prog W = .ok (.bool true) W := fun W => Lib.run_eql_slice_nil W _ _ _ _ _ _ _ TW.und
  go_enter Tryz.func101, Tryz.ntmps101
  go_wp2_with fail
  go_ret
  exact ⟨_, rfl, OwnG.nil _ _, Upd.refl _ _⟩
 ·have hop : ∀ W, (binOp .eql 101 (.slice (some ad) l.length c) (.slice none 0 0)).run Tryz.prog W = .ok (.bool false) W := fun W => Lib.run_eql_slice_nil W _ _ _ _ _ _ _ TW.und
  go_enter Tryz.func101, Tryz.ntmps101
  go_wp2_with (at_builtin; refine wpList_append_G TW rfl _ _ rfl (l := []) (base := w.heap.size) rfl (OwnG.empty TW (heap_top _ _) (Nat.le_refl _)) rfl (SlAt.srcG TW (fun _ _ _ h => h) (HL.out.keep TW ((Upd.refl [] w).alloc _)).sl) (oneW _) ?c1 ?c2 ?c3 ?_)
  case c1 => (first | omega | (simp; done) | (simp; omega))
  case c2 => (first | omega | (simp; done) | (simp; omega))
  case c3 => (first | omega | (simp; done) | (simp; omega))
  intro v2 w2 hown2 hg2 _
  have HU2 : Hid (Upd [] w w2) := Lib.hid (((Upd.refl [] w).alloc _).grown hg2 (fun g hg => by simp [Value.ownBlock] at hg; omega))
  clear hg2
  go_wp2_with fail
  go_ret
  exact ⟨_, rfl, by simpa using hown2, HU2.out⟩
end Go.Proofs.YtgpefiacbipfpaaGreatDoor

namespace Go.Proofs.YtgpefiacbipfpaaGreatDoor
open Go.RowKit
theorem Rd.str {w : World} {v : Value} {l : Bs} (h : Rd w v l) : (convert 23 9 v).run Tryz.prog w = .ok (.string (strOf l)) w := by
 obtain ⟨a, c, rfl, h1, h2, h3⟩ := h.slice
 rcases a with _ | ⟨b, o, p⟩
 ·obtain ⟨h4, rfl⟩ := h3 rfl
  obtain rfl := List.eq_nil_of_length_eq_zero h4
  exact run_convert_bytes_nil (P := Tryz.prog) w 23 5 Tryz.underlying23 Tryz.underlying5 0 0 9 Tryz.underlying9
 ·refine run_convert_bytes_back (P := Tryz.prog) w 23 9 5 ⟨b, o, p⟩ c l Tryz.underlying23 Tryz.underlying5 Tryz.underlying9 fun j hj => ?_
  obtain ⟨-, -, -, hcell⟩ := h.cell
  obtain ⟨b', o', e, hc⟩ := hcell (by omega)
  cases e
  rw [add_plainG]
  exact hc j hj
theorem strOf_inj {l r : Bs} (h : strOf l = strOf r) : l = r := by
 have := congrArg (fun s => s.data.toList) h
 simpa [strOf] using this
set_option maxRecDepth 100000 in
theorem equal_walk (w : World) (v u : Value) (s t : ByteArray) (h1 : (convert 23 9 v).run Tryz.prog w = .ok (.string s) w) (h2 : (convert 23 9 u).run Tryz.prog w = .ok (.string t) w) :
  Calls Tryz.prog 111 #[v, u] w fun e w' => e = .returned (.bool (s.toList == t.toList)) ∧ w' = w := by
 go_enter Tryz.func111, Tryz.ntmps111
 go_wp2_with fail
 go_ret
 exact ⟨rfl, rfl⟩
theorem equal_ok (w : World) {v u : Value} {l r : Bs} (h1 : Rd w v l) (h2 : Rd w u r) : Calls Tryz.prog 111 #[v, u] w fun e w' => e = .returned (.bool (decide (l = r))) ∧ w' = w := by
 refine (equal_walk w v u _ _ h1.str h2.str).mono ?_
 rintro e w' ⟨rfl, rfl⟩
 refine ⟨?_, rfl⟩
 rw [← beq_toListBytes, bytes_beq]
 congr 2
 exact decide_eq_decide.2 ⟨strOf_inj, fun e => by rw [e]⟩
theorem Rd.init {w : World} {a : Option Addr} {n c : Nat} {l : Bs} (h : Rd w (.slice a n c) l) (m : Nat) (hm : m ≤ l.length) : Rd w (.slice a m c) (l.take m) := by
 obtain ⟨⟨a', cap, hv, h1, h2, h3⟩, h4⟩ := h
 simp only [Value.slice.injEq] at hv
 obtain ⟨rfl, rfl, rfl⟩ := hv
 have hlen : (l.take m).length = m := by rw [List.length_take]; omega
 refine ⟨⟨a, c, by rw [hlen], by rw [hlen]; omega, h2, fun j hj => ?_⟩, fun n c e => by cases e; exact h4 _ _ rfl⟩
 obtain ⟨b, off, e, hc⟩ := h3 j (by rw [hlen] at hj; omega)
 refine ⟨b, off, e, ?_⟩
 have e2 : (l.take m)[j] = l[j]'(by rw [hlen] at hj; omega) := by simp
 rw [e2]; exact hc
theorem Rd.tail {w : World} {b off n c : Nat} {l : Bs} (h : Rd w (.slice (some ⟨b, off, none⟩) n c) l) (i : Nat) (hi : i ≤ l.length) : Rd w (.slice (some ⟨b, off + i, none⟩) (n - i) (c - i)) (l.drop i) := by
 have hn := h.cell
 have := h.part i (n - i) (by omega) (c - i) (by omega) (by omega)
 rwa [List.take_of_length_le (by rw [List.length_drop]; omega)] at this
set_option maxRecDepth 100000 in
set_option maxHeartbeats 1000000 in
theorem hasPrefix_ok (w : World) {v u : Value} {l r : Bs} (h1 : Rd w v l) (h2 : Rd w u r) : Calls Tryz.prog 164 #[v, u] w fun e w' => e = .returned (.bool (decide (r <+: l))) ∧ w' = w := by
 obtain ⟨a, c, rfl, g1, g2, g3⟩ := h1.slice
 obtain ⟨a2, c2, rfl, k1, k2, k3⟩ := h2.slice
 by_cases hl : r.length ≤ l.length
 ·have hr : (decide (l.take r.length = r)) = decide (r <+: l) := decide_eq_decide.2 (by rw [List.prefix_iff_eq_take]; exact eq_comm)
  rw [← hr]
  rcases a with _ | ad
  ·obtain ⟨h4, rfl⟩ := g3 rfl
   obtain rfl := List.eq_nil_of_length_eq_zero h4
   obtain rfl := List.eq_nil_of_length_eq_zero (show r.length = 0 by simpa using hl)
   have HE := Lib.hid (equal_ok w (Rd.nil w) h2)
   simp only [List.length_nil, List.take_nil, decide_true] at HE ⊢
   clear h1 h2 hr
   go_enter Tryz.func164, Tryz.ntmps164
   go_wp2_with fail
   refine HE.out.mono ?_
   rintro e w' ⟨rfl, rfl⟩
   go_wp2_with fail
   go_ret
   exact ⟨rfl, rfl⟩
  ·have HE := Lib.hid (equal_ok w (h1.init r.length hl) h2)
   have hlt : (r.length : Int) ≤ (l.length : Int) := by omega
   clear h1 h2 hr
   generalize decide (l.take r.length = r) = R at *
   go_enter Tryz.func164, Tryz.ntmps164
   go_wp2_with fail
   refine HE.out.mono ?_
   rintro e w' ⟨rfl, rfl⟩
   go_wp2_with fail
   go_ret
   exact ⟨rfl, rfl⟩
 ·have hr : decide (r <+: l) = false := decide_eq_false fun q => hl q.length_le
  rw [hr]
  have hlt : ¬ (r.length : Int) ≤ (l.length : Int) := by omega
  clear h1 h2
  go_enter Tryz.func164, Tryz.ntmps164
  go_wp2_with fail
  go_ret
  exact ⟨rfl, rfl⟩
set_option maxRecDepth 100000 in
set_option maxHeartbeats 1000000 in
theorem cutPrefix_yes (w : World) {v u : Value} {l r : Bs} (h1 : Rd w v l) (h2 : Rd w u r) (hp : r <+: l) (hlen : r.length < l.length) : Calls Tryz.prog 129 #[v, u] w fun e w' => ∃ v', e = .returned (.tuple #[v', .bool true]) ∧ Rd w v' (l.drop r.length) ∧ w' = w ∧ v'.ownBlock = v.ownBlock := by
 have hpre := hasPrefix_ok w h1 h2
 rw [decide_eq_true hp] at hpre
 have HP := Lib.hid hpre
 obtain ⟨a, c, rfl, g1, g2, g3⟩ := h1.slice
 obtain ⟨a2, c2, rfl, k1, k2, k3⟩ := h2.slice
 obtain ⟨-, -, -, hcell⟩ := h1.cell
 obtain ⟨b, off, rfl, -⟩ := hcell (by omega)
 have HT := Lib.hid (h1.tail r.length (by omega))
 have hne : ¬ c = r.length := by omega
 clear hpre h1 h2 hcell
 go_enter Tryz.func129, Tryz.ntmps129
 go_wp2_with fail
 refine HP.out.mono ?_
 rintro e w' ⟨rfl, rfl⟩
 go_wp2_with fail
 go_ret2
 exact ⟨_, rfl, HT.out, rfl, rfl⟩
set_option maxRecDepth 100000 in
set_option maxHeartbeats 1000000 in
theorem cutPrefix_no (w : World) {v u : Value} {l r : Bs} (h1 : Rd w v l) (h2 : Rd w u r) (hp : ¬ r <+: l) : Calls Tryz.prog 129 #[v, u] w fun e w' => e = .returned (.tuple #[v, .bool false]) ∧ w' = w := by
 have hpre := hasPrefix_ok w h1 h2
 rw [decide_eq_false hp] at hpre
 have HP := Lib.hid hpre
 clear hpre h1 h2
 go_enter Tryz.func129, Tryz.ntmps129
 go_wp2_with fail
 refine HP.out.mono ?_
 rintro e w' ⟨rfl, rfl⟩
 go_wp2_with fail
 go_ret2
 exact ⟨rfl, rfl⟩
end Go.Proofs.YtgpefiacbipfpaaGreatDoor

namespace Go.Proofs.YtgpefiacbipfpaaGreatDoor
open Go.RowKit
theorem nil_new (base : Nat) : ∀ g, (Value.slice none 0 0).ownBlock = some g → base ≤ g := fun g h => by cases h
def FrameV (base : Nat) (w' : World) (e : Ending) (R : UInt8 × Bs × Nat × Nat) : Prop := ∃ v', e = .returned (.tuple #[.agg #[.int .u8 R.1.toNat, v'], .int .i64 R.2.2.1, .int .i64 R.2.2.2]) ∧ Rd w' v' R.2.1 ∧ ∀ g, v'.ownBlock = some g → base ≤ g
theorem ret_frame {fn : Func} {R : Ending → World → Prop} {a : Act} {W : World} {B : Nat} {k : Int} {v : Value} (hr : fn.results = #[.cell 2 25, .tmp 3, .tmp 4])
  (hs : a.tmps.getD 2 undef = .pointer (some ⟨B, 0, none⟩)) (z0 : W.cell? ⟨B, 0, none⟩ = some (.int .u8 k)) (z1 : W.cell? ⟨B, 1, none⟩ = some v) (hd : a.defers = []) (h : R (.returned (.tuple #[.agg #[.int .u8 k, v], a.tmps.getD 3 undef, a.tmps.getD 4 undef])) W) : bodyPost Tryz.prog fn R .ret a W := by
 refine bodyPost_ret (v := .tuple #[.agg #[.int .u8 k, v], a.tmps.getD 3 undef, a.tmps.getD 4 undef]) ?_ hd h
 have hs' := hs
 simp only [Array.getD_eq_getD_getElem?] at hs'
 simp [results, hr, hs', go_sem, z0, z1]
set_option maxRecDepth 100000 in
set_option maxHeartbeats 2000000 in
theorem frame_short (w : World) {v : Value} {l : Bs} (h : Rd w v l) (hl : l.length < 5) : Calls Tryz.prog 115 #[v] w fun e w' => FrameV w.heap.size w' e (0, [], 0, 10) ∧ Upd [] w w' := by
 obtain ⟨a, c, rfl, h1, h2, h3⟩ := h.slice
 have hlt : (l.length : Int) < 5 := by omega
 clear h
 go_enter Tryz.func115, Tryz.ntmps115
 go_wp2_with fail
 exact ret_frame Tryz.results115 rfl (cell_blk (heap_top _ _) 0) (cell_blk (heap_top _ _) 1) rfl ⟨⟨_, rfl, Rd.nil _, nil_new _⟩, (Upd.refl [] w).alloc _⟩
theorem uint_at5 (w : World) {b off n c : Nat} {l : Bs} (h : Rd w (.slice (some ⟨b, off, none⟩) n c) l) (hl : 5 ≤ l.length) (V : World) (u : Upd [] w V) :
  Calls Tryz.prog 130 #[.slice (some ⟨b, off + 5, none⟩) (n - 5) (c - 5)] V fun e w' => e = .returned (.tuple #[.int .u64 (getUint (l.drop 5)).1, .int .i64 (getUint (l.drop 5)).2.1, .int .i64 (getUint (l.drop 5)).2.2]) ∧ w' = V :=
 uint_ok V ((h.tail 5 hl).keep u)
set_option maxRecDepth 100000 in
set_option maxHeartbeats 2000000 in
theorem frame_walk1 (w : World) {b off n c u k e : Nat} (hn : 5 < n) (hc : n ≤ c) (hc2 : c ≤ 9223372036854775807) (hu : u < 18446744073709551616) (hk : k ≤ 10) (he : e ≤ 20)
  (HU : ∀ V, Upd [] w V → Calls Tryz.prog 130 #[.slice (some ⟨b, off + 5, none⟩) (n - 5) (c - 5)] V fun r w' => r = .returned (.tuple #[.int .u64 u, .int .i64 k, .int .i64 e]) ∧ w' = V) (E : Nat)
  (hE : (e ≠ 0 ∧ E = e) ∨ (e = 0 ∧ 2000 < u ∧ E = 12) ∨ (e = 0 ∧ u ≤ 2000 ∧ n < 5 + k + u ∧ E = 10)) :
  Calls Tryz.prog 115 #[.slice (some ⟨b, off, none⟩) n c] w fun r w' => FrameV w.heap.size w' r (0, [], 0, E) ∧ Upd [] w w' := by
 have HU := Lib.hid HU
 have hlt : ¬ (n : Int) < 5 := by omega
 have hne : ¬ c = 5 := by omega
 rcases hE with ⟨h1, rfl⟩ | ⟨rfl, h2, rfl⟩ | ⟨rfl, h2, h3, rfl⟩
 ·have h1' : ¬ (E : Int) = 0 := by omega
  go_enter Tryz.func115, Tryz.ntmps115
  go_wp2_with fail
  refine (HU.out _ ((Upd.refl [] w).alloc _)).mono ?_
  rintro r w1 ⟨rfl, rfl⟩
  go_wp2_with fail
  exact ret_frame Tryz.results115 rfl (cell_blk (heap_top _ _) 0) (cell_blk (heap_top _ _) 1) rfl ⟨⟨_, rfl, Rd.nil _, nil_new _⟩, (Upd.refl [] w).alloc _⟩
 ·have h1' : (2000 : Int) < (u : Int) := by omega
  go_enter Tryz.func115, Tryz.ntmps115
  go_wp2_with fail
  refine (HU.out _ ((Upd.refl [] w).alloc _)).mono ?_
  rintro r w1 ⟨rfl, rfl⟩
  go_wp2_with fail
  exact ret_frame Tryz.results115 rfl (cell_blk (heap_top _ _) 0) (cell_blk (heap_top _ _) 1) rfl ⟨⟨_, rfl, Rd.nil _, nil_new _⟩, (Upd.refl [] w).alloc _⟩
 ·have h1' : ¬ (2000 : Int) < (u : Int) := by omega
  have h2' : (n : Int) - 5 - (k : Int) < (u : Int) := by omega
  go_enter Tryz.func115, Tryz.ntmps115
  go_wp2_with fail
  refine (HU.out _ ((Upd.refl [] w).alloc _)).mono ?_
  rintro r w1 ⟨rfl, rfl⟩
  go_wp2_with fail
  exact ret_frame Tryz.results115 rfl (cell_blk (heap_top _ _) 0) (cell_blk (heap_top _ _) 1) rfl ⟨⟨_, rfl, Rd.nil _, nil_new _⟩, (Upd.refl [] w).alloc _⟩
end Go.Proofs.YtgpefiacbipfpaaGreatDoor

namespace Go.Proofs.YtgpefiacbipfpaaGreatDoor
open Go.RowKit
theorem box_set2 {W : World} {B : Nat} {a0 b0 : Value} {T : TypeId} (h : W.heap[B]? = some (.cells #[a0, b0] T (0, 0))) (a b : Value) :
  ((W.setCell ⟨B, 0, none⟩ a).setCell ⟨B, 1, none⟩ b).heap[B]? = some (.cells #[a, b] T (0, 0)) := by
 rw [heap_setCell, if_pos rfl, heap_setCell, if_pos rfl, h]
 rfl
set_option maxRecDepth 100000 in
set_option maxHeartbeats 2000000 in
theorem frame_walk2 (w : World) {b off n c u k s1 s2 : Nat} (hc : n ≤ c) (hc2 : c ≤ 9223372036854775807) (hu : u ≤ 2000) (hk : k ≤ 10) (hk0 : 1 ≤ k) (hf : 5 + k + u ≤ n) (_hs1 : s1 < 4294967296) (_hs2 : s2 < 4294967296) (hne : s1 ≠ s2)
  (HU : ∀ V, Upd [] w V → Calls Tryz.prog 130 #[.slice (some ⟨b, off + 5, none⟩) (n - 5) (c - 5)] V fun r w' => r = .returned (.tuple #[.int .u64 u, .int .i64 k, .int .i64 0]) ∧ w' = V)
  (H3 : ∀ V, Upd [] w V → Calls Tryz.prog 153 #[.slice (some ⟨b, off, none⟩) n c] V fun r w' => r = .returned (.tuple #[.int .u32 s1, .int .i64 0]) ∧ Upd [] V w')
  (HS : ∀ V, Upd [] w V → Calls Tryz.prog 120 #[.slice (some ⟨b, off + 4, none⟩) (5 + k + u - 4) (c - 4)] V fun r w' => r = .returned (.int .u32 s2) ∧ Upd [] V w') :
  Calls Tryz.prog 115 #[.slice (some ⟨b, off, none⟩) n c] w fun r w' => FrameV w.heap.size w' r (0, [], 0, 11) ∧ Upd [] w w' := by
 have HU := Lib.hid HU
 have H3 := Lib.hid H3
 have HS := Lib.hid HS
 have hlt : ¬ (n : Int) < 5 := by omega
 have hne5 : ¬ c = 5 := by omega
 have hne4 : ¬ c = 4 := by omega
 have h1' : ¬ (2000 : Int) < (u : Int) := by omega
 have h2' : ¬ (n : Int) - 5 - (k : Int) < (u : Int) := by omega
 have h3' : ¬ (s1 : Int) = (s2 : Int) := by omega
 go_enter Tryz.func115, Tryz.ntmps115
 go_wp2_with fail
 refine (HU.out _ ((Upd.refl [] w).alloc _)).mono ?_
 rintro r w1 ⟨rfl, rfl⟩
 go_wp2_with fail
 refine (H3.out _ ((Upd.refl [] w).alloc _)).mono ?_
 rintro r w1 ⟨rfl, hU1⟩
 have HU1 : Hid (Upd [] w w1) := Lib.hid (((Upd.refl [] w).alloc _).trans hU1)
 have HB1 := Lib.hid ((hU1.block w.heap.size (by simp) (by simp)).trans (heap_top _ _))
 clear hU1
 go_wp2_with fail
 refine (HS.out _ HU1.out).mono ?_
 rintro r w2 ⟨rfl, hU2⟩
 have hB2 := (hU2.block w.heap.size (lt_of_blk HB1.out) (by simp)).trans HB1.out
 have z0 := cell_blk hB2 0
 have z1 := cell_blk hB2 1
 have f0 := frozen_blk hB2 0
 have f1 := frozen_blk hB2 1
 have HU2 : Hid (Upd [] w w2) := Lib.hid (HU1.out.trans hU2)
 have HB2 := Lib.hid hB2
 clear hU2 hB2
 go_wp2_with fail
 have hb3 := box_set2 HB2.out (.int .u8 0) (.slice none 0 0)
 exact ret_frame Tryz.results115 rfl (cell_blk hb3 0) (cell_blk hb3 1) rfl ⟨⟨_, rfl, Rd.nil _, nil_new _⟩, (HU2.out.setCellNew (Nat.le_refl _) _ _).setCellNew (Nat.le_refl _) _ _⟩
set_option maxRecDepth 100000 in
set_option maxHeartbeats 4000000 in
theorem frame_walk3 (w : World) {b off n c u k s1 : Nat} {x : UInt8} {d : Bs} (hc : n ≤ c) (hc2 : c ≤ 9223372036854775807) (hu : u ≤ 2000) (hk : k ≤ 10) (hk0 : 1 ≤ k) (hf : 5 + k + u ≤ n) (_hs1 : s1 < 4294967296)
  (hx : w.cell? ⟨b, off + 4, none⟩ = some (.int .u8 x.toNat))
  (HU : ∀ V, Upd [] w V → Calls Tryz.prog 130 #[.slice (some ⟨b, off + 5, none⟩) (n - 5) (c - 5)] V fun r w' => r = .returned (.tuple #[.int .u64 u, .int .i64 k, .int .i64 0]) ∧ w' = V)
  (H3 : ∀ V, Upd [] w V → Calls Tryz.prog 153 #[.slice (some ⟨b, off, none⟩) n c] V fun r w' => r = .returned (.tuple #[.int .u32 s1, .int .i64 0]) ∧ Upd [] V w')
  (HS : ∀ V, Upd [] w V → Calls Tryz.prog 120 #[.slice (some ⟨b, off + 4, none⟩) (5 + k + u - 4) (c - 4)] V fun r w' => r = .returned (.int .u32 s1) ∧ Upd [] V w')
  (A : Addr) (hsl : ∀ W, (Instr.slice 23 (.slice (some ⟨b, off, none⟩) n c) (some (.int .i64 (5 + (k : Int)))) (some (.int .i64 (5 + (k : Int) + (u : Int)))) none).run Tryz.prog W = .ok (.slice (some A) u (c - (5 + k))) W)
  (HD : ∀ V, Upd [] w V → Calls Tryz.prog 92 #[.slice (some A) u u] V fun e w' => ∃ v', e = .returned v' ∧ Ow w' V.heap.size v' d ∧ Upd [] V w') :
  Calls Tryz.prog 115 #[.slice (some ⟨b, off, none⟩) n c] w fun r w' => FrameV w.heap.size w' r (x, d, 5 + k + u, 0) ∧ Upd [] w w' := by
 have HU := Lib.hid HU
 have H3 := Lib.hid H3
 have HS := Lib.hid HS
 have hlt : ¬ (n : Int) < 5 := by omega
 have hne5 : ¬ c = 5 := by omega
 have hne4 : ¬ c = 4 := by omega
 have h1' : ¬ (2000 : Int) < (u : Int) := by omega
 have h2' : ¬ (n : Int) - 5 - (k : Int) < (u : Int) := by omega
 have hn4 : (4 : Int) < (n : Int) := by omega
 have HD := Lib.hid HD
 have hwr : IntKind.i64.wrap (5 + (k : Int)) = 5 + (k : Int) := IntWalk.i64_in _ (by omega)
 go_enter Tryz.func115, Tryz.ntmps115
 go_wp2_with fail
 refine (HU.out _ ((Upd.refl [] w).alloc _)).mono ?_
 rintro r w1 ⟨rfl, rfl⟩
 go_wp2_with fail
 refine (H3.out _ ((Upd.refl [] w).alloc _)).mono ?_
 rintro r w1 ⟨rfl, hU1⟩
 have HU1 : Hid (Upd [] w w1) := Lib.hid (((Upd.refl [] w).alloc _).trans hU1)
 have HB1 := Lib.hid ((hU1.block w.heap.size (by simp) (by simp)).trans (heap_top _ _))
 clear hU1
 go_wp2_with fail
 refine (HS.out _ HU1.out).mono ?_
 rintro r w2 ⟨rfl, hU2⟩
 have hB2 := (hU2.block w.heap.size (lt_of_blk HB1.out) (by simp)).trans HB1.out
 have HU2 : Hid (Upd [] w w2) := Lib.hid (HU1.out.trans hU2)
 have HB2 := Lib.hid hB2
 have p0 := cell_keep HU2.out hx
 clear hU2 hB2
 go_wp2_with fail
 go_region_held3 (fun w' => w'.cell? ⟨b, off + 4, none⟩ = some (.int .u8 x.toNat))
  (first
   | (with_reducible exact held1 HU2.out.drew hx)
   | (with_reducible exact held1 hv6 hx)
   | (with_reducible exact held1 ((hv6.setCellNew (Nat.le_refl _) _ _).setCellNew (Nat.le_refl _) _ _) hx))
  (first
   | (go_at_call 143; refine (room_ok _ (some A) u (c - (5 + k)) (by omega) (by omega) (fun q => by cases q)).mono ?_; rintro e w5 ⟨rfl, rfl⟩)
   | (go_at_call 92; (with_reducible refine (HD.out _ ?_).mono ?_); (exact HU2.out.drew); rintro e w6 ⟨v6, rfl, ho6, hu6⟩; obtain ⟨a6, c6, rfl⟩ := ho6.slice; have hv6 : Upd [] w w6 := HU2.out.drew.trans hu6; have hB6 := (hu6.block w.heap.size (by exact lt_of_blk HB2.out) (by simp)).trans HB2.out; have z0 := cell_blk hB6 0; have z1 := cell_blk hB6 1; have f0 := frozen_blk hB6 0; have f1 := frozen_blk hB6 1))
 go_wp2_with fail
 have hb3 := box_set2 hB6 (.int .u8 x.toNat) (.slice a6 d.length c6)
 refine ret_frame (v := .slice a6 d.length c6) Tryz.results115 rfl (cell_blk hb3 0) (cell_blk hb3 1) rfl ⟨⟨_, rfl, ?_, fun g hg => Nat.le_trans HU2.out.size (by have := (ho6.block g hg).1; exact this)⟩, (hv6.setCellNew (Nat.le_refl _) _ _).setCellNew (Nat.le_refl _) _ _⟩
 have hle : w.heap.size < w2.heap.size := lt_of_blk HB2.out
 refine Ow.rd (base := w2.heap.size) (ho6.upd (((Upd.refl [w.heap.size] w6).setCell (by simp) _ _).setCell (by simp) _ _) fun j hj q => ?_)
 have := (ho6.block j q).1
 simp at hj this
 omega
end Go.Proofs.YtgpefiacbipfpaaGreatDoor
