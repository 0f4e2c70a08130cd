/- bytes.Clone, slices.Clone: another row of the same. (Printed by gclone.py.) A cache whose things are blocks as they are seen: got and put. bytes.Equal, HasPrefix, CutPrefix. -/
import Derived.Lib.SliceRun
import Derived.Laws.BytesArg
import Derived.Test.YteepgehjkcahiaaGreatC05
import Derived.Test.YteepgehjkcahiaaGreatC03
namespace Go.Proofs.YteepgehjkcahiaaGreat
open Go.RowKit
structure RdG {α : Type} (f : α → List Value) (k : Nat) (w : World) (v : Value) (l : List α) : Prop where
 sl : SlAt k (CellsAt f) w v l
 nl : ∀ n c, v = .slice none n c → c = 0
theorem RdG.slice {α : Type} {f : α → List Value} {k : Nat} {w : World} {v : Value} {l : List α} (h : RdG f k w v l) : ∃ a c, v = .slice a l.length c ∧ l.length ≤ c ∧ c ≤ 9223372036854775807 ∧ (a = none → l.length = 0 ∧ c = 0) := by
 obtain ⟨⟨a, c, rfl, h1, h2, h3⟩, h4⟩ := h
 refine ⟨a, c, rfl, h1, by unfold maxLen at h2; omega, fun e => ?_⟩
 subst e
 have := h4 _ _ rfl
 omega
theorem RdG.upd {α : Type} {f : α → List Value} {k bytes : Nat} {st e : TypeId} (T : RowT f k bytes st e) {w w' : World} {v : Value} {l : List α} (h : RdG f k w v l) {F : List Nat} (u : Upd F w w') (hF : ∀ g, v.ownBlock = some g → g ∉ F) : RdG f k w' v l := ⟨SlAt.upd h.sl T u hF, h.nl⟩
theorem RdG.keep {α : Type} {f : α → List Value} {k bytes : Nat} {st e : TypeId} (T : RowT f k bytes st e) {w w' : World} {v : Value} {l : List α} (h : RdG f k w v l) (u : Upd [] w w') : RdG f k w' v l := h.upd T u (by simp)
theorem OwnG.rd {α : Type} {f : α → List Value} {k bytes : Nat} {st e : TypeId} (T : RowT f k bytes st e) {w : World} {base : Nat} {v : Value} {l : List α} (h : OwnG f e k w base v l) : RdG f k w v l := ⟨OwnG.sl T h, fun n c e => by
 rcases h.2 with ⟨h, -⟩ | ⟨g, cap, cur, h, -⟩
 ·rw [h] at e; cases e; rfl
 ·rw [h] at e; cases e⟩
theorem Rd.g {w : World} {v : Value} {l : Bs} (h : Rd w v l) : RdG c8 1 w v l := ⟨h.sl, h.nl⟩
theorem RdG.b {w : World} {v : Value} {l : Bs} (h : RdG c8 1 w v l) : Rd w v l := ⟨h.sl, h.nl⟩
abbrev cB (b : Bool) : List Value := [.bool b]
theorem TB : RowT cB 1 1 130 4 where
 len := fun _ => rfl
 pos := by omega
 und := Tryz.underlying130
 info := by
  obtain ⟨i, h, h1, h2, h3⟩ := info_parts (show (Tryz.prog.info? 4).map (fun i => (i.zero, i.size, i.bytes)) = some (some (.bool false), 1, 1) by kernel_rfl)
  exact ⟨i, _, h, h1, h2, h3, rfl⟩
theorem oneB (l : List Bool) : ∀ x ∈ l, ∀ u ∈ cB x, u.oneCell' = true := by
 intro x _ u hu
 simp only [cB, List.mem_cons, List.not_mem_nil, or_false] at hu
 subst hu; rfl
abbrev cR (r : Run) : List Value := [.int .i64 r.1, .int .i64 r.2]
theorem TR : RowT cR 2 16 84 129 where
 len := fun _ => rfl
 pos := by omega
 und := Tryz.underlying84
 info := by
  obtain ⟨i, h, h1, h2, h3⟩ := info_parts (show (Tryz.prog.info? 129).map (fun i => (i.zero, i.size, i.bytes)) = some (some (.agg #[.int .i64 0, .int .i64 0]), 2, 16) by kernel_rfl)
  exact ⟨i, _, h, h1, h2, h3, rfl⟩
theorem oneR (l : List Run) : ∀ x ∈ l, ∀ u ∈ cR x, u.oneCell' = true := by
 intro x _ u hu
 simp only [cR, List.mem_cons, List.not_mem_nil, or_false] at hu
 rcases hu with rfl | rfl <;> rfl
structure WrC where
 at_ : Nat
 a : Option Addr
 n : Nat
 c : Nat
abbrev cW (x : WrC) : List Value := [.int .i64 x.at_, .slice x.a x.n x.c]
theorem TW : RowT cW 2 32 95 145 where
 len := fun _ => rfl
 pos := by omega
 und := Tryz.underlying95
 info := by
  obtain ⟨i, h, h1, h2, h3⟩ := info_parts (show (Tryz.prog.info? 145).map (fun i => (i.zero, i.size, i.bytes)) = some (some (.agg #[.int .i64 0, .slice none 0 0]), 2, 32) by kernel_rfl)
  exact ⟨i, _, h, h1, h2, h3, rfl⟩
theorem oneW (l : List WrC) : ∀ x ∈ l, ∀ u ∈ cW x, u.oneCell' = true := by
 intro x _ u hu
 simp only [cW, List.mem_cons, List.not_mem_nil, or_false] at hu
 rcases hu with rfl | rfl <;> rfl
set_option maxRecDepth 100000 in
set_option maxHeartbeats 1000000 in
theorem clone8_ok (w : World) {v : Value} {l : List UInt8} (h : RdG c8 1 w v l) (hl : l.length ≤ 100000000) : Calls Tryz.prog 85 #[v] w fun e w' => ∃ v', e = .returned v' ∧ OwnG c8 5 1 w' w.heap.size v' l ∧ Upd [] w w' := by
 obtain ⟨a, c, rfl, h1, h2, h3⟩ := h.slice
 have HL := Lib.hid h
 clear h
 rcases a with _ | ad
 ·obtain ⟨h4, rfl⟩ := h3 rfl
  obtain rfl := List.eq_nil_of_length_eq_zero h4
  have hop : ∀ W, (binOp .eql 32 (.slice none 0 0) (.slice none 0 0)).run Tryz.prog W = .ok (.bool true) W := fun W => Lib.run_eql_slice_nil W _ _ _ _ _ _ _ T8.und
  go_enter Tryz.func85, Tryz.ntmps85
  go_wp2_with fail
  go_ret
  exact ⟨_, rfl, OwnG.nil _ _, Upd.refl _ _⟩
 ·have hop : ∀ W, (binOp .eql 32 (.slice (some ad) l.length c) (.slice none 0 0)).run Tryz.prog W = .ok (.bool false) W := fun W => Lib.run_eql_slice_nil W _ _ _ _ _ _ _ T8.und
  go_enter Tryz.func85, Tryz.ntmps85
  go_wp2_with (at_builtin; refine wpList_append_G T8 rfl _ _ rfl (l := []) (base := w.heap.size) rfl (OwnG.empty T8 (heap_top _ _) (Nat.le_refl _)) rfl (SlAt.srcG T8 (fun _ _ _ h => h) (HL.out.keep T8 ((Upd.refl [] w).alloc _)).sl) (one8 _) ?c1 ?c2 ?c3 ?_)
  case c1 => (first | omega | (simp; done) | (simp; omega))
  case c2 => (first | omega | (simp; done) | (simp; omega))
  case c3 => (first | omega | (simp; done) | (simp; omega))
  intro v2 w2 hown2 hg2 _
  have HU2 : Hid (Upd [] w w2) := Lib.hid (((Upd.refl [] w).alloc _).grown hg2 (fun g hg => by simp [Value.ownBlock] at hg; omega))
  clear hg2
  go_wp2_with fail
  go_ret
  exact ⟨_, rfl, by simpa using hown2, HU2.out⟩
set_option maxRecDepth 100000 in
set_option maxHeartbeats 1000000 in
theorem cloneB_ok (w : World) {v : Value} {l : List Bool} (h : RdG cB 1 w v l) (hl : l.length ≤ 100000000) : Calls Tryz.prog 103 #[v] w fun e w' => ∃ v', e = .returned v' ∧ OwnG cB 4 1 w' w.heap.size v' l ∧ Upd [] w w' := by
 obtain ⟨a, c, rfl, h1, h2, h3⟩ := h.slice
 have HL := Lib.hid h
 clear h
 rcases a with _ | ad
 ·obtain ⟨h4, rfl⟩ := h3 rfl
  obtain rfl := List.eq_nil_of_length_eq_zero h4
  have hop : ∀ W, (binOp .eql 130 (.slice none 0 0) (.slice none 0 0)).run Tryz.prog W = .ok (.bool true) W := fun W => Lib.run_eql_slice_nil W _ _ _ _ _ _ _ TB.und
  go_enter Tryz.func103, Tryz.ntmps103
  go_wp2_with fail
  go_ret
  exact ⟨_, rfl, OwnG.nil _ _, Upd.refl _ _⟩
 ·have hop : ∀ W, (binOp .eql 130 (.slice (some ad) l.length c) (.slice none 0 0)).run Tryz.prog W = .ok (.bool false) W := fun W => Lib.run_eql_slice_nil W _ _ _ _ _ _ _ TB.und
  go_enter Tryz.func103, Tryz.ntmps103
  go_wp2_with (at_builtin; refine wpList_append_G TB rfl _ _ rfl (l := []) (base := w.heap.size) rfl (OwnG.empty TB (heap_top _ _) (Nat.le_refl _)) rfl (SlAt.srcG TB (fun _ _ _ h => h) (HL.out.keep TB ((Upd.refl [] w).alloc _)).sl) (oneB _) ?c1 ?c2 ?c3 ?_)
  case c1 => (first | omega | (simp; done) | (simp; omega))
  case c2 => (first | omega | (simp; done) | (simp; omega))
  case c3 => (first | omega | (simp; done) | (simp; omega))
  intro v2 w2 hown2 hg2 _
  have HU2 : Hid (Upd [] w w2) := Lib.hid (((Upd.refl [] w).alloc _).grown hg2 (fun g hg => by simp [Value.ownBlock] at hg; omega))
  clear hg2
  go_wp2_with fail
  go_ret
  exact ⟨_, rfl, by simpa using hown2, HU2.out⟩
set_option maxRecDepth 100000 in
set_option maxHeartbeats 1000000 in
theorem cloneR_ok (w : World) {v : Value} {l : List Run} (h : RdG cR 2 w v l) (hl : l.length ≤ 100000000) : Calls Tryz.prog 105 #[v] w fun e w' => ∃ v', e = .returned v' ∧ OwnG cR 129 2 w' w.heap.size v' l ∧ Upd [] w w' := by
 obtain ⟨a, c, rfl, h1, h2, h3⟩ := h.slice
 have HL := Lib.hid h
 clear h
 rcases a with _ | ad
 ·obtain ⟨h4, rfl⟩ := h3 rfl
  obtain rfl := List.eq_nil_of_length_eq_zero h4
  have hop : ∀ W, (binOp .eql 84 (.slice none 0 0) (.slice none 0 0)).run Tryz.prog W = .ok (.bool true) W := fun W => Lib.run_eql_slice_nil W _ _ _ _ _ _ _ TR.und
  go_enter Tryz.func105, Tryz.ntmps105
  go_wp2_with fail
  go_ret
  exact ⟨_, rfl, OwnG.nil _ _, Upd.refl _ _⟩
 ·have hop : ∀ W, (binOp .eql 84 (.slice (some ad) l.length c) (.slice none 0 0)).run Tryz.prog W = .ok (.bool false) W := fun W => Lib.run_eql_slice_nil W _ _ _ _ _ _ _ TR.und
  go_enter Tryz.func105, Tryz.ntmps105
  go_wp2_with (at_builtin; refine wpList_append_G TR rfl _ _ rfl (l := []) (base := w.heap.size) rfl (OwnG.empty TR (heap_top _ _) (Nat.le_refl _)) rfl (SlAt.srcG TR (fun _ _ _ h => h) (HL.out.keep TR ((Upd.refl [] w).alloc _)).sl) (oneR _) ?c1 ?c2 ?c3 ?_)
  case c1 => (first | omega | (simp; done) | (simp; omega))
  case c2 => (first | omega | (simp; done) | (simp; omega))
  case c3 => (first | omega | (simp; done) | (simp; omega))
  intro v2 w2 hown2 hg2 _
  have HU2 : Hid (Upd [] w w2) := Lib.hid (((Upd.refl [] w).alloc _).grown hg2 (fun g hg => by simp [Value.ownBlock] at hg; omega))
  clear hg2
  go_wp2_with fail
  go_ret
  exact ⟨_, rfl, by simpa using hown2, HU2.out⟩
set_option maxRecDepth 100000 in
set_option maxHeartbeats 1000000 in
theorem cloneW_ok (w : World) {v : Value} {l : List WrC} (h : RdG cW 2 w v l) (hl : l.length ≤ 100000000) : Calls Tryz.prog 92 #[v] w fun e w' => ∃ v', e = .returned v' ∧ OwnG cW 145 2 w' w.heap.size v' l ∧ Upd [] w w' := by
 obtain ⟨a, c, rfl, h1, h2, h3⟩ := h.slice
 have HL := Lib.hid h
 clear h
 rcases a with _ | ad
 ·obtain ⟨h4, rfl⟩ := h3 rfl
  obtain rfl := List.eq_nil_of_length_eq_zero h4
  have hop : ∀ W, (binOp .eql 95 (.slice none 0 0) (.slice none 0 0)).run Tryz.prog W = .ok (.bool true) W := fun W => Lib.run_eql_slice_nil W _ _ _ _ _ _ _ TW.und
  go_enter Tryz.func92, Tryz.ntmps92
  go_wp2_with fail
  go_ret
  exact ⟨_, rfl, OwnG.nil _ _, Upd.refl _ _⟩
 ·have hop : ∀ W, (binOp .eql 95 (.slice (some ad) l.length c) (.slice none 0 0)).run Tryz.prog W = .ok (.bool false) W := fun W => Lib.run_eql_slice_nil W _ _ _ _ _ _ _ TW.und
  go_enter Tryz.func92, Tryz.ntmps92
  go_wp2_with (at_builtin; refine wpList_append_G TW rfl _ _ rfl (l := []) (base := w.heap.size) rfl (OwnG.empty TW (heap_top _ _) (Nat.le_refl _)) rfl (SlAt.srcG TW (fun _ _ _ h => h) (HL.out.keep TW ((Upd.refl [] w).alloc _)).sl) (oneW _) ?c1 ?c2 ?c3 ?_)
  case c1 => (first | omega | (simp; done) | (simp; omega))
  case c2 => (first | omega | (simp; done) | (simp; omega))
  case c3 => (first | omega | (simp; done) | (simp; omega))
  intro v2 w2 hown2 hg2 _
  have HU2 : Hid (Upd [] w w2) := Lib.hid (((Upd.refl [] w).alloc _).grown hg2 (fun g hg => by simp [Value.ownBlock] at hg; omega))
  clear hg2
  go_wp2_with fail
  go_ret
  exact ⟨_, rfl, by simpa using hown2, HU2.out⟩
end Go.Proofs.YteepgehjkcahiaaGreat

namespace Go.Proofs.YteepgehjkcahiaaGreat
open Go.RowKit
open Bc (Nd It Rep foot chain_at)
abbrev SvB := Bc.C.Sl
abbrev svV (s : Bc.C.Sl) : Value := .slice s.a s.n s.c
abbrev cfgB := Bc.C.cfg
theorem own_ne' {α : Type} {f : α → List Value} {e t : TypeId} {k base B : Nat} {W : World} {v : Value} {l : List α} {c : Array Value} {fr : Nat × Nat} (h : OwnG f e k W base v l) (hb : W.heap[B]? = some (.cells c t fr)) (ht : t ≠ e) : v.ownBlock ≠ some B := by
 intro hv
 rcases h.2 with ⟨rfl, -⟩ | ⟨g, cap, cur, rfl, -, hg, -⟩
 ·cases hv
 ·simp only [Value.ownBlock, Option.some.injEq] at hv
  subst hv
  rw [hg] at hb
  simp only [Option.some.injEq, Obj.cells.injEq] at hb
  exact ht hb.2.1.symm
theorem own_map {α : Type} {f : α → List Value} {e : TypeId} {k base B : Nat} {W : World} {v : Value} {l : List α} {es : Array MapEntry} {ck : Nat} (h : OwnG f e k W base v l) (hb : W.heap[B]? = some (.map es ck)) : v.ownBlock ≠ some B := by
 intro hv
 rcases h.2 with ⟨rfl, -⟩ | ⟨g, cap, cur, rfl, -, hg, -⟩
 ·cases hv
 ·simp only [Value.ownBlock, Option.some.injEq] at hv
  subst hv
  rw [hg] at hb
  cases hb
theorem row_foot {w : World} {c m : Nat} {most : Int} {l : List (Nd Int SvB)} (h : Rep cfgB w c m most l) {base : Nat} {v : Value} {b : Bs} (ho : OwnG c8 5 1 w base v b) : ∀ j ∈ foot c m l, v.ownBlock ≠ some j := by
 intro j hj
 simp only [foot, List.mem_cons, List.mem_map] at hj
 rcases hj with rfl | rfl | ⟨n, hn, rfl⟩
 ·exact own_ne' ho h.lay.cache (by decide)
 ·obtain ⟨es, ck, h1, -⟩ := h.map
  exact own_map ho h1
 ·obtain ⟨p, q, h1⟩ := chain_at cfgB h.lay.chain hn
  exact own_ne' ho h1 (by decide)
structure CaR (w : World) (c m : Nat) (l : List (Nd Int SvB)) (V : Nat → Bs) (FC : List Nat) : Prop where
 rep : Rep cfgB w c m 16 l
 few : l.length ≤ 16
 val : ∀ x ∈ l, ∃ kk : Nat, x.it.k = kk ∧ x.it.p = 0 ∧ OwnG c8 5 1 w 0 (svV x.it.v) (V kk)
 foot : ∀ k ∈ foot c m l, k ∈ FC
 vin : ∀ x ∈ l, ∀ g, (svV x.it.v).ownBlock = some g → g ∈ FC
theorem CaR.upd {w w' : World} {c m : Nat} {l : List (Nd Int SvB)} {V : Nat → Bs} {FC : List Nat} (h : CaR w c m l V FC) {F : List Nat} (u : Upd F w w') (hF : ∀ k ∈ FC, k ∉ F) : CaR w' c m l V FC :=
 ⟨h.rep.keep u fun k hk => hF k (h.foot k hk), h.few, fun x hx => by
  obtain ⟨kk, h1, h2, h3⟩ := h.val x hx
  exact ⟨kk, h1, h2, h3.upd u fun j hj e => hF j (h.vin x hx j e) hj⟩, h.foot, h.vin⟩
theorem CaR.congr {w : World} {c m : Nat} {l : List (Nd Int SvB)} {V V' : Nat → Bs} {FC : List Nat} (h : CaR w c m l V FC) (e : ∀ k, V' k = V k) : CaR w c m l V' FC :=
 ⟨h.rep, h.few, fun x hx => by obtain ⟨kk, h1, h2, h3⟩ := h.val x hx; exact ⟨kk, h1, h2, by rw [e]; exact h3⟩, h.foot, h.vin⟩
theorem hit_or {l : List (Nd Int SvB)} (x : Int) : (∀ n ∈ l, n.it.k ≠ x) ∨ ∃ l1 y l2, l = l1 ++ y :: l2 ∧ y.it.k = x := by
 by_cases h : ∃ y ∈ l, y.it.k = x
 ·obtain ⟨y, hy, hk⟩ := h
  obtain ⟨l1, l2, rfl⟩ := List.append_of_mem hy
  exact .inr ⟨l1, y, l2, rfl, hk⟩
 ·exact .inl fun n hn e => h ⟨n, hn, e⟩
def CGetPost (w : World) (c m : Nat) (_l : List (Nd Int SvB)) (V : Nat → Bs) (FC : List Nat) (x : Nat) (e : Ending) (w' : World) : Prop :=
 (∃ (v : SvB) (l' : List (Nd Int SvB)), e = .returned (.tuple #[svV v, .bool true]) ∧ OwnG c8 5 1 w' 0 (svV v) (V x) ∧ CaR w' c m l' V FC ∧ Upd FC w w') ∨ (e = .returned (.tuple #[.slice none 0 0, .bool false]) ∧ w' = w)
theorem cget_ok (w : World) {c m : Nat} {l : List (Nd Int SvB)} {V : Nat → Bs} {FC : List Nat} (h : CaR w c m l V FC) (x : Nat) : Calls Tryz.prog 84 #[.pointer (some ⟨c, 0, none⟩), .int .i64 x] w (CGetPost w c m l V FC x) := by
 rcases hit_or (l := l) (x : Int) with hx | ⟨l1, y, l2, rfl, hk⟩
 ·exact (Bc.C.get_miss w h.rep (x : Int) hx).mono fun e w' ⟨he, hw⟩ => .inr ⟨he, hw.symm⟩
 ·refine (Bc.C.get_hit w h.rep (x : Int) hk).mono ?_
  rintro e w' ⟨he, hR, hU⟩
  have hrow : ∀ n ∈ l1 ++ y :: l2, ∃ kk : Nat, n.it.k = kk ∧ n.it.p = 0 ∧ OwnG c8 5 1 w' 0 (svV n.it.v) (V kk) := fun n hn => by
   obtain ⟨kk, h1, h2, h3⟩ := h.val n hn
   exact ⟨kk, h1, h2, h3.upd hU fun j hj => row_foot h.rep h3 j hj⟩
  have hmem : ∀ n, n ∈ l1 ++ l2 ++ [y] → n ∈ l1 ++ y :: l2 := fun n hn => by simp at hn ⊢; grind
  refine .inl ⟨y.it.v, _, he, ?_, ⟨hR, by have := h.few; simp at this ⊢; omega, fun n hn => hrow n (hmem n hn), fun k hk => h.foot k ?_, fun n hn => h.vin n (hmem n hn)⟩, hU.mono fun k hk _ => h.foot k hk⟩
  ·obtain ⟨kk, h1, -, h3⟩ := hrow y (by simp)
   have : kk = x := by rw [hk] at h1; omega
   rw [← this]; exact h3
  ·simp only [foot, List.mem_cons, List.mem_map] at hk ⊢
   rcases hk with rfl | rfl | ⟨n, hn, rfl⟩
   ·simp
   ·simp
   ·exact .inr (.inr ⟨n, hmem n hn, rfl⟩)
def setV (V : Nat → Bs) (x : Nat) (d : Bs) : Nat → Bs := fun k => if k = x then d else V k
def CPutPost (w : World) (c m : Nat) (V : Nat → Bs) (FC : List Nat) (x : Nat) (v : SvB) (d : Bs) (e : Ending) (w' : World) : Prop :=
 ∃ (k' : Int) (v' : SvB) (b1 b2 : Bool) (l' : List (Nd Int SvB)) (FC' : List Nat), e = .returned (.tuple #[.int .i64 k', svV v', .bool b1, .bool b2, .int .i64 0]) ∧ CaR w' c m l' (setV V x d) FC' ∧ Upd FC w w' ∧ ∀ i ∈ FC', i ∈ FC ∨ (w.heap.size ≤ i ∧ i < w'.heap.size) ∨ (svV v).ownBlock = some i
theorem cput_ok (w : World) {c m : Nat} {l : List (Nd Int SvB)} {V : Nat → Bs} {FC : List Nat} (h : CaR w c m l V FC) (x : Nat) (v : SvB) {d : Bs} (hv : OwnG c8 5 1 w 0 (svV v) d) :
  Calls Tryz.prog 86 #[.pointer (some ⟨c, 0, none⟩), .int .i64 x, svV v, .bool false] w (CPutPost w c m V FC x v d) := by
 have hkeep : ∀ {w' : World}, Upd (foot c m l) w w' → ∀ n ∈ l, ∃ kk : Nat, n.it.k = kk ∧ n.it.p = 0 ∧ OwnG c8 5 1 w' 0 (svV n.it.v) (V kk) := fun hU n hn => by
  obtain ⟨kk, h1, h2, h3⟩ := h.val n hn
  exact ⟨kk, h1, h2, h3.upd hU fun j hj => row_foot h.rep h3 j hj⟩
 have hnew : ∀ {w' : World}, Upd (foot c m l) w w' → OwnG c8 5 1 w' 0 (svV v) d := fun hU => hv.upd hU fun j hj => row_foot h.rep hv j hj
 have hoth : ∀ {w' : World}, Upd (foot c m l) w w' → ∀ n ∈ l, n.it.k ≠ x → ∃ kk : Nat, n.it.k = kk ∧ n.it.p = 0 ∧ OwnG c8 5 1 w' 0 (svV n.it.v) (setV V x d kk) := fun hU n hn hne => by
  obtain ⟨kk, h1, h2, h3⟩ := hkeep hU n hn
  exact ⟨kk, h1, h2, by unfold setV; rw [if_neg (fun e => hne (by rw [h1, e]))]; exact h3⟩
 have hfu : ∀ {w' : World}, Upd (foot c m l) w w' → Upd FC w w' := fun hU => hU.mono fun k hk _ => h.foot k hk
 rcases hit_or (l := l) (x : Int) with hx | ⟨l1, y, l2, rfl, hk⟩
 ·by_cases hl : l.length = 16
  ·obtain ⟨y, l2, rfl⟩ : ∃ y l2, l = y :: l2 := by
    cases l with
    | nil => simp at hl
    | cons y l2 => exact ⟨y, l2, rfl⟩
   obtain ⟨_, _, hp0, _⟩ := h.val y (by simp)
   refine (Bc.C.put_goes (l1 := []) w h.rep (x : Int) hx v false (by rw [List.nil_append, hl]; rfl) (by simp) hp0).mono ?_
   rintro e w' ⟨a, he, hR, hU, ha⟩
   rw [List.nil_append] at hR
   refine ⟨_, _, _, _, _, a :: ((svV v).ownBlock.toList ++ FC), he, ⟨hR, by simp at hl ⊢; omega, fun n hn => ?_, fun k hk => ?_, fun n hn g hg => ?_⟩, hfu hU, fun i hi => ?_⟩
   ·rcases List.mem_append.1 hn with hn | hn
    ·exact hoth hU n (by simp [hn]) (hx n (by simp [hn]))
    ·simp only [List.mem_singleton] at hn; subst hn
     exact ⟨x, rfl, rfl, by unfold setV; rw [if_pos rfl]; exact hnew hU⟩
   ·simp only [foot, List.mem_cons, List.mem_map, List.mem_append, List.not_mem_nil, or_false] at hk ⊢
    rcases hk with rfl | rfl | ⟨n, hn | rfl, rfl⟩
    ·exact .inr (.inr (h.foot _ (by simp)))
    ·exact .inr (.inr (h.foot _ (by simp)))
    ·exact .inr (.inr (h.foot _ (by simp; exact .inr (.inr (.inr ⟨n, hn, rfl⟩)))))
    ·exact .inl rfl
   ·rcases List.mem_append.1 hn with hn | hn
    ·have := h.vin n (by simp [hn]) g hg
     simp [this]
    ·simp only [List.mem_singleton] at hn; subst hn
     simp [Option.mem_toList] at hg ⊢
     exact .inr (.inl hg)
   ·simp only [List.mem_cons, List.mem_append, Option.mem_toList] at hi
    rcases hi with rfl | hi | hi
    ·exact .inr (.inl ⟨ha, hR.lt (by simp)⟩)
    ·exact .inr (.inr hi)
    ·exact .inl hi
  ·refine (Bc.C.put_new w h.rep (x : Int) hx v false (by omega)).mono ?_
   rintro e w' ⟨a, he, hR, hU, ha⟩
   refine ⟨_, _, _, _, _, a :: ((svV v).ownBlock.toList ++ FC), he, ⟨hR, by have := h.few; simp; omega, fun n hn => ?_, fun k hk => ?_, fun n hn g hg => ?_⟩, hfu hU, fun i hi => ?_⟩
   ·rcases List.mem_append.1 hn with hn | hn
    ·exact hoth hU n hn (hx n hn)
    ·simp only [List.mem_singleton] at hn; subst hn
     exact ⟨x, rfl, rfl, by unfold setV; rw [if_pos rfl]; exact hnew hU⟩
   ·simp only [foot, List.mem_cons, List.mem_map, List.mem_append, List.not_mem_nil, or_false] at hk ⊢
    rcases hk with rfl | rfl | ⟨n, hn | rfl, rfl⟩
    ·exact .inr (.inr (h.foot _ (by simp)))
    ·exact .inr (.inr (h.foot _ (by simp)))
    ·exact .inr (.inr (h.foot _ (by simp; exact .inr (.inr ⟨n, hn, rfl⟩))))
    ·exact .inl rfl
   ·rcases List.mem_append.1 hn with hn | hn
    ·have := h.vin n hn g hg
     simp [this]
    ·simp only [List.mem_singleton] at hn; subst hn
     simp [Option.mem_toList] at hg ⊢
     exact .inr (.inl hg)
   ·simp only [List.mem_cons, List.mem_append, Option.mem_toList] at hi
    rcases hi with rfl | hi | hi
    ·exact .inr (.inl ⟨ha, hR.lt (by simp)⟩)
    ·exact .inr (.inr hi)
    ·exact .inl hi
 ·refine (Bc.C.put_there w h.rep (x : Int) hk v false).mono ?_
  rintro e w' ⟨he, hR, hU⟩
  obtain ⟨_, _, hp0, _⟩ := h.val y (by simp)
  have hkeys := h.rep.keys
  have hne : ∀ n ∈ l1 ++ l2, n.it.k ≠ x := fun n hn e => by
   rw [List.map_append, List.map_cons] at hkeys
   have h2 := List.nodup_append.1 hkeys
   rcases List.mem_append.1 hn with hn | hn
   ·exact h2.2.2 n.it.k (List.mem_map.2 ⟨n, hn, rfl⟩) y.it.k (by simp) (by rw [e, hk])
   ·exact (List.nodup_cons.1 h2.2.1).1 (List.mem_map.2 ⟨n, hn, by rw [e, hk]⟩)
  refine ⟨_, _, _, _, _, (svV v).ownBlock.toList ++ FC, he, ⟨hR, by have := h.few; simp at this ⊢; omega, fun n hn => ?_, fun k hk2 => ?_, fun n hn g hg => ?_⟩, hfu hU, fun i hi => ?_⟩
  ·rcases List.mem_append.1 hn with hn | hn
   ·exact hoth hU n (by simp at hn ⊢; grind) (hne n hn)
   ·simp only [List.mem_singleton] at hn; subst hn
    exact ⟨x, hk, hp0, by unfold setV; rw [if_pos rfl]; exact hnew hU⟩
  ·have : k ∈ foot c m (l1 ++ y :: l2) := by
    simp only [foot, List.mem_cons, List.mem_map, List.mem_append, List.not_mem_nil, or_false] at hk2 ⊢
    rcases hk2 with rfl | rfl | ⟨n, hn | rfl, rfl⟩
    ·simp
    ·simp
    ·exact .inr (.inr ⟨n, by grind, rfl⟩)
    ·exact .inr (.inr ⟨y, by simp, rfl⟩)
   simp [h.foot k this]
  ·rcases List.mem_append.1 hn with hn | hn
   ·have := h.vin n (by simp at hn ⊢; grind) g hg
    simp [this]
   ·simp only [List.mem_singleton] at hn; subst hn
    simp [Option.mem_toList] at hg ⊢
    exact .inl hg
  ·simp only [List.mem_append, Option.mem_toList] at hi
   rcases hi with hi | hi
   ·exact .inr (.inr hi)
   ·exact .inl hi
end Go.Proofs.YteepgehjkcahiaaGreat

namespace Go.Proofs.YteepgehjkcahiaaGreat
open Go.RowKit
theorem Rd.str {w : World} {v : Value} {l : Bs} (h : Rd w v l) : (convert 32 9 v).run Tryz.prog w = .ok (.string (strOf l)) w := by
 obtain ⟨a, c, rfl, h1, h2, h3⟩ := h.slice
 rcases a with _ | ⟨b, o, p⟩
 ·obtain ⟨h4, rfl⟩ := h3 rfl
  obtain rfl := List.eq_nil_of_length_eq_zero h4
  exact run_convert_bytes_nil (P := Tryz.prog) w 32 5 Tryz.underlying32 Tryz.underlying5 0 0 9 Tryz.underlying9
 ·refine run_convert_bytes_back (P := Tryz.prog) w 32 9 5 ⟨b, o, p⟩ c l Tryz.underlying32 Tryz.underlying5 Tryz.underlying9 fun j hj => ?_
  obtain ⟨-, -, -, hcell⟩ := h.cell
  obtain ⟨b', o', e, hc⟩ := hcell (by omega)
  cases e
  rw [add_plainG]
  exact hc j hj
theorem strOf_inj {l r : Bs} (h : strOf l = strOf r) : l = r := by
 have := congrArg (fun s => s.data.toList) h
 simpa [strOf] using this
set_option maxRecDepth 100000 in
theorem equal_walk (w : World) (v u : Value) (s t : ByteArray) (h1 : (convert 32 9 v).run Tryz.prog w = .ok (.string s) w) (h2 : (convert 32 9 u).run Tryz.prog w = .ok (.string t) w) :
  Calls Tryz.prog 102 #[v, u] w fun e w' => e = .returned (.bool (s.toList == t.toList)) ∧ w' = w := by
 go_enter Tryz.func102, Tryz.ntmps102
 go_wp2_with fail
 go_ret
 exact ⟨rfl, rfl⟩
theorem equal_ok (w : World) {v u : Value} {l r : Bs} (h1 : Rd w v l) (h2 : Rd w u r) : Calls Tryz.prog 102 #[v, u] w fun e w' => e = .returned (.bool (decide (l = r))) ∧ w' = w := by
 refine (equal_walk w v u _ _ h1.str h2.str).mono ?_
 rintro e w' ⟨rfl, rfl⟩
 refine ⟨?_, rfl⟩
 rw [← beq_toListBytes, bytes_beq]
 congr 2
 exact decide_eq_decide.2 ⟨strOf_inj, fun e => by rw [e]⟩
theorem Rd.init {w : World} {a : Option Addr} {n c : Nat} {l : Bs} (h : Rd w (.slice a n c) l) (m : Nat) (hm : m ≤ l.length) : Rd w (.slice a m c) (l.take m) := by
 obtain ⟨⟨a', cap, hv, h1, h2, h3⟩, h4⟩ := h
 simp only [Value.slice.injEq] at hv
 obtain ⟨rfl, rfl, rfl⟩ := hv
 have hlen : (l.take m).length = m := by rw [List.length_take]; omega
 refine ⟨⟨a, c, by rw [hlen], by rw [hlen]; omega, h2, fun j hj => ?_⟩, fun n c e => by cases e; exact h4 _ _ rfl⟩
 obtain ⟨b, off, e, hc⟩ := h3 j (by rw [hlen] at hj; omega)
 refine ⟨b, off, e, ?_⟩
 have e2 : (l.take m)[j] = l[j]'(by rw [hlen] at hj; omega) := by simp
 rw [e2]; exact hc
theorem Rd.tail {w : World} {b off n c : Nat} {l : Bs} (h : Rd w (.slice (some ⟨b, off, none⟩) n c) l) (i : Nat) (hi : i ≤ l.length) : Rd w (.slice (some ⟨b, off + i, none⟩) (n - i) (c - i)) (l.drop i) := by
 have hn := h.cell
 have := h.part i (n - i) (by omega) (c - i) (by omega) (by omega)
 rwa [List.take_of_length_le (by rw [List.length_drop]; omega)] at this
set_option maxRecDepth 100000 in
set_option maxHeartbeats 1000000 in
theorem hasPrefix_ok (w : World) {v u : Value} {l r : Bs} (h1 : Rd w v l) (h2 : Rd w u r) : Calls Tryz.prog 142 #[v, u] w fun e w' => e = .returned (.bool (decide (r <+: l))) ∧ w' = w := by
 obtain ⟨a, c, rfl, g1, g2, g3⟩ := h1.slice
 obtain ⟨a2, c2, rfl, k1, k2, k3⟩ := h2.slice
 by_cases hl : r.length ≤ l.length
 ·have hr : (decide (l.take r.length = r)) = decide (r <+: l) := decide_eq_decide.2 (by rw [List.prefix_iff_eq_take]; exact eq_comm)
  rw [← hr]
  rcases a with _ | ad
  ·obtain ⟨h4, rfl⟩ := g3 rfl
   obtain rfl := List.eq_nil_of_length_eq_zero h4
   obtain rfl := List.eq_nil_of_length_eq_zero (show r.length = 0 by simpa using hl)
   have HE := Lib.hid (equal_ok w (Rd.nil w) h2)
   simp only [List.length_nil, List.take_nil, decide_true] at HE ⊢
   clear h1 h2 hr
   go_enter Tryz.func142, Tryz.ntmps142
   go_wp2_with fail
   refine HE.out.mono ?_
   rintro e w' ⟨rfl, rfl⟩
   go_wp2_with fail
   go_ret
   exact ⟨rfl, rfl⟩
  ·have HE := Lib.hid (equal_ok w (h1.init r.length hl) h2)
   have hlt : (r.length : Int) ≤ (l.length : Int) := by omega
   clear h1 h2 hr
   generalize decide (l.take r.length = r) = R at *
   go_enter Tryz.func142, Tryz.ntmps142
   go_wp2_with fail
   refine HE.out.mono ?_
   rintro e w' ⟨rfl, rfl⟩
   go_wp2_with fail
   go_ret
   exact ⟨rfl, rfl⟩
 ·have hr : decide (r <+: l) = false := decide_eq_false fun q => hl q.length_le
  rw [hr]
  have hlt : ¬ (r.length : Int) ≤ (l.length : Int) := by omega
  clear h1 h2
  go_enter Tryz.func142, Tryz.ntmps142
  go_wp2_with fail
  go_ret
  exact ⟨rfl, rfl⟩
set_option maxRecDepth 100000 in
set_option maxHeartbeats 1000000 in
theorem cutPrefix_yes (w : World) {v u : Value} {l r : Bs} (h1 : Rd w v l) (h2 : Rd w u r) (hp : r <+: l) (hlen : r.length < l.length) : Calls Tryz.prog 109 #[v, u] w fun e w' => ∃ v', e = .returned (.tuple #[v', .bool true]) ∧ Rd w v' (l.drop r.length) ∧ w' = w ∧ v'.ownBlock = v.ownBlock := by
 have hpre := hasPrefix_ok w h1 h2
 rw [decide_eq_true hp] at hpre
 have HP := Lib.hid hpre
 obtain ⟨a, c, rfl, g1, g2, g3⟩ := h1.slice
 obtain ⟨a2, c2, rfl, k1, k2, k3⟩ := h2.slice
 obtain ⟨-, -, -, hcell⟩ := h1.cell
 obtain ⟨b, off, rfl, -⟩ := hcell (by omega)
 have HT := Lib.hid (h1.tail r.length (by omega))
 have hne : ¬ c = r.length := by omega
 clear hpre h1 h2 hcell
 go_enter Tryz.func109, Tryz.ntmps109
 go_wp2_with fail
 refine HP.out.mono ?_
 rintro e w' ⟨rfl, rfl⟩
 go_wp2_with fail
 go_ret2
 exact ⟨_, rfl, HT.out, rfl, rfl⟩
set_option maxRecDepth 100000 in
set_option maxHeartbeats 1000000 in
theorem cutPrefix_no (w : World) {v u : Value} {l r : Bs} (h1 : Rd w v l) (h2 : Rd w u r) (hp : ¬ r <+: l) : Calls Tryz.prog 109 #[v, u] w fun e w' => e = .returned (.tuple #[v, .bool false]) ∧ w' = w := by
 have hpre := hasPrefix_ok w h1 h2
 rw [decide_eq_false hp] at hpre
 have HP := Lib.hid hpre
 clear hpre h1 h2
 go_enter Tryz.func109, Tryz.ntmps109
 go_wp2_with fail
 refine HP.out.mono ?_
 rintro e w' ⟨rfl, rfl⟩
 go_wp2_with fail
 go_ret2
 exact ⟨rfl, rfl⟩
end Go.Proofs.YteepgehjkcahiaaGreat
