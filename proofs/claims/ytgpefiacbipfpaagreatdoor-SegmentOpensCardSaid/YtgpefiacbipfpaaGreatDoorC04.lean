/- The codec's walks: Text, PutFrame, Frame. -/
import Derived.Laws.IdiomStrings
import Derived.Lib.SliceRun
import Derived.Laws.BytesArg
import Derived.Test.YtgpefiacbipfpaaGreatDoorC03
set_option maxRecDepth 100000
set_option maxHeartbeats 2000000
namespace Go.Proofs.YtgpefiacbipfpaaGreatDoor
open Go.RowKit
def bC (l : Bs) : ByteArray := ⟨l.toArray⟩
theorem Rd.part {w : World} {b off n c : Nat} {l : Bs} (h : Rd w (.slice (some ⟨b, off, none⟩) n c) l) (i m : Nat) (him : i + m ≤ l.length) (c' : Nat) (hc : m ≤ c') (hc2 : c' ≤ c) : Rd w (.slice (some ⟨b, off + i, none⟩) m c') ((l.drop i).take m) := by
 obtain ⟨⟨a, cap, hv, h1, h2, h3⟩, -⟩ := h
 simp only [fG] at hv
 obtain ⟨rfl, rfl, rfl⟩ := hv
 have hlen : ((l.drop i).take m).length = m := by rw [bX, eD]; omega
 refine ⟨⟨some ⟨b, off + i, none⟩, c', by rw [hlen], by rw [hlen]; exact hc, bG hc2 h2, fun j hj => ?_⟩, fun n c e => by cases e⟩
 have hj' : j < m := by rw [hlen] at hj; exact hj
 obtain ⟨b', off', e, hcell⟩ := h3 (i + j) (by omega)
 cases e
 refine ⟨b, off + i, rfl, ?_⟩
 have e2 : ((l.drop i).take m)[j] = l[i + j]'(by omega) := by simp
 rw [e2]
 intro q u hu
 have := hcell q u hu
 rw [show off + i + j * 1 + q = off + (i + j) * 1 + q by omega]
 exact this
theorem Rd.conv {w : World} {b off n c : Nat} {l : Bs} (h : Rd w (.slice (some ⟨b, off, none⟩) n c) l) (k : Nat) (s : Bs) (hs : (l.drop k).take s.length = s) (cap : Nat) :
  (convert 23 9 (.slice (some ⟨b, off + k, none⟩) s.length cap)).run Tryz.prog w = .ok (.string (bC s)) w := by
 refine run_convert_bytes_back (P := Tryz.prog) w 23 9 5 ⟨b, off + k, none⟩ cap s Tryz.underlying23 Tryz.underlying5 Tryz.underlying9 fun j hj => ?_
 rw [qN]
 have hl : s.length ≤ l.length - k := by
  have := bM List.length hs
  rw [bX, eD] at this
  omega
 obtain ⟨-, -, -, hcell⟩ := h.cell
 have hn := h.cell.1
 obtain ⟨b', off', e, hc⟩ := hcell (by omega)
 cases e
 have := hc (k + j) (by omega)
 rw [show off + k + j = off + (k + j) by omega, this]
 have e2 : s[j] = ((l.drop k).take s.length)[j]'(by rw [hs]; exact hj) := by simp only [hs]
 rw [e2]
 simp
theorem LA (w : World) (b off L c n k most : Nat) (s : ByteArray) (h1 : L ≤ c) (h2 : c ≤ 9223372036854775807) (hk : k + n ≤ L) (hkc : ¬ c = k) (hn : n ≤ most) (hm : most ≤ 1000000)
  (HC : Calls Tryz.prog 130 #[.slice (some ⟨b, off, none⟩) L c] w fun e w' => e = .returned (.tuple #[.int .u64 n, .int .i64 k, .int .i64 0]) ∧ w' = w)
  (hconv : ∀ cap, (convert 23 9 (.slice (some ⟨b, off + k, none⟩) n cap)).run Tryz.prog w = .ok (.string s) w) :
  Calls Tryz.prog 134 #[.slice (some ⟨b, off, none⟩) L c, .int .i64 most] w fun e w' => e = .returned (.tuple #[.string s, .int .i64 (k + n : Nat), .int .i64 0]) ∧ w' = w := by
 have HC := aA HC
 have n1 : ¬ (most : Int) < 0 := by omega
 have n2 : ¬ (most : Int) < (n : Int) := by omega
 have n3 : ¬ ((L : Int) - (k : Int)) < (n : Int) := by omega
 go_in
 go_wp2_with fail
 refine HC.out.mono ?_
 rintro e w1 ⟨rfl, rfl⟩
 go_wp2_with fail
 go_ret3
 refine ⟨?_, rfl⟩
 show Ending.returned (.tuple #[.string s, .int .i64 ((k : Int) + (n : Int)), .int .i64 0]) = _
 rw [tS]
theorem LB (w : World) {v : Value} {s r : Bs} (h : Rd w v (aN s.length ++ (s ++ r))) (most : Nat) (h0 : 1 ≤ s.length) (hs : s.length ≤ most) (hm : most ≤ 1000000) :
  Calls Tryz.prog 134 #[v, .int .i64 most] w fun e w' => e = .returned (.tuple #[.string (bC s), .int .i64 ((aN s.length).length + s.length : Nat), .int .i64 0]) ∧ w' = w := by
 obtain ⟨a, c, rfl, h1, h2, h3⟩ := h.slice
 have hu := pC w h
 rw [pR (by omega)] at hu
 have hlen : (aN s.length ++ (s ++ r)).length = (aN s.length).length + (s.length + r.length) := by rw [bD, bD]
 obtain ⟨-, -, -, hcell⟩ := h.cell
 obtain ⟨b, off, rfl, -⟩ := hcell (by omega)
 refine LA w b off _ c s.length (aN s.length).length most (bC s) h1 h2 (by omega) (by omega) hs hm hu fun cap => h.conv _ s ?_ cap
 rw [kV, DL]
theorem LC (w : World) (B : Nat) {k : UInt8} {ty : TypeId} (h : w.heap[B]? = some (.cells #[.int .u8 k.toNat] ty (0, 0))) : Rd w (.slice (some ⟨B, 0, none⟩) 1 1) [k] :=
 ⟨⟨some ⟨B, 0, none⟩, 1, rfl, aQ _, by unfold maxLen; omega, fun i hi => ⟨B, 0, rfl, fun j u hu => by
  obtain rfl : i = 0 := by simpa using hi
  have := aD h (0 + 0 * 1 + j)
  rw [this]
  simpa using hu⟩⟩, fun n c e => by cases e⟩
abbrev Fb (k : UInt8) (v : Value) : Obj := .cells #[.int .u8 k.toNat, v] 25
theorem BO (w : World) {v u : Value} {l d : Bs} (h : Rd w v l) (k : UInt8) (hd : Rd w u d) (hd2 : d.length ≤ 2000) (hl : l.length ≤ 100000000) :
  Calls Tryz.prog 62 #[v, .agg #[.int .u8 k.toNat, u]] w fun e w' => ∃ v', e = .returned (.tuple #[v', .int .i64 0]) ∧ Ow w' w.heap.size v' (l ++ cC k d) ∧ aB [] w w' := by
 obtain ⟨a, c, rfl, h1, h2, h3⟩ := hd.slice
 have HL := aA h
 have HD := aA hd
 clear h hd
 have hn : ¬ (2000 : Int) < (d.length : Int) := by omega
 go_in
 go_wp2_with fail
 obtain ⟨W1, hW1⟩ : ∃ W, W = w.alloc (Fb k (.slice a d.length c)) := ⟨_, rfl⟩
 have HU1 : Hid (aB [] w W1) := aA (by rw [hW1]; exact (aB.refl [] w).alloc _)
 have HB1 : Hid (W1.heap[w.heap.size]? = some (Fb k (.slice a d.length c))) := aA (by rw [hW1]; exact aX _ _)
 have p0 : W1.cell? ⟨w.heap.size, 0, none⟩ = some (.int .u8 k.toNat) := aD HB1.out 0
 have p1 : W1.cell? ⟨w.heap.size, 1, none⟩ = some (.slice a d.length c) := aD HB1.out 1
 rewrite [← hW1]
 clear hW1
 have HC : Hid (∀ V : World, aB [] (W1.drew.alloc (.cells #[.int .u8 k.toNat] 5)) V → Calls Tryz.prog 95 #[.slice (some ⟨W1.heap.size, 0, none⟩) 1 1, .int .u64 d.length] V fun e w' => ∃ v', e = .returned v' ∧ Ow w' V.heap.size v' ([k] ++ aN d.length) ∧ aB [] V w') :=
  aA fun V u => nX V (Rd.keep (l := [k]) (LC _ _ (aX _ _)) u) d.length (by omega) (by simp)
 have hwr : IntKind.u64.wrap (d.length : Int) = (d.length : Int) := by rw [nU]; omega
 have hul : ([k] ++ aN d.length).length ≤ 20 := by have := gX (n := d.length) (by omega); simp; omega
 go_region_held3 (fun w' => w'.cell? ⟨w.heap.size, 0, none⟩ = some (.int .u8 k.toNat) ∧ w'.cell? ⟨w.heap.size, 1, none⟩ = some (.slice a d.length c))
  (first
   | (with_reducible exact iT (aB.refl [] W1).drew ⟨p0, p1⟩)
   | (with_reducible exact iT ((aB.refl [] W1).alloc _).drew ⟨p0, p1⟩)
   | (with_reducible exact iT hv6 ⟨p0, p1⟩)
   | (with_reducible exact iT hv7 ⟨p0, p1⟩))
  (first
   | (go_at_call 95; (with_reducible refine (HC.out _ ?_).mono ?_); (exact ⟨rfl, rfl, aQ _, fun _ _ _ => rfl⟩); rintro e w6 ⟨v6, rfl, ho6, hu6⟩; have hv6 : aB [] W1 w6 := ((aB.refl [] W1).drew.alloc _).trans hu6)
   | (refine lA T8 (by rfl) _ _ (by rfl) (base := (W1.drew.alloc (.cells #[.int .u8 k.toNat] 5)).heap.size) (v := v6) (l := [k] ++ aN d.length) (A := a) (c := c) (r := d) (by rfl) (by exact ho6) (by rfl) (by exact (HD.out.keep (HU1.out.trans hv6)).src) (lQ _) ?_ ?_ ?_ ?_; (omega); (omega); (exact hu6.size); intro v7 w7 ho7 hg7 _; have hv7 : aB [] W1 w7 := hv6.grown hg7 (fun g hg => by have := (ho6.block g hg).1; simp at this; omega)))
 have HR7 : Hid (Rd w7 v7 (jA k d)) := aA (by have := Ow.rd ho7; simpa [jA] using this)
 have hU7 : aB [] w w7 := HU1.out.trans hv7
 have HU7 := aA hU7
 have hrl : (jA k d).length ≤ 2020 := by simp only [bD, eG, lJ] at hul; simp only [jA, eG, bD]; omega
 clear ho7 hg7 hv7 ho6 hu6 hv6 HC p0 p1 hU7
 have hsum := yZ (jA k d)
 go_wp2_with fail
 refine (BN w7 HR7.out).mono ?_
 rintro e w8 ⟨rfl, hU8⟩
 have HU8 := aA (HU7.out.trans hU8)
 have HR8 := aA (HR7.out.keep hU8)
 clear hU8
 go_wp2_with fail
 refine (BL w8 (HL.out.keep HU8.out) (jU (jA k d)) hsum hl).mono ?_
 rintro e w9 ⟨v9, rfl, ho9, hU9⟩
 have HU9 := aA (HU8.out.trans hU9)
 have HR9 := aA (HR8.out.keep hU9)
 have h98 := hU9.size
 have hw8 := HU8.out.size
 clear hU9
 obtain ⟨a7, c7, rfl, -⟩ := HR9.out.slice
 go_wp2_with (at_builtin; refine fS T8 rfl _ _ rfl (l := l ++ fD (jU (jA k d))) rfl ho9 rfl HR9.out.src (lQ _) ?c1 ?c2 ?c3 ?_)
 case c1 => simp [fD]; omega
 case c2 => simp [fD]; omega
 case c3 => omega
 intro v10 w10 ho10 hg10 _
 have HU10 : Hid (aB [] w w10) := aA (HU9.out.grown hg10 (fun g hg => by have := (ho9.block g hg).1; omega))
 clear hg10 ho9
 go_wp2_with fail
 go_ret2
 exact ⟨_, rfl, by have := ho10.base hw8; unfold cC; simpa using this, HU10.out⟩
structure eA {α : Type} (f : α → List Value) (k : Nat) (w : World) (v : Value) (l : List α) : Prop where
 sl : iF k (lP f) w v l
 nl : ∀ n c, v = .slice none n c → c = 0
theorem eA.slice {α : Type} {f : α → List Value} {k : Nat} {w : World} {v : Value} {l : List α} (h : eA f k w v l) : ∃ a c, v = .slice a l.length c ∧ l.length ≤ c ∧ c ≤ 9223372036854775807 ∧ (a = none → l.length = 0 ∧ c = 0) := by
 obtain ⟨⟨a, c, rfl, h1, h2, h3⟩, h4⟩ := h
 refine ⟨a, c, rfl, h1, by unfold maxLen at h2; omega, fun e => ?_⟩
 subst e
 have := h4 _ _ rfl
 omega
theorem eA.upd {α : Type} {f : α → List Value} {k bytes : Nat} {st e : TypeId} (T : fA f k bytes st e) {w w' : World} {v : Value} {l : List α} (h : eA f k w v l) {F : List Nat} (u : aB F w w') (hF : ∀ g, v.ownBlock = some g → g ∉ F) : eA f k w' v l := ⟨iF.upd h.sl T u hF, h.nl⟩
theorem eA.keep {α : Type} {f : α → List Value} {k bytes : Nat} {st e : TypeId} (T : fA f k bytes st e) {w w' : World} {v : Value} {l : List α} (h : eA f k w v l) (u : aB [] w w') : eA f k w' v l := h.upd T u (by simp)
theorem aK.rd {α : Type} {f : α → List Value} {k bytes : Nat} {st e : TypeId} (T : fA f k bytes st e) {w : World} {base : Nat} {v : Value} {l : List α} (h : aK f e k w base v l) : eA f k w v l := ⟨aK.sl T h, fun n c e => by
 rcases h.2 with ⟨h, -⟩ | ⟨g, cap, cur, h, -⟩
 ·rw [h] at e; cases e; rfl
 rw [h] at e; cases e⟩
theorem Rd.g {w : World} {v : Value} {l : Bs} (h : Rd w v l) : eA c8 1 w v l := ⟨h.sl, h.nl⟩
theorem eA.b {w : World} {v : Value} {l : Bs} (h : eA c8 1 w v l) : Rd w v l := ⟨h.sl, h.nl⟩
abbrev cB (b : Bool) : List Value := [.bool b]
theorem TB : fA cB 1 1 149 4 where
 len := fun _ => rfl
 pos := by omega
 und := Tryz.underlying149
 info := by
  obtain ⟨i, h, h1, h2, h3⟩ := kD (show (Tryz.prog.info? 4).map (fun i => (i.zero, i.size, i.bytes)) = some (some (.bool false), 1, 1) by kernel_rfl)
  exact ⟨i, _, h, h1, h2, h3, rfl⟩
theorem LD (l : List Bool) : ∀ x ∈ l, ∀ u ∈ cB x, u.oneCell' = true := by
 intro x _ u hu
 simp only [cB, aJ, cA, cG] at hu
 subst hu; rfl
abbrev cR (r : aR) : List Value := [.int .i64 r.1, .int .i64 r.2]
theorem TR : fA cR 2 16 90 148 where
 len := fun _ => rfl
 pos := by omega
 und := Tryz.underlying90
 info := by
  obtain ⟨i, h, h1, h2, h3⟩ := kD (show (Tryz.prog.info? 148).map (fun i => (i.zero, i.size, i.bytes)) = some (some (.agg #[.int .i64 0, .int .i64 0]), 2, 16) by kernel_rfl)
  exact ⟨i, _, h, h1, h2, h3, rfl⟩
theorem nY (l : List aR) : ∀ x ∈ l, ∀ u ∈ cR x, u.oneCell' = true := by
 intro x _ u hu
 simp only [cR, aJ, cA, cG] at hu
 rcases hu with rfl | rfl <;> rfl
structure jM where
 at_ : Nat
 a : Option Addr
 n : Nat
 c : Nat
abbrev cW (x : jM) : List Value := [.int .i64 x.at_, .slice x.a x.n x.c]
theorem TW : fA cW 2 32 101 168 where
 len := fun _ => rfl
 pos := by omega
 und := Tryz.underlying101
 info := by
  obtain ⟨i, h, h1, h2, h3⟩ := kD (show (Tryz.prog.info? 168).map (fun i => (i.zero, i.size, i.bytes)) = some (some (.agg #[.int .i64 0, .slice none 0 0]), 2, 32) by kernel_rfl)
  exact ⟨i, _, h, h1, h2, h3, rfl⟩
theorem BP (l : List jM) : ∀ x ∈ l, ∀ u ∈ cW x, u.oneCell' = true := by
 intro x _ u hu
 simp only [cW, aJ, cA, cG] at hu
 rcases hu with rfl | rfl <;> rfl
theorem uG (w : World) {v : Value} {l : List UInt8} (h : eA c8 1 w v l) (hl : l.length ≤ 100000000) : Calls Tryz.prog 92 #[v] w fun e w' => ∃ v', e = .returned v' ∧ aK c8 5 1 w' w.heap.size v' l ∧ aB [] w w' := by
 obtain ⟨a, c, rfl, h1, h2, h3⟩ := h.slice
 have HL := aA h
 clear h
 rcases a with _ | ad
 ·obtain ⟨h4, rfl⟩ := h3 rfl
  obtain rfl := nT h4
  have hop : ∀ W, (binOp .eql 23 (.slice none 0 0) (.slice none 0 0)).run Tryz.prog W = .ok (.bool true) W := fun W => Lib.run_eql_slice_nil W _ _ _ _ _ _ _ T8.und
  go_in
  go_wp2_with fail
  go_ret
  exact ⟨_, rfl, aK.nil _ _, aB.refl _ _⟩
 have hop : ∀ W, (binOp .eql 23 (.slice (some ad) l.length c) (.slice none 0 0)).run Tryz.prog W = .ok (.bool false) W := fun W => Lib.run_eql_slice_nil W _ _ _ _ _ _ _ T8.und
 go_in
 go_wp2_with (at_builtin; refine fS T8 rfl _ _ rfl (l := []) (base := w.heap.size) rfl (aK.empty T8 (aX _ _) (aQ _)) rfl (iF.srcG T8 (fun _ _ _ h => h) (HL.out.keep T8 ((aB.refl [] w).alloc _)).sl) (lQ _) ?c1 ?c2 ?c3 ?_)
 case c1 => (first | omega | (simp; done) | (simp; omega))
 case c2 => (first | omega | (simp; done) | (simp; omega))
 case c3 => (first | omega | (simp; done) | (simp; omega))
 intro v2 w2 hown2 hg2 _
 have HU2 : Hid (aB [] w w2) := aA (((aB.refl [] w).alloc _).grown hg2 (fun g hg => by simp [Value.ownBlock] at hg; omega))
 clear hg2
 go_wp2_with fail
 go_ret
 exact ⟨_, rfl, by simpa using hown2, HU2.out⟩
theorem zL (w : World) {v : Value} {l : List Bool} (h : eA cB 1 w v l) (hl : l.length ≤ 100000000) : Calls Tryz.prog 112 #[v] w fun e w' => ∃ v', e = .returned v' ∧ aK cB 4 1 w' w.heap.size v' l ∧ aB [] w w' := by
 obtain ⟨a, c, rfl, h1, h2, h3⟩ := h.slice
 have HL := aA h
 clear h
 rcases a with _ | ad
 ·obtain ⟨h4, rfl⟩ := h3 rfl
  obtain rfl := nT h4
  have hop : ∀ W, (binOp .eql 149 (.slice none 0 0) (.slice none 0 0)).run Tryz.prog W = .ok (.bool true) W := fun W => Lib.run_eql_slice_nil W _ _ _ _ _ _ _ TB.und
  go_in
  go_wp2_with fail
  go_ret
  exact ⟨_, rfl, aK.nil _ _, aB.refl _ _⟩
 have hop : ∀ W, (binOp .eql 149 (.slice (some ad) l.length c) (.slice none 0 0)).run Tryz.prog W = .ok (.bool false) W := fun W => Lib.run_eql_slice_nil W _ _ _ _ _ _ _ TB.und
 go_in
 go_wp2_with (at_builtin; refine fS TB rfl _ _ rfl (l := []) (base := w.heap.size) rfl (aK.empty TB (aX _ _) (aQ _)) rfl (iF.srcG TB (fun _ _ _ h => h) (HL.out.keep TB ((aB.refl [] w).alloc _)).sl) (LD _) ?c1 ?c2 ?c3 ?_)
 case c1 => (first | omega | (simp; done) | (simp; omega))
 case c2 => (first | omega | (simp; done) | (simp; omega))
 case c3 => (first | omega | (simp; done) | (simp; omega))
 intro v2 w2 hown2 hg2 _
 have HU2 : Hid (aB [] w w2) := aA (((aB.refl [] w).alloc _).grown hg2 (fun g hg => by simp [Value.ownBlock] at hg; omega))
 clear hg2
 go_wp2_with fail
 go_ret
 exact ⟨_, rfl, by simpa using hown2, HU2.out⟩
theorem Fc (w : World) {v : Value} {l : List aR} (h : eA cR 2 w v l) (hl : l.length ≤ 100000000) : Calls Tryz.prog 139 #[v] w fun e w' => ∃ v', e = .returned v' ∧ aK cR 148 2 w' w.heap.size v' l ∧ aB [] w w' := by
 obtain ⟨a, c, rfl, h1, h2, h3⟩ := h.slice
 have HL := aA h
 clear h
 rcases a with _ | ad
 ·obtain ⟨h4, rfl⟩ := h3 rfl
  obtain rfl := nT h4
  have hop : ∀ W, (binOp .eql 90 (.slice none 0 0) (.slice none 0 0)).run Tryz.prog W = .ok (.bool true) W := fun W => Lib.run_eql_slice_nil W _ _ _ _ _ _ _ TR.und
  go_in
  go_wp2_with fail
  go_ret
  exact ⟨_, rfl, aK.nil _ _, aB.refl _ _⟩
 have hop : ∀ W, (binOp .eql 90 (.slice (some ad) l.length c) (.slice none 0 0)).run Tryz.prog W = .ok (.bool false) W := fun W => Lib.run_eql_slice_nil W _ _ _ _ _ _ _ TR.und
 go_in
 go_wp2_with (at_builtin; refine fS TR rfl _ _ rfl (l := []) (base := w.heap.size) rfl (aK.empty TR (aX _ _) (aQ _)) rfl (iF.srcG TR (fun _ _ _ h => h) (HL.out.keep TR ((aB.refl [] w).alloc _)).sl) (nY _) ?c1 ?c2 ?c3 ?_)
 case c1 => (first | omega | (simp; done) | (simp; omega))
 case c2 => (first | omega | (simp; done) | (simp; omega))
 case c3 => (first | omega | (simp; done) | (simp; omega))
 intro v2 w2 hown2 hg2 _
 have HU2 : Hid (aB [] w w2) := aA (((aB.refl [] w).alloc _).grown hg2 (fun g hg => by simp [Value.ownBlock] at hg; omega))
 clear hg2
 go_wp2_with fail
 go_ret
 exact ⟨_, rfl, by simpa using hown2, HU2.out⟩
theorem LE (w : World) {v : Value} {l : List jM} (h : eA cW 2 w v l) (hl : l.length ≤ 100000000) : Calls Tryz.prog 101 #[v] w fun e w' => ∃ v', e = .returned v' ∧ aK cW 168 2 w' w.heap.size v' l ∧ aB [] w w' := by
 obtain ⟨a, c, rfl, h1, h2, h3⟩ := h.slice
 have HL := aA h
 clear h
 rcases a with _ | ad
 ·obtain ⟨h4, rfl⟩ := h3 rfl
  obtain rfl := nT h4
  have hop : ∀ W, (binOp .eql 101 (.slice none 0 0) (.slice none 0 0)).run Tryz.prog W = .ok (.bool true) W := fun W => Lib.run_eql_slice_nil W _ _ _ _ _ _ _ TW.und
  go_in
  go_wp2_with fail
  go_ret
  exact ⟨_, rfl, aK.nil _ _, aB.refl _ _⟩
 have hop : ∀ W, (binOp .eql 101 (.slice (some ad) l.length c) (.slice none 0 0)).run Tryz.prog W = .ok (.bool false) W := fun W => Lib.run_eql_slice_nil W _ _ _ _ _ _ _ TW.und
 go_in
 go_wp2_with (at_builtin; refine fS TW rfl _ _ rfl (l := []) (base := w.heap.size) rfl (aK.empty TW (aX _ _) (aQ _)) rfl (iF.srcG TW (fun _ _ _ h => h) (HL.out.keep TW ((aB.refl [] w).alloc _)).sl) (BP _) ?c1 ?c2 ?c3 ?_)
 case c1 => (first | omega | (simp; done) | (simp; omega))
 case c2 => (first | omega | (simp; done) | (simp; omega))
 case c3 => (first | omega | (simp; done) | (simp; omega))
 intro v2 w2 hown2 hg2 _
 have HU2 : Hid (aB [] w w2) := aA (((aB.refl [] w).alloc _).grown hg2 (fun g hg => by simp [Value.ownBlock] at hg; omega))
 clear hg2
 go_wp2_with fail
 go_ret
 exact ⟨_, rfl, by simpa using hown2, HU2.out⟩
theorem Rd.str {w : World} {v : Value} {l : Bs} (h : Rd w v l) : (convert 23 9 v).run Tryz.prog w = .ok (.string (bC l)) w := by
 obtain ⟨a, c, rfl, h1, h2, h3⟩ := h.slice
 rcases a with _ | ⟨b, o, p⟩
 ·obtain ⟨h4, rfl⟩ := h3 rfl
  obtain rfl := nT h4
  exact run_convert_bytes_nil (P := Tryz.prog) w 23 5 Tryz.underlying23 Tryz.underlying5 0 0 9 Tryz.underlying9
 refine run_convert_bytes_back (P := Tryz.prog) w 23 9 5 ⟨b, o, p⟩ c l Tryz.underlying23 Tryz.underlying5 Tryz.underlying9 fun j hj => ?_
 obtain ⟨-, -, -, hcell⟩ := h.cell
 obtain ⟨b', o', e, hc⟩ := hcell (by omega)
 cases e
 rw [qN]
 exact hc j hj
theorem LF {l r : Bs} (h : bC l = bC r) : l = r := by
 have := bM (fun s => s.data.toList) h
 simpa [bC] using this
theorem LG (w : World) (v u : Value) (s t : ByteArray) (h1 : (convert 23 9 v).run Tryz.prog w = .ok (.string s) w) (h2 : (convert 23 9 u).run Tryz.prog w = .ok (.string t) w) :
  Calls Tryz.prog 111 #[v, u] w fun e w' => e = .returned (.bool (s.toList == t.toList)) ∧ w' = w := by
 go_in
 go_wp2_with fail
 go_ret
 exact ⟨rfl, rfl⟩
theorem xC (w : World) {v u : Value} {l r : Bs} (h1 : Rd w v l) (h2 : Rd w u r) : Calls Tryz.prog 111 #[v, u] w fun e w' => e = .returned (.bool (decide (l = r))) ∧ w' = w := by
 refine (LG w v u _ _ h1.str h2.str).mono ?_
 rintro e w' ⟨rfl, rfl⟩
 refine ⟨?_, rfl⟩
 rw [← beq_toListBytes, ES]
 congr 2
 exact decide_eq_decide.2 ⟨LF, fun e => by rw [e]⟩
theorem Rd.init {w : World} {a : Option Addr} {n c : Nat} {l : Bs} (h : Rd w (.slice a n c) l) (m : Nat) (hm : m ≤ l.length) : Rd w (.slice a m c) (l.take m) := by
 obtain ⟨⟨a', cap, hv, h1, h2, h3⟩, h4⟩ := h
 simp only [fG] at hv
 obtain ⟨rfl, rfl, rfl⟩ := hv
 have hlen : (l.take m).length = m := by rw [bX]; omega
 refine ⟨⟨a, c, by rw [hlen], by rw [hlen]; omega, h2, fun j hj => ?_⟩, fun n c e => by cases e; exact h4 _ _ rfl⟩
 obtain ⟨b, off, e, hc⟩ := h3 j (by rw [hlen] at hj; omega)
 refine ⟨b, off, e, ?_⟩
 have e2 : (l.take m)[j] = l[j]'(by rw [hlen] at hj; omega) := by simp
 rw [e2]; exact hc
theorem Rd.tail {w : World} {b off n c : Nat} {l : Bs} (h : Rd w (.slice (some ⟨b, off, none⟩) n c) l) (i : Nat) (hi : i ≤ l.length) : Rd w (.slice (some ⟨b, off + i, none⟩) (n - i) (c - i)) (l.drop i) := by
 have hn := h.cell
 have := h.part i (n - i) (by omega) (c - i) (by omega) (by omega)
 rwa [dY (by rw [eD]; omega)] at this
theorem Fd (w : World) {v u : Value} {l r : Bs} (h1 : Rd w v l) (h2 : Rd w u r) : Calls Tryz.prog 164 #[v, u] w fun e w' => e = .returned (.bool (decide (r <+: l))) ∧ w' = w := by
 obtain ⟨a, c, rfl, g1, g2, g3⟩ := h1.slice
 obtain ⟨a2, c2, rfl, k1, k2, k3⟩ := h2.slice
 by_cases hl : r.length ≤ l.length
 ·have hr : (decide (l.take r.length = r)) = decide (r <+: l) := decide_eq_decide.2 (by rw [List.prefix_iff_eq_take]; exact eq_comm)
  rw [← hr]
  rcases a with _ | ad
  ·obtain ⟨h4, rfl⟩ := g3 rfl
   obtain rfl := nT h4
   obtain rfl := nT (show r.length = 0 by simpa using hl)
   have HE := aA (xC w (Rd.nil w) h2)
   simp only [lJ, List.take_nil, decide_true] at HE ⊢
   clear h1 h2 hr
   go_in
   go_wp2_with fail
   refine HE.out.mono ?_
   rintro e w' ⟨rfl, rfl⟩
   go_wp2_with fail
   go_ret
   exact ⟨rfl, rfl⟩
  have HE := aA (xC w (h1.init r.length hl) h2)
  have hlt : (r.length : Int) ≤ (l.length : Int) := by omega
  clear h1 h2 hr
  generalize decide (l.take r.length = r) = R at *
  go_in
  go_wp2_with fail
  refine HE.out.mono ?_
  rintro e w' ⟨rfl, rfl⟩
  go_wp2_with fail
  go_ret
  exact ⟨rfl, rfl⟩
 have hr : decide (r <+: l) = false := decide_eq_false fun q => hl q.length_le
 rw [hr]
 have hlt : ¬ (r.length : Int) ≤ (l.length : Int) := by omega
 clear h1 h2
 go_in
 go_wp2_with fail
 go_ret
 exact ⟨rfl, rfl⟩
theorem zM (w : World) {v u : Value} {l r : Bs} (h1 : Rd w v l) (h2 : Rd w u r) (hp : r <+: l) (hlen : r.length < l.length) : Calls Tryz.prog 129 #[v, u] w fun e w' => ∃ v', e = .returned (.tuple #[v', .bool true]) ∧ Rd w v' (l.drop r.length) ∧ w' = w ∧ v'.ownBlock = v.ownBlock := by
 have hpre := Fd w h1 h2
 rw [decide_eq_true hp] at hpre
 have HP := aA hpre
 obtain ⟨a, c, rfl, g1, g2, g3⟩ := h1.slice
 obtain ⟨a2, c2, rfl, k1, k2, k3⟩ := h2.slice
 obtain ⟨-, -, -, hcell⟩ := h1.cell
 obtain ⟨b, off, rfl, -⟩ := hcell (by omega)
 have HT := aA (h1.tail r.length (by omega))
 have hne : ¬ c = r.length := by omega
 clear hpre h1 h2 hcell
 go_in
 go_wp2_with fail
 refine HP.out.mono ?_
 rintro e w' ⟨rfl, rfl⟩
 go_wp2_with fail
 go_ret2
 exact ⟨_, rfl, HT.out, rfl, rfl⟩
theorem Fe (w : World) {v u : Value} {l r : Bs} (h1 : Rd w v l) (h2 : Rd w u r) (hp : ¬ r <+: l) : Calls Tryz.prog 129 #[v, u] w fun e w' => e = .returned (.tuple #[v, .bool false]) ∧ w' = w := by
 have hpre := Fd w h1 h2
 rw [decide_eq_false hp] at hpre
 have HP := aA hpre
 clear hpre h1 h2
 go_in
 go_wp2_with fail
 refine HP.out.mono ?_
 rintro e w' ⟨rfl, rfl⟩
 go_wp2_with fail
 go_ret2
 exact ⟨rfl, rfl⟩
theorem mZ (base : Nat) : ∀ g, (Value.slice none 0 0).ownBlock = some g → base ≤ g := fun g h => by cases h
def nZ (base : Nat) (w' : World) (e : Ending) (R : UInt8 × Bs × Nat × Nat) : Prop := ∃ v', e = .returned (.tuple #[.agg #[.int .u8 R.1.toNat, v'], .int .i64 R.2.2.1, .int .i64 R.2.2.2]) ∧ Rd w' v' R.2.1 ∧ ∀ g, v'.ownBlock = some g → base ≤ g
theorem lR {fn : Func} {R : Ending → World → Prop} {a : Act} {W : World} {B : Nat} {k : Int} {v : Value} (hr : fn.results = #[.cell 2 25, .tmp 3, .tmp 4])
  (hs : a.tmps.getD 2 undef = .pointer (some ⟨B, 0, none⟩)) (z0 : W.cell? ⟨B, 0, none⟩ = some (.int .u8 k)) (z1 : W.cell? ⟨B, 1, none⟩ = some v) (hd : a.defers = []) (h : R (.returned (.tuple #[.agg #[.int .u8 k, v], a.tmps.getD 3 undef, a.tmps.getD 4 undef])) W) : bodyPost Tryz.prog fn R .ret a W := by
 refine rO (v := .tuple #[.agg #[.int .u8 k, v], a.tmps.getD 3 undef, a.tmps.getD 4 undef]) ?_ hd h
 have hs' := hs
 simp only [DO] at hs'
 simp [results, hr, hs', go_sem, z0, z1]
theorem LH (w : World) {v : Value} {l : Bs} (h : Rd w v l) (hl : l.length < 5) : Calls Tryz.prog 115 #[v] w fun e w' => nZ w.heap.size w' e (0, [], 0, 10) ∧ aB [] w w' := by
 obtain ⟨a, c, rfl, h1, h2, h3⟩ := h.slice
 have hlt : (l.length : Int) < 5 := by omega
 clear h
 go_in
 go_wp2_with fail
 exact lR Tryz.results115 rfl (aD (aX _ _) 0) (aD (aX _ _) 1) rfl ⟨⟨_, rfl, Rd.nil _, mZ _⟩, (aB.refl [] w).alloc _⟩
theorem LI (w : World) {b off n c : Nat} {l : Bs} (h : Rd w (.slice (some ⟨b, off, none⟩) n c) l) (hl : 5 ≤ l.length) (V : World) (u : aB [] w V) :
  Calls Tryz.prog 130 #[.slice (some ⟨b, off + 5, none⟩) (n - 5) (c - 5)] V fun e w' => e = .returned (.tuple #[.int .u64 (cX (l.drop 5)).1, .int .i64 (cX (l.drop 5)).2.1, .int .i64 (cX (l.drop 5)).2.2]) ∧ w' = V :=
 pC V ((h.tail 5 hl).keep u)
theorem BQ (w : World) {b off n c u k e : Nat} (hn : 5 < n) (hc : n ≤ c) (hc2 : c ≤ 9223372036854775807) (hu : u < 18446744073709551616) (hk : k ≤ 10) (he : e ≤ 20)
  (HU : ∀ V, aB [] w V → Calls Tryz.prog 130 #[.slice (some ⟨b, off + 5, none⟩) (n - 5) (c - 5)] V fun r w' => r = .returned (.tuple #[.int .u64 u, .int .i64 k, .int .i64 e]) ∧ w' = V) (E : Nat)
  (hE : (e ≠ 0 ∧ E = e) ∨ (e = 0 ∧ 2000 < u ∧ E = 12) ∨ (e = 0 ∧ u ≤ 2000 ∧ n < 5 + k + u ∧ E = 10)) :
  Calls Tryz.prog 115 #[.slice (some ⟨b, off, none⟩) n c] w fun r w' => nZ w.heap.size w' r (0, [], 0, E) ∧ aB [] w w' := by
 have HU := aA HU
 have hlt : ¬ (n : Int) < 5 := by omega
 have hne : ¬ c = 5 := by omega
 rcases hE with ⟨h1, rfl⟩ | ⟨rfl, h2, rfl⟩ | ⟨rfl, h2, h3, rfl⟩
 ·have h1' : ¬ (E : Int) = 0 := by omega
  go_in
  go_wp2_with fail
  refine (HU.out _ ((aB.refl [] w).alloc _)).mono ?_
  rintro r w1 ⟨rfl, rfl⟩
  go_wp2_with fail
  exact lR Tryz.results115 rfl (aD (aX _ _) 0) (aD (aX _ _) 1) rfl ⟨⟨_, rfl, Rd.nil _, mZ _⟩, (aB.refl [] w).alloc _⟩
 ·have h1' : (2000 : Int) < (u : Int) := by omega
  go_in
  go_wp2_with fail
  refine (HU.out _ ((aB.refl [] w).alloc _)).mono ?_
  rintro r w1 ⟨rfl, rfl⟩
  go_wp2_with fail
  exact lR Tryz.results115 rfl (aD (aX _ _) 0) (aD (aX _ _) 1) rfl ⟨⟨_, rfl, Rd.nil _, mZ _⟩, (aB.refl [] w).alloc _⟩
 have h1' : ¬ (2000 : Int) < (u : Int) := by omega
 have h2' : (n : Int) - 5 - (k : Int) < (u : Int) := by omega
 go_in
 go_wp2_with fail
 refine (HU.out _ ((aB.refl [] w).alloc _)).mono ?_
 rintro r w1 ⟨rfl, rfl⟩
 go_wp2_with fail
 exact lR Tryz.results115 rfl (aD (aX _ _) 0) (aD (aX _ _) 1) rfl ⟨⟨_, rfl, Rd.nil _, mZ _⟩, (aB.refl [] w).alloc _⟩
end Go.Proofs.YtgpefiacbipfpaaGreatDoor
