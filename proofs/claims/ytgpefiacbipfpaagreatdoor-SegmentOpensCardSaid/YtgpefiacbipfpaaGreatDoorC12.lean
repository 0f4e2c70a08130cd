/- Segment, in plain words: what is read of many files; a frame is put behind them. -/
import Derived.Laws.Strings2
import Derived.Deep.RegionHeld3
import Derived.Deep.DeepCutAuto
import Derived.Test.YtgpefiacbipfpaaGreatDoorC11
set_option maxRecDepth 100000
set_option maxHeartbeats 2000000
namespace Go.Proofs.YtgpefiacbipfpaaGreatDoor
theorem MJ : ∀ (k i acc : Nat) (b : Bs) (m : Nat), (dA k i acc b).2.2 = 0 → (dA k i acc b).2.1 ≤ i + m → dA k i acc (b.take m) = dA k i acc b := by
 intro k
 induction k with
 | zero => intro i acc b m h; simp [dA] at h
 | succ k ih =>
  intro i acc b m h hm
  have hb := sR (k + 1) i (acc % 2 ^ 64) b (mP _ (by decide))
  cases b with
  | nil => simp [dA] at h
  | cons c b =>
   have hk : i < (dA (k + 1) i acc (c :: b)).2.1 := by
    simp only [dA] at h ⊢
    by_cases h1 : 128 ≤ c.toNat
    ·rw [aF h1] at h ⊢
     have := (sR k (i + 1) ((acc ||| (c.toNat % 128) <<< (7 * i)) % 2 ^ 64) b (mP _ (by decide))).2.1 h
     omega
    rw [aE h1] at h ⊢
    by_cases h2 : (0 < i ∧ c.toNat = 0) ∨ (i = 9 ∧ 1 < c.toNat)
    ·rw [aF h2] at h; cases h
    rw [aE h2]; simp
   cases m with
   | zero => omega
   | succ m =>
    simp only [Kb, dA] at h hm ⊢
    by_cases h1 : 128 ≤ c.toNat
    ·rw [aF h1] at h hm; rw [aF h1, aF h1]; exact ih _ _ _ _ h (by omega)
    rw [aE h1, aE h1]
theorem MK {b : Bs} {m : Nat} (hm : 4 ≤ m) : lM (b.take m) = lM b := by
 obtain ⟨m, rfl⟩ : ∃ k, m = k + 4 := ⟨m - 4, by omega⟩
 match b with
 | a :: b :: c :: d :: l => rfl
 | [a, b, c] => rfl
 | [a, b] => rfl
 | [a] => rfl
 | [] => rfl
theorem ML {b : Bs} (h : (bU b).2.2.2 = 0) {m : Nat} (hm : (bU b).2.2.1 ≤ m) : bU (b.take m) = bU b := by
 have hp := mS h
 have hl5 : 5 ≤ b.length := by omega
 have hd : (b.take m).drop 5 = (b.drop 5).take (m - 5) := yQ ..
 have hb := sR 10 0 0 (b.drop 5) (by decide)
 have hl : (b.drop 5).length = b.length - 5 := eD
 have hlm : (b.take m).length = min m b.length := bX
 have ha := MJ 10 0 0 (b.drop 5) (m - 5)
 have hg32 := MK (b := b) (show 4 ≤ m by omega)
 have hg4 : (b.take m).getD 4 0 = b.getD 4 0 := by rw [dI, dI, qE (by omega)]
 unfold bU cX at *
 rw [hd, hg4, hg32, hlm]
 by_cases hu : (dA 10 0 0 (b.drop 5)).2.2 = 0
 ·have ha := ha hu
  generalize dA 10 0 0 (b.drop 5) = g at *
  dsimp only at *
  rw [aE (by omega)] at h hp hm
  rw [aE (by simpa using hu)] at h hp hm
  by_cases h4 : 2000 < g.1
  ·rw [aF h4] at h; cases h
  rw [aE h4] at h hp hm
  by_cases h5 : b.length - 5 - g.2.1 < g.1
  ·rw [aF h5] at h; cases h
  rw [aE h5] at h hp hm
  by_cases h6 : lM b ≠ jU (List.drop 4 (List.take (5 + g.2.1 + g.1) b))
  ·rw [aF h6] at h; cases h
  rw [aE h6] at h hp hm
  dsimp only at hm hp
  rw [ha (by omega)]
  rw [List.take_take, Bd hm, aE (show ¬ min m b.length < 5 by omega), aE (show ¬ b.length < 5 by omega), aE (show ¬ g.2.2 ≠ 0 by simpa using hu), aE (show ¬ g.2.2 ≠ 0 by simpa using hu), aE h4, aE h4, aE h5, aE (show ¬ min m b.length - 5 - g.2.1 < g.1 by omega)]
 exfalso
 dsimp only at h
 rw [aE (by omega), aF hu] at h
 exact hu h
theorem MM : ∀ (n : Nat) (b : Bs), b.length ≤ n → cM (b.take (cM b).2) = cM b := by
 intro n
 induction n with
 | zero =>
  intro b h
  obtain rfl : b = [] := Kc.1 (by omega)
  rw [List.take_nil]
 | succ n ih =>
  intro b h
  by_cases he : (bU b).2.2.2 = 0
  ·have hp := mS he
   have hdl : (b.drop (bU b).2.2.1).length = b.length - (bU b).2.2.1 := eD
   have := ih (b.drop (bU b).2.2.1) (by omega)
   rw [tX he]
   dsimp only
   have hg := ML he (m := (bU b).2.2.1 + (cM (b.drop (bU b).2.2.1)).2) (by omega)
   rw [tX (by rw [hg]; exact he), hg, yQ, Kd, this]
  rw [qI he, wQ, qI (by decide)]
def dB : List Bs → List Bs × Bool × List eE
 | [] => ([], false, [])
 | b :: r => if (cM b).2 = b.length then (b :: (dB r).1, (dB r).2.1, (cM b).1 ++ (dB r).2.2) else ([b.take (cM b).2], true, (cM b).1)
def Whole (ds : List Bs) (l : List eE) : Prop := dB ds = (ds, false, l)
theorem Ae {b : Bs} {r : List Bs} (h : (cM b).2 = b.length) : dB (b :: r) = (b :: (dB r).1, (dB r).2.1, (cM b).1 ++ (dB r).2.2) := by rw [dB, aF h]
theorem Ck {b : Bs} {r : List Bs} (h : (cM b).2 ≠ b.length) : dB (b :: r) = ([b.take (cM b).2], true, (cM b).1) := by rw [dB, aE h]
theorem Gb {b : Bs} {r : List Bs} {l : List eE} : Whole (b :: r) l ↔ (cM b).2 = b.length ∧ ∃ l', Whole r l' ∧ l = (cM b).1 ++ l' := by
 unfold Whole
 constructor
 ·intro h
  by_cases hb : (cM b).2 = b.length
  ·rw [Ae hb] at h
   obtain ⟨h1, h2⟩ := Prod.mk.inj h
   obtain ⟨h2, h3⟩ := Prod.mk.inj h2
   exact ⟨hb, _, Prod.ext (List.cons.inj h1).2 (Prod.ext h2 rfl), h3.symm⟩
  rw [Ck hb] at h
  cases (Prod.mk.inj (Prod.mk.inj h).2).1
 rintro ⟨hb, l', h, rfl⟩
 rw [Ae hb, h]
theorem MN {b : Bs} {l : List eE} : Whole [b] l ↔ (cM b).2 = b.length ∧ l = (cM b).1 := by
 rw [Gb]
 constructor
 ·rintro ⟨h, l', h2, rfl⟩
  obtain rfl : [] = l' := bM (fun z => z.2.2) h2
  exact ⟨h, sN _⟩
 rintro ⟨h, rfl⟩
 exact ⟨h, [], rfl, (sN _).symm⟩
theorem MO (ds : List Bs) : Whole (dB ds).1 (dB ds).2.2 := by
 induction ds with
 | nil => rfl
 | cons b r ih =>
  by_cases hb : (cM b).2 = b.length
  ·rw [Ae hb]
   exact Gb.2 ⟨hb, _, ih, rfl⟩
  rw [Ck hb]
  have := MM _ b (aQ _)
  have hle := rP b
  exact MN.2 ⟨by rw [this, bX]; omega, by rw [this]⟩
def mL (ds : List Bs) (b : Bs) : List Bs := match ds.getLast? with | none => [b] | some x => if 8192 < x.length + b.length then ds ++ [b] else ds.dropLast ++ [x ++ b]
theorem Gc (b : Bs) : mL [] b = [b] := rfl
theorem Af (ds : List Bs) (x b : Bs) : mL (ds ++ [x]) b = if 8192 < x.length + b.length then ds ++ [x] ++ [b] else ds ++ [x ++ b] := by
 unfold mL
 rw [List.getLast?_concat, List.dropLast_concat]
theorem Cl {α : Type} (l : List α) : l = [] ∨ ∃ a x, l = a ++ [x] := by
 rcases pO l with h | ⟨a, x, h⟩
 ·exact .inl h
 exact .inr ⟨a, x, by rw [h, oM]⟩
def gU (ds : List Bs) (l : List eE) : List Bs := l.foldl (fun ds x => mL ds (cC x.1 x.2)) ds
theorem Gd (ds : List Bs) (a b : List eE) : gU ds (a ++ b) = gU (gU ds a) b := by unfold gU; rw [AT]
theorem MP {ds : List Bs} (h : ∀ d ∈ ds, d.length ≤ 8192) {b : Bs} (hb : b.length ≤ 8192) : ∀ d ∈ mL ds b, d.length ≤ 8192 := by
 intro d hd
 rcases Cl ds with rfl | ⟨a, y, rfl⟩
 ·rw [Gc] at hd; rw [aM.1 hd]; exact hb
 rw [Af] at hd
 split at hd
 ·rcases bK.1 hd with q | q
  ·exact h d q
  rw [aM.1 q]; exact hb
 rcases bK.1 hd with q | q
 ·exact h d (by simp [q])
 rw [aM.1 q, bD]; omega
theorem MQ {l : List eE} (hl : ∀ x ∈ l, x.2.length ≤ 2000) : ∀ {ds : List Bs}, (∀ d ∈ ds, d.length ≤ 8192) → ∀ d ∈ gU ds l, d.length ≤ 8192 := by
 induction l with
 | nil => intro ds h; exact h
 | cons x l ih =>
  intro ds h
  have := Ek (k := x.1) (hl x (by simp))
  have hx := hl x (by simp)
  exact ih (fun y hy => hl y (iZ _ hy)) (MP h (by omega))
open Go.RowKit
theorem MR : ∀ n : Fin 10, (⟨#[48, 49, 50, 51, 52, 53, 54, 55, 56, 57, 97, 98, 99, 100, 101, 102, 103, 104, 105, 106, 107, 108, 109, 110, 111, 112, 113, 114, 115, 116, 117, 118, 119, 120, 121, 122]⟩ : ByteArray).extract n.val (n.val + 1) = ⟨((bW n.val).drop 4).toArray⟩ := by decide +kernel
theorem MS : ∀ n : Fin 100, 10 ≤ n.val → (⟨#[48, 48, 48, 49, 48, 50, 48, 51, 48, 52, 48, 53, 48, 54, 48, 55, 48, 56, 48, 57, 49, 48, 49, 49, 49, 50, 49, 51, 49, 52, 49, 53, 49, 54, 49, 55, 49, 56, 49, 57, 50, 48, 50, 49, 50, 50, 50, 51, 50, 52, 50, 53, 50, 54, 50, 55, 50, 56, 50, 57, 51, 48, 51, 49, 51, 50, 51, 51, 51, 52, 51, 53, 51, 54, 51, 55, 51, 56, 51, 57, 52, 48, 52, 49, 52, 50, 52, 51, 52, 52, 52, 53, 52, 54, 52, 55, 52, 56, 52, 57, 53, 48, 53, 49, 53, 50, 53, 51, 53, 52, 53, 53, 53, 54, 53, 55, 53, 56, 53, 57, 54, 48, 54, 49, 54, 50, 54, 51, 54, 52, 54, 53, 54, 54, 54, 55, 54, 56, 54, 57, 55, 48, 55, 49, 55, 50, 55, 51, 55, 52, 55, 53, 55, 54, 55, 55, 55, 56, 55, 57, 56, 48, 56, 49, 56, 50, 56, 51, 56, 52, 56, 53, 56, 54, 56, 55, 56, 56, 56, 57, 57, 48, 57, 49, 57, 50, 57, 51, 57, 52, 57, 53, 57, 54, 57, 55, 57, 56, 57, 57]⟩ : ByteArray).extract (2 * n.val) (2 * n.val + 2) = ⟨((bW n.val).drop 4).toArray⟩ := by decide +kernel
theorem MT : ∀ n : Fin 100, (⟨#[115, 101, 103, 46]⟩ : ByteArray) ++ ⟨((bW n.val).drop 4).toArray⟩ = eK n.val := by decide +kernel
theorem MU (w : World) (n : Nat) (hn : n < 100) : Calls Tryz.prog 185 #[.int .i64 n] w fun e w' => e = .returned (.string ⟨((bW n).drop 4).toArray⟩) ∧ w' = w := by
 go_in
 by_cases h : n < 10
 ·have h' : (n : Int) < 10 := by omega
  have hr := run_slice_string (P := Tryz.prog) w 9 ⟨#[48, 49, 50, 51, 52, 53, 54, 55, 56, 57, 97, 98, 99, 100, 101, 102, 103, 104, 105, 106, 107, 108, 109, 110, 111, 112, 113, 114, 115, 116, 117, 118, 119, 120, 121, 122]⟩ .i64 .i64 (n : Int) ((n : Int) + 1) Tryz.underlying9 (by omega) (by omega) (by show (n : Int) + 1 ≤ ((36 : Nat) : Int); omega)
  have h1 : ((n : Int) + 1).toNat = n + 1 := by omega
  rw [oP, h1, MR ⟨n, h⟩] at hr
  go_wp2_with fail
  go_ret
  exact ⟨rfl, rfl⟩
 have h' : ¬ (n : Int) < 10 := by omega
 have hr := run_slice_string (P := Tryz.prog) w 9 ⟨#[48, 48, 48, 49, 48, 50, 48, 51, 48, 52, 48, 53, 48, 54, 48, 55, 48, 56, 48, 57, 49, 48, 49, 49, 49, 50, 49, 51, 49, 52, 49, 53, 49, 54, 49, 55, 49, 56, 49, 57, 50, 48, 50, 49, 50, 50, 50, 51, 50, 52, 50, 53, 50, 54, 50, 55, 50, 56, 50, 57, 51, 48, 51, 49, 51, 50, 51, 51, 51, 52, 51, 53, 51, 54, 51, 55, 51, 56, 51, 57, 52, 48, 52, 49, 52, 50, 52, 51, 52, 52, 52, 53, 52, 54, 52, 55, 52, 56, 52, 57, 53, 48, 53, 49, 53, 50, 53, 51, 53, 52, 53, 53, 53, 54, 53, 55, 53, 56, 53, 57, 54, 48, 54, 49, 54, 50, 54, 51, 54, 52, 54, 53, 54, 54, 54, 55, 54, 56, 54, 57, 55, 48, 55, 49, 55, 50, 55, 51, 55, 52, 55, 53, 55, 54, 55, 55, 55, 56, 55, 57, 56, 48, 56, 49, 56, 50, 56, 51, 56, 52, 56, 53, 56, 54, 56, 55, 56, 56, 56, 57, 57, 48, 57, 49, 57, 50, 57, 51, 57, 52, 57, 53, 57, 54, 57, 55, 57, 56, 57, 57]⟩ .i64 .i64 ((n : Int) * 2) ((n : Int) * 2 + 2) Tryz.underlying9 (by omega) (by omega) (by show (n : Int) * 2 + 2 ≤ ((200 : Nat) : Int); omega)
 have h1 : ((n : Int) * 2).toNat = 2 * n := by omega
 have h2 : ((n : Int) * 2 + 2).toNat = 2 * n + 2 := by omega
 rw [h1, h2, MS ⟨n, hn⟩ (by show 10 ≤ n; omega)] at hr
 go_wp2_with fail
 go_ret
 exact ⟨rfl, rfl⟩
theorem MV (w : World) (n : Nat) (hn : n < 100) : Calls Tryz.prog 114 #[.int .i64 n] w fun e w' => e = .returned (.string ⟨((bW n).drop 4).toArray⟩) ∧ w' = w := by
 have hI : Calls Tryz.prog 152 #[.int .i64 n] w fun e w' => e = .returned (.string ⟨((bW n).drop 4).toArray⟩) ∧ w' = w := by
  have hF : Calls Tryz.prog 169 #[.int .i64 n, .int .i64 10] w fun e w' => e = .returned (.string ⟨((bW n).drop 4).toArray⟩) ∧ w' = w := by
   have hn' : (n : Int) < 100 := by omega
   have h0 : (0 : Int) ≤ (n : Int) := by omega
   go_in
   go_wp2_with fail
   refine (MU w n hn).mono ?_
   rintro r w' ⟨rfl, rfl⟩
   go_wp2_with fail
   go_ret
   exact ⟨rfl, rfl⟩
  go_in
  go_wp2_with fail
  refine hF.mono ?_
  rintro r w' ⟨rfl, rfl⟩
  go_wp2_with fail
  go_ret
  exact ⟨rfl, rfl⟩
 go_in
 go_wp2_with fail
 refine hI.mono ?_
 rintro r w' ⟨rfl, rfl⟩
 go_wp2_with fail
 go_ret
 exact ⟨rfl, rfl⟩
theorem xM (w : World) (n : Nat) (hn : n < 100) : Calls Tryz.prog 55 #[.int .i64 n] w fun e w' => e = .returned (.string (eK n)) ∧ w' = w := by
 have HD := aA (MT ⟨n, hn⟩)
 have hl : ¬ 9223372036854775807 < 4 + ((bW n).length - 4) := by have := wR n; omega
 go_in
 go_wp2_with fail
 refine (MV w n hn).mono ?_
 rintro r w' ⟨rfl, rfl⟩
 go_wp2_with fail
 go_ret
 exact ⟨bM (fun z => Ending.returned (.string z)) HD.out, rfl⟩
structure aO where
 k : UInt8
 dv : Value
 d : Bs
def aO.fr (x : aO) : eE := (x.k, x.d)
def tD (x : aO) : List Value := [.int .u8 x.k.toNat, x.dv]
theorem iH : fA tD 2 32 22 25 where
 len := fun _ => rfl
 pos := by omega
 und := Tryz.underlying22
 info := by
  obtain ⟨i, h, h1, h2, h3⟩ := kD (show (Tryz.prog.info? 25).map (fun i => (i.zero, i.size, i.bytes)) = some (some (.agg #[.int .u8 0, .slice none 0 0]), 2, 32) by kernel_rfl)
  exact ⟨i, _, h, h1, h2, h3, rfl⟩
theorem uK {w : World} {l : List aO} (h : ∀ x ∈ l, Rd w x.dv x.d) : ∀ x ∈ l, ∀ u ∈ tD x, u.oneCell' = true := by
 intro x hx u hu
 obtain ⟨a, c, e, -⟩ := (h x hx).slice
 simp only [tD, e, aJ, cA, cG] at hu
 rcases hu with rfl | rfl <;> rfl
abbrev qR (w : World) (base : Nat) (v : Value) (l : List aO) : Prop := aK tD 25 2 w base v l
abbrev cI (n : Nat) : List Value := [.int .i64 n]
theorem TI : fA cI 1 8 31 3 where
 len := fun _ => rfl
 pos := by omega
 und := Tryz.underlying31
 info := by
  obtain ⟨i, h, h1, h2, h3⟩ := kD (show (Tryz.prog.info? 3).map (fun i => (i.zero, i.size, i.bytes)) = some (some (.int .i64 0), 1, 8) by kernel_rfl)
  exact ⟨i, _, h, h1, h2, h3, rfl⟩
theorem Ag (l : List Nat) : ∀ x ∈ l, ∀ u ∈ cI x, u.oneCell' = true := by
 intro x _ u hu
 simp only [aJ, cA, cG] at hu
 subst hu; rfl
abbrev nE (w : World) (base : Nat) (v : Value) (l : List Nat) : Prop := aK cI 3 1 w base v l
theorem Ge (w : World) {v : Value} {l : List Nat} (h : eA cI 1 w v l) (hl : l.length ≤ 100000000) : Calls Tryz.prog 61 #[v] w fun e w' => ∃ v', e = .returned v' ∧ aK cI 3 1 w' w.heap.size v' l ∧ aB [] w w' := by
 obtain ⟨a, c, rfl, h1, h2, h3⟩ := h.slice
 have HL := aA h
 clear h
 rcases a with _ | ad
 ·obtain ⟨h4, rfl⟩ := h3 rfl
  obtain rfl := nT h4
  have hop : ∀ W, (binOp .eql 31 (.slice none 0 0) (.slice none 0 0)).run Tryz.prog W = .ok (.bool true) W := fun W => Lib.run_eql_slice_nil W _ _ _ _ _ _ _ TI.und
  go_in
  go_wp2_with fail
  go_ret
  exact ⟨_, rfl, aK.nil _ _, aB.refl _ _⟩
 have hop : ∀ W, (binOp .eql 31 (.slice (some ad) l.length c) (.slice none 0 0)).run Tryz.prog W = .ok (.bool false) W := fun W => Lib.run_eql_slice_nil W _ _ _ _ _ _ _ TI.und
 go_in
 go_wp2_with (at_builtin; refine fS TI rfl _ _ rfl (l := []) (base := w.heap.size) rfl (aK.empty TI (aX _ _) (aQ _)) rfl (iF.srcG TI (fun _ _ _ h => h) (HL.out.keep TI ((aB.refl [] w).alloc _)).sl) (Ag _) ?c1 ?c2 ?c3 ?_)
 case c1 => (first | omega | (simp; done) | (simp; omega))
 case c2 => (first | omega | (simp; done) | (simp; omega))
 case c3 => (first | omega | (simp; done) | (simp; omega))
 intro v2 w2 hown2 hg2 _
 have HU2 : Hid (aB [] w w2) := aA (((aB.refl [] w).alloc _).grown hg2 (fun g hg => by simp [Value.ownBlock] at hg; omega))
 clear hg2
 go_wp2_with fail
 go_ret
 exact ⟨_, rfl, by simpa using hown2, HU2.out⟩
theorem MW {fn : Func} {R : Ending → World → Prop} {a : Act} {W : World} {B : Nat} {k : Int} {v : Value} (hr : fn.results = #[.cell 2 25])
  (hs : a.tmps.getD 2 undef = .pointer (some ⟨B, 0, none⟩)) (z0 : W.cell? ⟨B, 0, none⟩ = some (.int .u8 k)) (z1 : W.cell? ⟨B, 1, none⟩ = some v) (hd : a.defers = []) (h : R (.returned (.agg #[.int .u8 k, v])) W) : bodyPost Tryz.prog fn R .ret a W := by
 refine rO (v := .agg #[.int .u8 k, v]) ?_ hd h
 have hs' := hs
 simp only [DO] at hs'
 simp [results, hr, hs', go_sem, z0, z1]
abbrev nH (k : UInt8) (v : Value) : Obj := .cells #[.int .u8 k.toNat, v] 25 (0, 0)
theorem MX {X : World} {B : Nat} {v v' x y : Value} (b : Nat) (hb : b < B) (h : X.cell? ⟨b, 0, none⟩ = some x ∧ X.cell? ⟨b, 1, none⟩ = some y) : ((X.setCell ⟨B, 0, none⟩ v).setCell ⟨B, 1, none⟩ v').cell? ⟨b, 0, none⟩ = some x ∧ ((X.setCell ⟨B, 0, none⟩ v).setCell ⟨B, 1, none⟩ v').cell? ⟨b, 1, none⟩ = some y := by
 constructor
 ·rw [World.cell?_setCell_far _ _ _ _ (fun e => by dsimp only at e; omega), World.cell?_setCell_far _ _ _ _ (fun e => by dsimp only at e; omega)]; exact h.1
 rw [World.cell?_setCell_far _ _ _ _ (fun e => by dsimp only at e; omega), World.cell?_setCell_far _ _ _ _ (fun e => by dsimp only at e; omega)]; exact h.2
theorem MY {w : World} {b : Nat} {o : Obj} (o' : Obj) (h : w.heap[b]? = some o) : (w.alloc o').heap[b]? = some o := (((aB.refl [] w).alloc o').block b (aH h) (by simp)).trans h
theorem Gf (w : World) (k : UInt8) {u : Value} {d : Bs} (hd : Rd w u d) (hd2 : d.length ≤ 100000000) :
  Calls Tryz.prog 63 #[.agg #[.int .u8 k.toNat, u]] w fun e w' => ∃ v', e = .returned (.agg #[.int .u8 k.toNat, v']) ∧ Ow w' w.heap.size v' d ∧ aB [] w w' := by
 obtain ⟨a, c, rfl, h1, h2, h3⟩ := hd.slice
 have HD := aA hd
 clear hd
 go_in
 go_upto_region 1 with (fail)
 have hb0 := MY (.cells #[.int .u8 0, .slice none 0 0] 25 (0, 0)) (aX w (nH k (.slice a d.length c)))
 have hb1 := aX (w.alloc (nH k (.slice a d.length c))) (.cells #[.int .u8 0, .slice none 0 0] 25 (0, 0))
 have hu : aB [] w ((w.alloc (nH k (.slice a d.length c))).alloc (.cells #[.int .u8 0, .slice none 0 0] 25 (0, 0))) := ((aB.refl [] w).alloc _).alloc _
 rw [gW] at hb1
 generalize (w.alloc (nH k (.slice a d.length c))).alloc (.cells #[.int .u8 0, .slice none 0 0] 25 (0, 0)) = W at *
 have HU := aA hu
 have HB := aA hb1
 have p0 := aD hb0 0
 have p1 := aD hb0 1
 simp only [bA, bB, bS] at p0 p1
 have HC := aA fun (V : World) (u : aB [] w V) => uG V (HD.out.keep u).g hd2
 clear hb0 hb1 hu
 go_region_held3 (fun w' => w'.cell? ⟨w.heap.size, 0, none⟩ = some (.int .u8 k.toNat) ∧ w'.cell? ⟨w.heap.size, 1, none⟩ = some (.slice a d.length c))
  (first
   | (with_reducible exact iT (aB.refl [] W).drew ⟨p0, p1⟩)
   | (with_reducible exact iT hv6 ⟨p0, p1⟩)
   | (with_reducible exact MX _ (DG _) (iT hv6 ⟨p0, p1⟩)))
  (first
   | (go_at_call 92; (with_reducible refine (HC.out _ ?_).mono ?_); (exact HU.out.drew); rintro e w6 ⟨v6, rfl, ho6, hu6⟩; obtain ⟨a6, c6, rfl⟩ := ho6.slice; have hv6 : aB [] W w6 := (aB.refl [] W).drew.trans hu6; have hB6 := (hv6.block _ (by exact aH HB.out) (by simp)).trans HB.out; have z0 := aD hB6 0; have z1 := aD hB6 1; have f0 := aZ hB6 0; have f1 := aZ hB6 1))
 go_wp2_with fail
 have hb3 := pV hB6 (.int .u8 k.toNat) (.slice a6 d.length c6)
 refine MW (v := .slice a6 d.length c6) rfl rfl (aD hb3 0) (aD hb3 1) rfl ⟨_, rfl, ?_, ?_⟩
 ·refine aK.base (a := W.heap.size) (ho6.upd (((aB.refl [w.heap.size + 1] w6).setCell (by simp) _ _).setCell (by simp) _ _) fun j hj q => ?_) HU.out.size
  have h1 := (ho6.block j q).1
  have h2 := aH HB.out
  rw [oY] at h1
  rw [aM] at hj
  omega
 exact ((HU.out.trans hv6).setCellNew (tQ _) _ _).setCellNew (tQ _) _ _
theorem MZ (w : World) {v : Value} {l : Bs} (h : Rd w v l) (h5 : l.length = 5) : Calls Tryz.prog 115 #[v] w fun e w' => nZ w.heap.size w' e (0, [], 0, 10) ∧ aB [] w w' := by
 obtain ⟨a, c, rfl, h1, h2, h3⟩ := h.slice
 rw [h5] at h1 h3 h ⊢
 obtain ⟨ad, rfl⟩ : ∃ ad, a = some ad := by
  cases a with
  | none => exact absurd (h3 rfl).1 (by omega)
  | some ad => exact ⟨ad, rfl⟩
 obtain ⟨-, -, -, hcell⟩ := h.cell
 obtain ⟨b, off, e, hc⟩ := hcell (by omega)
 cases e
 by_cases hc5 : c = 5
 ·subst hc5
  have HU : Hid (∀ V, aB [] w V → Calls Tryz.prog 130 #[.slice (some ⟨b, off, none⟩) 0 0] V fun e w' => e = .returned (.tuple #[.int .u64 (cX []).1, .int .i64 (cX []).2.1, .int .i64 (cX []).2.2]) ∧ w' = V) := aA fun V u => pC V (Rd.empty (by unfold maxLen; omega) (fun q => by cases q))
  clear hcell hc h
  go_in
  go_wp2_with fail
  refine (HU.out _ ((aB.refl [] w).alloc _)).mono ?_
  rintro r w1 ⟨rfl, rfl⟩
  have h1' : ¬ ((cX []).2.2 : Int) = 0 := by decide
  go_wp2_with fail
  exact lR Tryz.results115 rfl (aD (aX _ _) 0) (aD (aX _ _) 1) rfl ⟨⟨_, rfl, Rd.nil _, mZ _⟩, (aB.refl [] w).alloc _⟩
 have HU : Hid (∀ V, aB [] w V → Calls Tryz.prog 130 #[.slice (some ⟨b, off + 5, none⟩) 0 (c - 5)] V fun e w' => e = .returned (.tuple #[.int .u64 (cX []).1, .int .i64 (cX []).2.1, .int .i64 (cX []).2.2]) ∧ w' = V) := aA fun V u => pC V (Rd.empty (by unfold maxLen; omega) (fun q => by cases q))
 clear hcell hc h
 go_in
 go_wp2_with fail
 refine (HU.out _ ((aB.refl [] w).alloc _)).mono ?_
 rintro r w1 ⟨rfl, rfl⟩
 have h1' : ¬ ((cX []).2.2 : Int) = 0 := by decide
 go_wp2_with fail
 exact lR Tryz.results115 rfl (aD (aX _ _) 0) (aD (aX _ _) 1) rfl ⟨⟨_, rfl, Rd.nil _, mZ _⟩, (aB.refl [] w).alloc _⟩
theorem Gg {l : Bs} (h : l.length = 5) : bU l = (0, [], 0, 10) := by
 have hd : l.drop 5 = [] := Ke (by omega)
 unfold bU
 rw [aE (by omega), hd]
 rfl
theorem Na (w : World) {v : Value} {l : Bs} (h : Rd w v l) : Calls Tryz.prog 115 #[v] w fun e w' => nZ w.heap.size w' e (bU l) ∧ aB [] w w' := by
 by_cases h5 : l.length = 5
 ·rw [Gg h5]; exact MZ w h h5
 exact zN w h h5
theorem Nb (w : World) (v : Value) {u : Value} {d : Bs} (k : UInt8) (hd : Rd w u d) (hd2 : 2000 < d.length) :
  Calls Tryz.prog 62 #[v, .agg #[.int .u8 k.toNat, u]] w fun e w' => e = .returned (.tuple #[.slice none 0 0, .int .i64 12]) ∧ aB [] w w' := by
 obtain ⟨a, c, rfl, h1, h2, h3⟩ := hd.slice
 clear hd
 have hn : (2000 : Int) < (d.length : Int) := by omega
 go_in
 go_wp2_with fail
 go_ret2
 exact ⟨rfl, (aB.refl [] w).alloc _⟩
theorem sB {w w' : World} (u : aB [] w w') {b : Nat} {o : Obj} (h : w.heap[b]? = some o) : w'.heap[b]? = some o := (u.block b (aH h) (by simp)).trans h
end Go.Proofs.YtgpefiacbipfpaaGreatDoor
