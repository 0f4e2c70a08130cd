/- Slices of bytes, cut. -/
import Derived.BigQuiet
import Derived.Test.YtgpefiacbipfpaaGreatDoorC07
set_option maxRecDepth 100000
set_option maxHeartbeats 4000000
namespace Go.Proofs.YtgpefiacbipfpaaGreatDoor
open Go.RowKit Go.Maps
theorem Rd.empty {w : World} {a : Option Addr} {c : Nat} (hc : c ≤ maxLen) (hn : a = none → c = 0) : Rd w (.slice a 0 c) [] :=
 ⟨⟨a, c, rfl, dH _, hc, fun i hi => absurd hi (by simp)⟩, fun n c' e => by cases e; exact hn rfl⟩
theorem Rd.cut {w : World} {v : Value} {l : Bs} (h : Rd w v l) (i j : Nat) (hij : i ≤ j) (hj : j ≤ l.length) :
  ∃ a' c', (∀ W, (Instr.slice 23 v (some (.int .i64 i)) (some (.int .i64 j)) none).run Tryz.prog W = .ok (.slice a' (j - i) c') W) ∧
   (j = l.length → ∀ W, (Instr.slice 23 v (some (.int .i64 i)) none none).run Tryz.prog W = .ok (.slice a' (j - i) c') W) ∧
   (i = 0 → ∀ W, (Instr.slice 23 v none (some (.int .i64 j)) none).run Tryz.prog W = .ok (.slice a' (j - i) c') W) ∧
   Rd w (.slice a' (j - i) c') ((l.drop i).take (j - i)) ∧ ∀ g, (Value.slice a' (j - i) c').ownBlock = some g → v.ownBlock = some g := by
 obtain ⟨a, c, rfl, h1, h2, h3⟩ := h.slice
 have hcell := h.cell
 have hrun : ∀ W, (Instr.slice 23 (.slice a l.length c) (some (.int .i64 i)) (some (.int .i64 j)) none).run Tryz.prog W = .ok (.slice (if c = i then a else a.map (·.add (i * 1))) (j - i) (c - i)) W := fun W => by
  rw [Bi (w := W) 23 a l.length c rY .i64 .i64 _ _ (by omega) (by omega) (by omega), uH]
  simp only [Result.andThen, sliced, oP]
 have hrunT : j = l.length → ∀ W, (Instr.slice 23 (.slice a l.length c) (some (.int .i64 i)) none none).run Tryz.prog W = .ok (.slice (if c = i then a else a.map (·.add (i * 1))) (j - i) (c - i)) W := fun e W => by
  rw [run_slice_l (w := W) 23 a l.length c rY .i64 _ (by omega) (by omega), uH]
  simp only [Result.andThen, sliced, oP, e]
 have hrunH : i = 0 → ∀ W, (Instr.slice 23 (.slice a l.length c) none (some (.int .i64 j)) none).run Tryz.prog W = .ok (.slice (if c = i then a else a.map (·.add (i * 1))) (j - i) (c - i)) W := fun e W => by
  rw [run_slice_h (w := W) 23 a l.length c rY .i64 _ (by omega) (by omega), uH]
  simp only [Result.andThen, sliced, oP, e]
 refine ⟨_, _, hrun, hrunT, hrunH, ?_, ?_⟩
 ·by_cases hc : c = i
  ·rw [aF hc]
   have e1 : j - i = 0 := by omega
   rw [e1, wQ]
   exact Rd.empty (by have := hcell.2.2.1; omega) (fun e => by have := h3 e; omega)
  rw [aE hc]
  rcases Bb l.length with h0 | h0
  ·have e1 : j - i = 0 := by omega
   rw [e1, wQ]
   refine Rd.empty (by have := hcell.2.2.1; omega) (fun e => ?_)
   cases a with
   | none => have := h3 rfl; omega
   | some q => cases e
  obtain ⟨b, off, rfl, -⟩ := hcell.2.2.2 h0
  have := h.part i (j - i) (by omega) (c - i) (by omega) (by omega)
  simp only [Option.map, qN, jI]
  exact this
 intro g hg
 by_cases hc : c = i
 ·rw [aF hc] at hg; (cases a with | none => cases hg | some q => exact hg)
 rw [aE hc] at hg
 cases a with
 | none => cases hg
 | some q =>
  simp only [Value.ownBlock, Option.map] at hg ⊢
  rw [← hg]
  congr 1
  unfold Addr.add
  split <;> rfl
theorem sZ {w : World} {ops : Array Oper} {rest : List Oper} {o : Oper} {a : Act} {Q : Exit → Act → World → Prop} (hg : o.guard = none) (x y : Operand) (hop : o.op = Op.slice 23 x (some y) none none) {v : Value} {l : Bs} (hv : Rd w v l) {i : Nat} (hi : i ≤ l.length)
  (hx : a.eval x = v) (hy : a.eval y = .int .i64 i) (h : ∀ a' c' m, m = l.length - i → Rd w (.slice a' m c') (l.drop i) → (∀ g, (Value.slice a' m c').ownBlock = some g → v.ownBlock = some g) → wpList Tryz.prog ops Q rest (a.put o.dst (.slice a' m c')) w) : wpList Tryz.prog ops Q (o :: rest) a w := by
 obtain ⟨a', c', -, hrun, -, hr, hb⟩ := hv.cut i l.length hi (aQ _)
 refine sP hg fun K' hK' => ?_
 unfold Oper.wp
 simp only [execOp, hop, hx, hy, Option.map, qF, vB, qG, run_sliceAt_slice (P := Tryz.prog) (w := w) _ _ _ _ _ rY, hrun rfl]
 refine hK' _ _ (h a' c' _ rfl ?_ hb)
 rwa [dY (by rw [eD]; omega)] at hr
def rZ (w : World) (base : Nat) (vs : Array Value) (o : Option (Nat × Bs)) : Prop := ∃ (x : Int) (a : Option Addr) (m c : Nat), vs = #[.bool o.isSome, .int .i64 x, .slice a m c] ∧ (∀ n d, o = some (n, d) → x = IntKind.i64.wrap n ∧ Rd w (.slice a m c) d) ∧ ∀ g, (Value.slice a m c).ownBlock = some g → base ≤ g
def Mf (w : World) (p : Nat) (D : aI) (F : List Nat) (n : Nat) (r : Ending) (w' : World) : Prop :=
 ∃ (e : Nat) (D' : aI) (vs : Array Value), r = .returned (.tuple #[.agg vs, .int .i64 e]) ∧ bV [] D e D' ∧ bN w' p D' F ∧ aB [p] w w' ∧ (e = 0 → rZ w' w.heap.size vs (gH (D.blk n).view)) ∧ (e ≠ 0 → rZ w' w.heap.size vs none)
theorem xK {fn : Func} {R : Ending → World → Prop} {a : Act} {W : World} {B : Nat} {x y z : Value} (hr : fn.results = #[.cell 4 221, .tmp 5])
  (hs : a.tmps.getD 4 undef = .pointer (some ⟨B, 0, none⟩)) (z0 : W.cell? ⟨B, 0, none⟩ = some x) (z1 : W.cell? ⟨B, 1, none⟩ = some y) (z2 : W.cell? ⟨B, 2, none⟩ = some z) (hd : a.defers = []) (h : R (.returned (.tuple #[.agg #[x, y, z], a.tmps.getD 5 undef])) W) : bodyPost Tryz.prog fn R .ret a W := by
 refine rO (v := .tuple #[.agg #[x, y, z], a.tmps.getD 5 undef]) ?_ hd h
 have hs' := hs
 simp only [DO] at hs'
 simp [results, hr, hs', go_sem, z0, z1, z2]
theorem nB.rd {w : World} {base : Nat} {v : Value} {b : Bs} (h : nB w base v b) (hb : b.length = 512) : Rd w v b ∧ ∀ g, v.ownBlock = some g → base ≤ g := by
 obtain ⟨B, rfl, h1, h2⟩ := h
 refine ⟨⟨⟨some ⟨B, 0, none⟩, 512, by rw [hb], by rw [hb]; exact aQ _, by unfold maxLen; omega, fun i hi => ⟨B, 0, rfl, fun j u hu => ?_⟩⟩, fun n c e => by cases e⟩, fun g hg => by cases hg; exact h1⟩
 obtain rfl : j = 0 := by
  cases j with
  | zero => rfl
  | succ j => simp [c8] at hu
 have hu' : u = .int .u8 b[i].toNat := by simpa [c8] using hu.symm
 subst hu'
 have : w.cell? ⟨B, i, none⟩ = some (.int .u8 b[i].toNat) := by
  rw [aD h2, zO hb]
  simp [hi]
 simpa using this
theorem xL {W : World} {B : Nat} {x y z : Value} {ty : TypeId} (h : W.heap[B]? = some (.cells #[x, y, z] ty (0, 0))) (x' y' z' : Value) :
  (((W.setCell ⟨B, 0, none⟩ x').setCell ⟨B, 1, none⟩ y').setCell ⟨B, 2, none⟩ z').heap[B]? = some (.cells #[x', y', z'] ty (0, 0)) := by
 have e1 : (W.setCell ⟨B, 0, none⟩ x').heap[B]? = some (.cells #[x', y, z] ty (0, 0)) := by rw [bJ, aF rfl, h]; rfl
 have e2 : ((W.setCell ⟨B, 0, none⟩ x').setCell ⟨B, 1, none⟩ y').heap[B]? = some (.cells #[x', y', z] ty (0, 0)) := by rw [bJ, aF rfl, e1]; rfl
 rw [bJ, aF rfl, e2]; rfl
theorem sA {W : World} {B : Nat} (x' y' z' : Value) : aB [B] W (((W.setCell ⟨B, 0, none⟩ x').setCell ⟨B, 1, none⟩ y').setCell ⟨B, 2, none⟩ z') := (((aB.refl [B] W).setCell (by simp) _ _).setCell (by simp) _ _).setCell (by simp) _ _
theorem rZ.none (w : World) (base : Nat) : rZ w base #[.bool false, .int .i64 0, .slice yS 0 0] yS := ⟨0, yS, 0, 0, rfl, fun _ _ q => (nomatch q), fun _g q => (nomatch q)⟩
theorem Mg {x : UInt8} (h : x ≠ 115) : ¬ (x.toNat : Int) = 115 := fun q => h (UInt8.toNat_inj.1 (by rw [show (115 : UInt8).toNat = 115 from rfl]; omega))
theorem FK (w : World) {p : Nat} {D : aI} {F : List Nat} (h : bN w p D F) (n : Nat) (hn : n < D.n) (hwr : D.wr ≤ 137438953400) :
  Calls Tryz.prog 173 #[.pointer (some ⟨p, 0, none⟩), .int .i64 n] w (Mf w p D F n) := by
 have HD := aA h
 have hn2 := h.bounds.2
 have hvl : (D.blk n).view.length = 512 := h.sized.view n
 clear h
 go_in
 go_wp2_with fail
 have HU0 : Hid (aB [] w (w.alloc (.cells #[.bool false, .int .i64 0, .slice none 0 0] 221))) := aA ((aB.refl [] w).alloc _)
 have HB0 := aA (aX w (.cells #[.bool false, .int .i64 0, .slice none 0 0] 221))
 have hs0 : w.heap.size < (w.alloc (.cells #[.bool false, .int .i64 0, .slice none 0 0] 221)).heap.size := by simp
 generalize (w.alloc (.cells #[.bool false, .int .i64 0, .slice none 0 0] 221)) = w0 at *
 have hpB : p ≠ w.heap.size := fun q => by have := HD.out.lt p HD.out.p_mem; omega
 have HBF : Hid (∀ k ∈ F, k ≠ w.heap.size) := aA fun k hk q => by have := HD.out.lt k hk; omega
 have HRd := aA (xJ w0 (HD.out.upd HU0.out (by simp)) n hn (by omega))
 refine HRd.out.mono ?_
 rintro r w1 ⟨e, D1, v, rfl, hE, hD1, hU1, hv, hv'⟩
 have hB1 := (hU1.block w.heap.size hs0 (by simp; exact fun q => hpB q.symm)).trans HB0.out
 have HB1 := aA hB1
 have q0 := aZ hB1 0
 have q1 := aZ hB1 1
 have q2 := aZ hB1 2
 have z0 := aD hB1 0
 have z1 := aD hB1 1
 have z2 := aD hB1 2
 simp only [bA, bB, bS] at z0 z1 z2
 have H1 := aA (aC hE (aC hD1 ((HU0.out.mono (G := [p]) (by simp)).trans hU1)))
 have hs1 := hU1.size
 clear hB1 hE hD1 hU1 HRd HB0
 by_cases he : e = 0
 ·subst he
  obtain ⟨hr1, hr2⟩ := (hv rfl).rd hvl
  obtain ⟨B, hv1, hB, -⟩ := hv rfl
  subst hv1
  have HF := aA (zN w1 hr1 (by omega))
  clear hv hv' hr1 hr2 z0 z1 z2 q0 q1 q2
  go_wp2_with fail
  refine HF.out.mono ?_
  rintro r w2 ⟨⟨v', rfl, hr, hn'⟩, hU2⟩
  have hB2 := (hU2.block w.heap.size (by omega) (by simp)).trans HB1.out
  have HB2 := aA hB2
  have HS : Hid (gH (D.blk n).view = if (bU (D.blk n).view).2.2.2 ≠ 0 ∨ (bU (D.blk n).view).1 ≠ 115 then none else if (cX (bU (D.blk n).view).2.1).2.2 ≠ 0 then none else some ((cX (bU (D.blk n).view).2.1).1, (bU (D.blk n).view).2.1.drop (cX (bU (D.blk n).view).2.1).2.1)) := aA rfl
  generalize bU (D.blk n).view = g at *
  obtain ⟨x, d, k, e⟩ := g
  dsimp only at hr hn' HS ⊢
  obtain ⟨a', c', m', hm', hmc, hc63, rfl⟩ := hr.sliceM
  have HR := aA hr
  have HN := aA hn'
  have H2 := aA hU2
  have hs2 := hU2.size
  have hB2' := fun X : Obj => (((aB.refl [] w2).alloc X).block w.heap.size (aH hB2) (by simp)).trans hB2
  have q0 := fun X : Obj => aZ (hB2' X) 0
  have q1 := fun X : Obj => aZ (hB2' X) 1
  have q2 := fun X : Obj => aZ (hB2' X) 2
  have z0 := fun X : Obj => aD (hB2' X) 0
  have z1 := fun X : Obj => aD (hB2' X) 1
  have z2 := fun X : Obj => aD (hB2' X) 2
  simp only [bA, bB, bS] at z0 z1 z2
  clear hB2'
  clear hr hn' hU2 hB2 HF hm' HB1
  by_cases he : e = 0
  ·subst he
   by_cases hx : x = 115
   ·subst hx
    have hgb : (cX d).1 < 2 ^ 64 ∧ (cX d).2.1 ≤ d.length := by
     have h := sR 10 0 0 d (by decide)
     refine ⟨h.1, ?_⟩
     show (dA 10 0 0 d).2.1 ≤ _
     by_cases q : (dA 10 0 0 d).2.2 = 0
     ·have := h.2.1 q; omega
     have := (h.2.2.1 q).2; omega
    have HUi := aA fun X : Obj => pC (w2.alloc X) (HR.out.keep ((aB.refl [] w2).alloc X))
    generalize cX d = gu at *
    obtain ⟨u, k2, e3⟩ := gu
    dsimp only at hgb HS HUi
    obtain ⟨hu64, hk2⟩ := hgb
    clear q0 q1 q2 z0 z1 z2
    by_cases he3 : e3 = 0
    ·subst he3
     go_wp2_with fail
     generalize hW3 : w2.alloc _ = w3
     have hu3 : aB [] w2 w3 := by rw [← hW3]; exact (aB.refl [] w2).alloc _
     have hX : w3.heap[w2.heap.size]? = some (.cells #[.int .u8 115, .slice a' m' c'] 25) := by rw [← hW3]; exact aX _ _
     have hB3 := (hu3.block w.heap.size (aH HB2.out) (by simp)).trans HB2.out
     have HUj := HUi.out (.cells #[.int .u8 115, .slice a' m' c'] 25)
     rewrite [hW3] at HUj
     have q0 := aZ hB3 0
     have q1 := aZ hB3 1
     have q2 := aZ hB3 2
     have z0 := aD hB3 0
     have z1 := aD hB3 1
     have z2 := aD hB3 2
     have y1 := aD hX 1
     simp only [bA, bB, bS] at z0 z1 z2 y1
     have HR3 := aA (HR.out.keep hu3)
     have HB3 := aA hB3
     have H3 := aA (H2.out.trans hu3)
     clear hX hB3 hu3 hW3 HUi
     refine HUj.mono ?_
     rintro r w4 ⟨rfl, rfl⟩
     clear HUj
     go_wp2_with (first
      | (refine sZ rfl _ _ rfl HR3.out hk2 rfl rfl ?_; intro a8 c8 m8 hm8 hr8 hb8; have HR8 := aA hr8; have HB8 := aA hb8; clear hm8 hr8 hb8)
      | fail)
     have hb3 := xL HB3.out (.bool true) (.int .i64 (wrap64 (u : Int))) (.slice a8 m8 c8)
     have hu3 := (H3.out.mono (G := [w.heap.size]) (by simp)).trans (sA (W := w4) (B := w.heap.size) (.bool true) (.int .i64 (wrap64 (u : Int))) (.slice a8 m8 c8))
     have hr9 := HR8.out.upd (sA (W := w4) (B := w.heap.size) (.bool true) (.int .i64 (wrap64 (u : Int))) (.slice a8 m8 c8)) (fun g hg => by have := HN.out g (HB8.out g hg); simp; omega)
     generalize ((w4.setCell _ _).setCell _ _).setCell _ _ = w5 at *
     refine xK Tryz.results173 rfl (aD hb3 0) (aD hb3 1) (aD hb3 2) rfl ⟨0, D1, _, rfl, H1.out.1, H1.out.2.1.upd hu3 (fun k hk => by simp; exact HBF.out k hk), ?_, fun _ => ?_, fun q => absurd rfl q⟩
     ·exact H1.out.2.2.next hu3 fun k hk hlt => by simp at hk; omega
     rw [HS.out, aE (by simp), aE (by simp)]
     refine ⟨_, _, _, _, rfl, fun n' d' q => by cases q; exact ⟨(IntWalk.i64_left _).symm, hr9⟩, fun g hg => bG (bG (tV hs0) hs1) (HN.out g (HB8.out g hg))⟩
    have he3' : ¬ (e3 : Int) = 0 := by omega
    have he3b : ((e3 : Int) == 0) = false := beq_eq_false_iff_ne.2 he3'
    go_wp2_with fail
    generalize hW3 : w2.alloc _ = w3
    have hu3 : aB [] w2 w3 := by rw [← hW3]; exact (aB.refl [] w2).alloc _
    have hX : w3.heap[w2.heap.size]? = some (.cells #[.int .u8 115, .slice a' m' c'] 25) := by rw [← hW3]; exact aX _ _
    have hB3 := (hu3.block w.heap.size (aH HB2.out) (by simp)).trans HB2.out
    have HUj := HUi.out (.cells #[.int .u8 115, .slice a' m' c'] 25)
    rewrite [hW3] at HUj
    have q0 := aZ hB3 0
    have q1 := aZ hB3 1
    have q2 := aZ hB3 2
    have z0 := aD hB3 0
    have z1 := aD hB3 1
    have z2 := aD hB3 2
    have y1 := aD hX 1
    simp only [bA, bB, bS] at z0 z1 z2 y1
    have HR3 := aA (HR.out.keep hu3)
    have HB3 := aA hB3
    have H3 := aA (H2.out.trans hu3)
    clear hX hB3 hu3 hW3 HUi
    refine HUj.mono ?_
    rintro r w4 ⟨rfl, rfl⟩
    clear HUj
    go_wp2_with (first
     | (refine sZ rfl _ _ rfl HR3.out hk2 rfl rfl ?_; intro a8 c8 m8 hm8 hr8 hb8; have HR8 := aA hr8; have HB8 := aA hb8; clear hm8 hr8 hb8)
     | fail)
    have hb3 := xL HB3.out (.bool false) (.int .i64 (wrap64 (u : Int))) (.slice a8 m8 c8)
    have hu3 := (H3.out.mono (G := [w.heap.size]) (by simp)).trans (sA (W := w4) (B := w.heap.size) (.bool false) (.int .i64 (wrap64 (u : Int))) (.slice a8 m8 c8))
    generalize ((w4.setCell _ _).setCell _ _).setCell _ _ = w5 at *
    refine xK Tryz.results173 rfl (aD hb3 0) (aD hb3 1) (aD hb3 2) rfl ⟨0, D1, _, rfl, H1.out.1, H1.out.2.1.upd hu3 (fun k hk => by simp; exact HBF.out k hk), ?_, fun _ => ?_, fun q => absurd rfl q⟩
    ·exact H1.out.2.2.next hu3 fun k hk hlt => by simp at hk; omega
    rw [HS.out, aE (by simp), aF he3]
    refine ⟨_, _, _, _, rfl, fun n' d' q => (nomatch q), fun g hg => bG (bG (tV hs0) hs1) (HN.out g (HB8.out g hg))⟩
   have hx' : ¬ (x.toNat : Int) = 115 := Mg hx
   go_wp2_with fail
   have hb3 := fun X : Obj => xL ((((aB.refl [] w2).alloc X).block w.heap.size (aH HB2.out) (by simp)).trans HB2.out) (.bool false) (.int .i64 0) (.slice none 0 0)
   have hu3 := fun X : Obj => ((H2.out.mono (G := [w.heap.size]) (by simp)).alloc X).trans (sA (W := w2.alloc X) (B := w.heap.size) (.bool false) (.int .i64 0) (.slice none 0 0))
   refine xK Tryz.results173 rfl (aD (hb3 _) 0) (aD (hb3 _) 1) (aD (hb3 _) 2) rfl ⟨0, D1, _, rfl, H1.out.1, H1.out.2.1.upd (hu3 _) (fun k hk => by simp; exact HBF.out k hk), ?_, fun _ => ?_, fun q => absurd rfl q⟩
   ·exact H1.out.2.2.next (hu3 _) fun k hk hlt => by simp at hk; omega
   rw [HS.out, aF (.inr hx)]; exact rZ.none _ _
  have he' : ¬ (e : Int) = 0 := by omega
  go_wp2_with fail
  have hb3 := fun X : Obj => xL ((((aB.refl [] w2).alloc X).block w.heap.size (aH HB2.out) (by simp)).trans HB2.out) (.bool false) (.int .i64 0) (.slice none 0 0)
  have hu3 := fun X : Obj => ((H2.out.mono (G := [w.heap.size]) (by simp)).alloc X).trans (sA (W := w2.alloc X) (B := w.heap.size) (.bool false) (.int .i64 0) (.slice none 0 0))
  refine xK Tryz.results173 rfl (aD (hb3 _) 0) (aD (hb3 _) 1) (aD (hb3 _) 2) rfl ⟨0, D1, _, rfl, H1.out.1, H1.out.2.1.upd (hu3 _) (fun k hk => by simp; exact HBF.out k hk), ?_, fun _ => ?_, fun q => absurd rfl q⟩
  ·exact H1.out.2.2.next (hu3 _) fun k hk hlt => by simp at hk; omega
  rw [HS.out, aF (.inl he)]; exact rZ.none _ _
 have he' : ¬ (e : Int) = 0 := by omega
 obtain rfl := hv' he
 go_wp2_with fail
 have hb3 := xL HB1.out (.bool false) (.int .i64 0) (.slice none 0 0)
 have hu3 := sA (W := w1) (B := w.heap.size) (.bool false) (.int .i64 0) (.slice none 0 0)
 refine xK Tryz.results173 rfl (aD hb3 0) (aD hb3 1) (aD hb3 2) rfl ⟨e, D1, _, rfl, H1.out.1, H1.out.2.1.upd hu3 (fun k hk => by simp; exact HBF.out k hk), ?_, fun q => absurd q he, fun _ => rZ.none _ _⟩
 exact H1.out.2.2.next hu3 fun k hk hlt => by simp at hk; omega
def tA (b : Bool) (nv ci cj : Int) : Bool := b && (decide (nv < 0) || decide (cj < ci))
theorem Mh (w : World) {S N : Nat} {b : Bool} (h0 : w.cell? ⟨S, 0, none⟩ = some (.bool b)) (hn : w.cell? ⟨N, 0, none⟩ = some (.int .i64 (-1))) :
  Calls Tryz.prog 172 #[.int .i64 0, .pointer (some ⟨S, 0, none⟩), .pointer (some ⟨N, 0, none⟩)] w fun e w' => e = .returned (.bool b) ∧ w'.Alike w := by
 cases b with
 | true =>
  go_in
  go_wp2_with fail
  go_quiet (fail)
  go_wp2_with fail
  go_ret
  exact ⟨rfl, by first | exact uE _ | exact sV _⟩
 | false =>
  go_in
  go_wp2_with fail
  go_quiet (fail)
  go_wp2_with fail
  go_ret
  exact ⟨rfl, by first | exact uE _ | exact sV _⟩
theorem Mi (w : World) {S N : Nat} {b : Bool} {nv c0 c1 : Int} (h0 : w.cell? ⟨S, 3, none⟩ = some (.bool b)) (h1 : w.cell? ⟨S, 1, none⟩ = some (.int .i64 c0)) (h4 : w.cell? ⟨S, 4, none⟩ = some (.int .i64 c1)) (hn : w.cell? ⟨N, 0, none⟩ = some (.int .i64 nv)) (hv : nv = -1 ∨ nv = 0) :
  Calls Tryz.prog 172 #[.int .i64 1, .pointer (some ⟨S, 0, none⟩), .pointer (some ⟨N, 0, none⟩)] w fun e w' => e = .returned (.bool (tA b nv c1 c0)) ∧ w'.Alike w := by
 cases b with
 | true =>
  rcases hv with rfl | rfl
  ·go_in
   go_wp2_with fail
   go_quiet (fail)
   go_wp2_with fail
   go_ret
   exact ⟨rfl, by first | exact uE _ | exact sV _⟩
  go_in
  go_wp2_with fail
  go_quiet (fail)
  go_wp2_with fail
  go_ret
  exact ⟨by simp [tA], by first | exact uE _ | exact sV _⟩
 | false =>
  go_in
  go_wp2_with fail
  go_quiet (fail)
  go_wp2_with fail
  go_ret
  exact ⟨rfl, by first | exact uE _ | exact sV _⟩
abbrev z3 : List Value := [.bool false, .int .i64 0, .slice none 0 0]
abbrev kF (l : List Value) : Obj := .cells l.toArray 222 (0, 0)
structure oA (w : World) (base : Nat) (l : List Value) (b : Bool) (x : Int) (o : Option (Nat × Bs)) : Prop where
 is : ∃ a m c, l = [.bool b, .int .i64 x, .slice a m c] ∧ (∀ n d, o = some (n, d) → x = IntKind.i64.wrap n ∧ Rd w (.slice a m c) d) ∧ ∀ g, (Value.slice a m c).ownBlock = some g → base ≤ g
 some : b = o.isSome
theorem oA.upd {w w' : World} {base : Nat} {l : List Value} {b : Bool} {x : Int} {o : Option (Nat × Bs)} (h : oA w base l b x o) {G : List Nat} (u : aB G w w') (hG : ∀ k ∈ G, k < base) : oA w' base l b x o := by
 obtain ⟨⟨a, m, c, h1, h2, h3⟩, h4⟩ := h
 exact ⟨⟨a, m, c, h1, fun n d e => ⟨(h2 n d e).1, (h2 n d e).2.upd u fun g hg q => by have := h3 g hg; have := hG g q; omega⟩, h3⟩, h4⟩
theorem oA.base {w : World} {base base' : Nat} {l : List Value} {b : Bool} {x : Int} {o : Option (Nat × Bs)} (h : oA w base l b x o) (hb : base' ≤ base) : oA w base' l b x o := by
 obtain ⟨⟨a, m, c, h1, h2, h3⟩, h4⟩ := h
 exact ⟨⟨a, m, c, h1, h2, fun g hg => bG hb (h3 g hg)⟩, h4⟩
theorem Ce {W : World} {B : Nat} {a0 a1 a2 a3 a4 a5 : Value} {ty : TypeId} (h : W.heap[B]? = some (.cells #[a0, a1, a2, a3, a4, a5] ty (0, 0))) (x0 x1 x2 x3 x4 x5 : Value) :
  ((((((W.setCell ⟨B, 0, none⟩ x0).setCell ⟨B, 1, none⟩ x1).setCell ⟨B, 2, none⟩ x2).setCell ⟨B, 3, none⟩ x3).setCell ⟨B, 4, none⟩ x4).setCell ⟨B, 5, none⟩ x5).heap[B]? = some (.cells #[x0, x1, x2, x3, x4, x5] ty (0, 0)) := by
 rw [bJ, aF rfl, bJ, aF rfl, bJ, aF rfl, bJ, aF rfl, bJ, aF rfl, bJ, aF rfl, h]
 rfl
theorem Mj {W : World} {B : Nat} {a0 a1 a2 a3 a4 a5 : Value} {ty : TypeId} (h : W.heap[B]? = some (.cells #[a0, a1, a2, a3, a4, a5] ty (0, 0))) (x0 x1 x2 x3 x4 x5 : Value) :
  ((((((W.setCell ⟨B, 0, none⟩ x0).setCell ⟨B, 1, none⟩ x1).setCell ⟨B, 2, none⟩ x2).setCell ⟨B, 3, none⟩ x3).setCell ⟨B, 4, none⟩ x4).setCell ⟨B, 5, none⟩ x5).drew.heap[B]? = some (.cells #[x0, x1, x2, x3, x4, x5] ty (0, 0)) := by
 rw [oY]
 exact Ce h x0 x1 x2 x3 x4 x5
theorem Cf {W : World} {B : Nat} (x0 x1 x2 x3 x4 x5 : Value) : aB [B] W ((((((W.setCell ⟨B, 0, none⟩ x0).setCell ⟨B, 1, none⟩ x1).setCell ⟨B, 2, none⟩ x2).setCell ⟨B, 3, none⟩ x3).setCell ⟨B, 4, none⟩ x4).setCell ⟨B, 5, none⟩ x5) :=
 ((((((aB.refl [B] W).setCell (by simp) _ _).setCell (by simp) _ _).setCell (by simp) _ _).setCell (by simp) _ _).setCell (by simp) _ _).setCell (by simp) _ _
theorem Mk {W : World} {B : Nat} {a0 a1 a2 a3 a4 a5 : Value} {ty : TypeId} (h : W.heap[B]? = some (.cells #[a0, a1, a2, a3, a4, a5] ty (0, 0))) (x0 x1 x2 : Value) :
  (((W.setCell ⟨B, 0, none⟩ x0).setCell ⟨B, 1, none⟩ x1).setCell ⟨B, 2, none⟩ x2).heap[B]? = some (.cells #[x0, x1, x2, a3, a4, a5] ty (0, 0)) := by
 rw [bJ, aF rfl, bJ, aF rfl, bJ, aF rfl, h]
 rfl
theorem Ml {W : World} {B : Nat} {a0 a1 a2 a3 a4 a5 : Value} {ty : TypeId} (h : W.heap[B]? = some (.cells #[a0, a1, a2, a3, a4, a5] ty (0, 0))) (x0 x1 x2 : Value) :
  (((W.setCell ⟨B, 3, none⟩ x0).setCell ⟨B, 4, none⟩ x1).setCell ⟨B, 5, none⟩ x2).heap[B]? = some (.cells #[a0, a1, a2, x0, x1, x2] ty (0, 0)) := by
 rw [bJ, aF rfl, bJ, aF rfl, bJ, aF rfl, h]
 rfl
theorem Cg {W : World} {B : Nat} (x' y' z' : Value) : aB [B] W (((W.setCell ⟨B, 3, none⟩ x').setCell ⟨B, 4, none⟩ y').setCell ⟨B, 5, none⟩ z') := (((aB.refl [B] W).setCell (by simp) _ _).setCell (by simp) _ _).setCell (by simp) _ _
theorem FN {w : World} {base base' : Nat} {vs : Array Value} {o : Option (Nat × Bs)} {e : Nat} (h : e = 0 → rZ w base vs o) (h' : e ≠ 0 → rZ w base vs none) (hb : base' ≤ base) :
  ∃ b x a m c, vs = #[.bool b, .int .i64 x, .slice a m c] ∧ (e = 0 → oA w base' [.bool b, .int .i64 x, .slice a m c] b x o) := by
 by_cases he : e = 0
 ·obtain ⟨x, a, m, c, h1, h2, h3⟩ := h he
  exact ⟨_, x, a, m, c, h1, fun _ => ⟨⟨a, m, c, rfl, h2, fun g hg => bG hb (h3 g hg)⟩, rfl⟩⟩
 obtain ⟨x, a, m, c, h1, h2, h3⟩ := h' he
 exact ⟨_, x, a, m, c, h1, fun q => absurd q he⟩
theorem Ch {fn : Func} {R : Ending → World → Prop} {a : Act} {W : World} {B : Nat} {x0 x1 x2 x3 x4 x5 : Value} {ty : TypeId} (hr : fn.results = #[.cell 4 222, .tmp 5, .tmp 6])
  (hs : a.tmps.getD 4 undef = .pointer (some ⟨B, 0, none⟩)) (hb : W.heap[B]? = some (.cells #[x0, x1, x2, x3, x4, x5] ty (0, 0))) (hd : a.defers = []) (h : R (.returned (.tuple #[.agg #[x0, x1, x2, x3, x4, x5], a.tmps.getD 5 undef, a.tmps.getD 6 undef])) W) : bodyPost Tryz.prog fn R .ret a W := by
 refine rO (v := .tuple #[.agg #[x0, x1, x2, x3, x4, x5], a.tmps.getD 5 undef, a.tmps.getD 6 undef]) ?_ hd h
 have z0 := aD hb 0
 have z1 := aD hb 1
 have z2 := aD hb 2
 have z3 := aD hb 3
 have z4 := aD hb 4
 have z5 := aD hb 5
 have hs' := hs
 simp only [DO] at hs'
 simp only [bA, bB, bS] at z0 z1 z2 z3 z4 z5
 simp [results, hr, hs', go_sem, z0, z1, z2, z3, z4, z5]
def Mm (w : World) (p : Nat) (D : aI) (F : List Nat) (r : Ending) (w' : World) : Prop :=
 ∃ (e : Nat) (D' : aI) (b0 : Bool) (x0 : Int) (v0 : Value) (b1 : Bool) (x1 : Int) (v1 : Value) (nw : Int), r = .returned (.tuple #[.agg #[.bool b0, .int .i64 x0, v0, .bool b1, .int .i64 x1, v1], .int .i64 nw, .int .i64 e]) ∧ bV [] D e D' ∧ bN w' p D' F ∧ aB [p] w w' ∧ (∃ a m c, v0 = .slice a m c) ∧ (∃ a m c, v1 = .slice a m c) ∧
  (e = 0 → oA w' w.heap.size [.bool b0, .int .i64 x0, v0] b0 x0 (gH (D.blk 0).view) ∧ oA w' w.heap.size [.bool b1, .int .i64 x1, v1] b1 x1 (gH (D.blk 1).view) ∧ nw = if tA b1 (if b0 then 0 else -1) x1 x0 then 1 else if b0 then 0 else -1)
theorem FO (w : World) {p : Nat} {D : aI} {F : List Nat} (h : bN w p D F) (hwr : D.wr ≤ 137438953300) :
  Calls Tryz.prog 163 #[.pointer (some ⟨p, 0, none⟩), .int .i64 0] w (Mm w p D F) := by
 have HD := aA h
 have hb := h.bounds
 clear h
 go_in
 go_wp2_with fail
 have HU0 : Hid (aB [] w (((w.alloc (kF (z3 ++ z3))).alloc (kF (z3 ++ z3))).alloc (.cells #[.int .i64 (-1)] 3))) := aA ((((aB.refl [] w).alloc _).alloc _).alloc _)
 have HB0 : Hid ((((w.alloc (kF (z3 ++ z3))).alloc (kF (z3 ++ z3))).alloc (.cells #[.int .i64 (-1)] 3)).heap[w.heap.size + 1]? = some (kF (z3 ++ z3)) ∧ (((w.alloc (kF (z3 ++ z3))).alloc (kF (z3 ++ z3))).alloc (.cells #[.int .i64 (-1)] 3)).heap[w.heap.size + 1 + 1]? = some (.cells #[.int .i64 (-1)] 3 (0, 0)) ∧ (((w.alloc (kF (z3 ++ z3))).alloc (kF (z3 ++ z3))).alloc (.cells #[.int .i64 (-1)] 3)).heap[w.heap.size]? = some (kF (z3 ++ z3))) :=
  aA ⟨by rw [heap_alloc, aE (by simp), heap_alloc, aF (by simp)], by rw [heap_alloc, aF (by simp)], by rw [heap_alloc, aE (by simp; omega), heap_alloc, aE (by simp), heap_alloc, aF rfl]⟩
 have hs0 : w.heap.size + 3 ≤ (((w.alloc (kF (z3 ++ z3))).alloc (kF (z3 ++ z3))).alloc (.cells #[.int .i64 (-1)] 3)).heap.size := by simp
 change Code.wp _ _ _ _ (((w.alloc (kF (z3 ++ z3))).alloc (kF (z3 ++ z3))).alloc (.cells #[.int .i64 (-1)] 3))
 generalize (((w.alloc (kF (z3 ++ z3))).alloc (kF (z3 ++ z3))).alloc (.cells #[.int .i64 (-1)] 3)) = W0 at *
 have hpl := HD.out.lt p HD.out.p_mem
 have HFl := aA HD.out.lt
 go_loopg [14] 2 (fun k v wr => ∃ (i : Nat) (D1 : aI) (l0 l1 : List Value) (b0 : Bool) (x0 : Int) (b1 : Bool) (x1 nv : Int), v = .int .i64 i ∧ i ≤ 2 ∧ k = 2 - i ∧ Hid (((i = 0 ∧ D1 = D) ∨ (0 < i ∧ bV [] D 0 D1)) ∧ bN wr p D1 F ∧ aB [p] w wr) ∧
  Hid (wr.heap[w.heap.size + 1]? = some (kF (l0 ++ l1)) ∧ wr.heap[w.heap.size + 1 + 1]? = some (.cells #[.int .i64 nv] 3 (0, 0)) ∧ wr.heap[w.heap.size]? = some (kF (z3 ++ z3)) ∧ w.heap.size + 3 ≤ wr.heap.size) ∧
  Hid (i = 0 → l0 = z3 ∧ l1 = z3 ∧ nv = -1) ∧ Hid (0 < i → oA wr (w.heap.size + 3) l0 b0 x0 (gH (D.blk 0).view)) ∧ Hid (i = 1 → l1 = z3 ∧ nv = if b0 then 0 else -1) ∧ Hid (i = 2 → oA wr (w.heap.size + 3) l1 b1 x1 (gH (D.blk 1).view) ∧ nv = if tA b1 (if b0 then 0 else -1) x1 x0 then 1 else if b0 then 0 else -1))
 case atStart =>
  exact ⟨0, D, z3, z3, false, 0, false, 0, -1, rfl, by omega, rfl, aA ⟨.inl ⟨rfl, rfl⟩, HD.out.upd HU0.out (by simp), HU0.out.mono (by simp)⟩, aA ⟨HB0.out.1, HB0.out.2.1, HB0.out.2.2, hs0⟩, aA fun _ => ⟨rfl, rfl, rfl⟩, aA fun q => by omega, aA fun q => by omega, aA fun q => by omega⟩
 case round =>
  obtain ⟨i, D1, l0, l1, b0, x0, b1, x1, nv, rfl, hi, rfl, H1, H2, H3, H4, H5, H6⟩ := hrel
  clear HB0 HU0 hs0
  have hi3 : i = 0 ∨ i = 1 ∨ i = 2 := by omega
  rcases hi3 with rfl | rfl | rfl
  ·obtain ⟨rfl, rfl, rfl⟩ := H3.out rfl
   have hDD : D1 = D := H1.out.1.elim (fun q => q.2) fun q => by omega
   subst hDD
   have hsz := H2.out.2.2.2
   have HRd := aA (FK wr H1.out.2.1 0 (by omega) (by omega))
   go_wp2_with fail
   refine HRd.out.mono ?_
   rintro r w2 ⟨e, D2, vs, rfl, hE, hD2, hU2, hs, hs'⟩
   obtain ⟨b, x, a, m, c, rfl, hsl⟩ := FN hs hs' hsz
   have hpk : ∀ k, w.heap.size ≤ k → k < wr.heap.size → k ∉ [p] := fun k h1 _ => by simp; omega
   have hS := (hU2.block (w.heap.size + 1) (by omega) (hpk _ (by omega) (by omega))).trans H2.out.1
   have hN := (hU2.block (w.heap.size + 1 + 1) (by omega) (hpk _ (by omega) (by omega))).trans H2.out.2.1
   have hR := (hU2.block w.heap.size (by omega) (hpk _ (by omega) (by omega))).trans H2.out.2.2.1
   have G1 := aA (aC hE (aC hD2 (H1.out.2.2.trans hU2)))
   have G2 := aA (aC hS (aC hN hR))
   have G3 := aA hsl
   have hsz2 := hU2.size
   have kS := fun X : Obj => (((aB.refl [] w2).alloc X).block _ (aH hS) (by simp)).trans hS
   have kN := fun X : Obj => (((aB.refl [] w2).alloc X).block _ (aH hN) (by simp)).trans hN
   have kR := fun X : Obj => (((aB.refl [] w2).alloc X).block _ (aH hR) (by simp)).trans hR
   have KS := aA kS
   have KN := aA kN
   have KR := aA kR
   have y0 := fun X : Obj => aD (kS X) 0
   have y1 := fun X : Obj => aD (kS X) 1
   have y2 := fun X : Obj => aD (kS X) 2
   have y3 := fun X : Obj => aD (kS X) 3
   have y4 := fun X : Obj => aD (kS X) 4
   have y5 := fun X : Obj => aD (kS X) 5
   have g0 := fun X : Obj => aZ (kS X) 0
   have g1 := fun X : Obj => aZ (kS X) 1
   have g2 := fun X : Obj => aZ (kS X) 2
   have r0 := fun X : Obj => aD (kR X) 0
   have r1 := fun X : Obj => aD (kR X) 1
   have r2 := fun X : Obj => aD (kR X) 2
   have r3 := fun X : Obj => aD (kR X) 3
   have r4 := fun X : Obj => aD (kR X) 4
   have r5 := fun X : Obj => aD (kR X) 5
   have f0 := fun X : Obj => aZ (kR X) 0
   have f1 := fun X : Obj => aZ (kR X) 1
   have f2 := fun X : Obj => aZ (kR X) 2
   have f3 := fun X : Obj => aZ (kR X) 3
   have f4 := fun X : Obj => aZ (kR X) 4
   have f5 := fun X : Obj => aZ (kR X) 5
   simp only [List.cons_append, List.nil_append, bA, bB, bS] at y0 y1 y2 y3 y4 y5 r0 r1 r2 r3 r4 r5
   clear hS hN hR kS kN kR hE hD2 hU2 hs hs' hsl HRd H3 H4 H5 H6
   by_cases he : e = 0
   ·subst he
    have hSl := G3.out rfl
    have HSl := aA hSl
    have HT := aA fun X : Obj => aC (Mk (KS.out X) (.bool b) (.int .i64 x) (.slice a m c)) (aC (((sA (W := w2.alloc X) (B := w.heap.size + 1) (.bool b) (.int .i64 x) (.slice a m c)).block (w.heap.size + 1 + 1) (aH (KN.out X)) (by simp)).trans (KN.out X)) (aC (((sA (W := w2.alloc X) (B := w.heap.size + 1) (.bool b) (.int .i64 x) (.slice a m c)).block w.heap.size (aH (KR.out X)) (by simp)).trans (KR.out X)) (((aB.refl [w.heap.size + 1] w2).alloc X).trans (sA (W := w2.alloc X) (B := w.heap.size + 1) (.bool b) (.int .i64 x) (.slice a m c)))))
    clear hSl
    go_wp2_with fail
    refine (Mh _ (S := w.heap.size + 1) (N := w.heap.size + 1 + 1) (b := b) (aD (HT.out _).1 0) (aD (HT.out _).2.1 0)).mono ?_
    rintro r w3 ⟨rfl, hAl⟩
    have t1 := (bM (·[w.heap.size + 1]?) hAl.1).trans (HT.out _).1
    have t2 := (bM (·[w.heap.size + 1 + 1]?) hAl.1).trans (HT.out _).2.1
    have t3 := (bM (·[w.heap.size]?) hAl.1).trans (HT.out _).2.2.1
    have t4 := ((HT.out _).2.2.2).alike hAl
    have T1 := aA (aC t1 (aC t2 (aC t3 t4)))
    have n0 := aD t2 0
    have fn0 := aZ t2 0
    simp only [bA, bB] at n0
    have hsz3 := t4.size
    have U3 : Hid (aB [w.heap.size + 1, w.heap.size + 1 + 1] w2 w3) := aA (t4.mono fun k hk _ => by simp at hk ⊢; exact .inl hk)
    clear hAl t1 t2 t3 t4 HT y0 y1 y2 y3 y4 y5 g0 g1 g2 r0 r1 r2 r3 r4 r5 f0 f1 f2 f3 f4 f5
    cases b with
    | true =>
     go_wp2_with fail
     have hu := U3.out.setCell (b := w.heap.size + 1 + 1) (by simp) 0 (.int .i64 0)
     go_roundg 1
     case rel =>
      refine ⟨1, D2, [.bool true, .int .i64 x, .slice a m c], z3, true, x, false, 0, 0, by go_num, by omega, rfl, aA ⟨.inr ⟨by omega, G1.out.1⟩, G1.out.2.1.upd hu (fun k hk q => by have := HFl.out k hk; simp at q; omega), G1.out.2.2.next hu fun k hk hlt => by simp at hk; omega⟩, aA ⟨?_, ?_, ?_, ?_⟩, aA fun q => by omega, aA fun _ => HSl.out.upd hu (fun k hk => by simp at hk; omega), aA fun _ => ⟨rfl, rfl⟩, aA fun q => by omega⟩
      ·rw [bJ, aE (by simp)]; exact T1.out.1
      ·rw [bJ, aF rfl, T1.out.2.1]; rfl
      ·rw [bJ, aE (by omega)]; exact T1.out.2.2.1
      simp; omega
     case measure => omega
    | false =>
     go_wp2_with fail
     have hu := U3.out
     go_roundg 1
     case rel =>
      exact ⟨1, D2, [.bool false, .int .i64 x, .slice a m c], z3, false, x, false, 0, -1, by go_num, by omega, rfl, aA ⟨.inr ⟨by omega, G1.out.1⟩, G1.out.2.1.upd hu (fun k hk q => by have := HFl.out k hk; simp at q; omega), G1.out.2.2.next hu fun k hk hlt => by simp at hk; omega⟩, aA ⟨T1.out.1, T1.out.2.1, T1.out.2.2.1, by omega⟩, aA fun q => by omega, aA fun _ => HSl.out.upd hu (fun k hk => by simp at hk; omega), aA fun _ => ⟨rfl, rfl⟩, aA fun q => by omega⟩
     case measure => omega
   have he' : ¬ (e : Int) = 0 := by omega
   go_wp2_with fail
   have hb3 := fun X : Obj => Ce (KR.out X) (.bool false) (.int .i64 0) (.slice none 0 0) (.bool false) (.int .i64 0) (.slice none 0 0)
   have hu3 := fun X : Obj => ((aB.refl [w.heap.size] w2).alloc X).trans (Cf (W := w2.alloc X) (B := w.heap.size) (.bool false) (.int .i64 0) (.slice none 0 0) (.bool false) (.int .i64 0) (.slice none 0 0))
   refine Ch Tryz.results163 rfl (hb3 _) rfl ⟨e, D2, false, 0, .slice none 0 0, false, 0, .slice none 0 0, -1, rfl, G1.out.1, G1.out.2.1.upd (hu3 _) (fun k hk q => by have := HFl.out k hk; simp at q; omega), ?_, ⟨_, _, _, rfl⟩, ⟨_, _, _, rfl⟩, fun q => absurd q he⟩
   exact G1.out.2.2.next (hu3 _) fun k hk hlt => by simp at hk; omega
  ·have hnv := (H5.out rfl).2
   obtain rfl := (H5.out rfl).1
   have H4' := aA (H4.out (by omega))
   obtain ⟨⟨a0, m0, c0, rfl, -⟩, -⟩ := H4'.out
   have hED : bV [] D 0 D1 := H1.out.1.elim (fun q => by omega) fun q => q.2
   have hbv : D1.blk = D.blk := hED.up.2.2.2
   have hn1 := hED.n
   have hw1 := hED.wr
   have hv01 : nv = -1 ∨ nv = 0 := by rw [hnv]; cases b0 <;> simp
   have HNV := aA hnv
   have HED := aA hED
   clear hnv hED
   have hsz := H2.out.2.2.2
   have HRd := aA (FK wr H1.out.2.1 1 (by omega) (by simp at hw1; omega))
   go_wp2_with fail
   refine HRd.out.mono ?_
   rintro r w2 ⟨e, D2, vs, rfl, hE, hD2, hU2, hs, hs'⟩
   rw [hbv] at hs
   obtain ⟨b, x, a, m, c, rfl, hsl⟩ := FN hs hs' hsz
   have hpk : ∀ k, w.heap.size ≤ k → k < wr.heap.size → k ∉ [p] := fun k h1 _ => by simp; omega
   have hS := (hU2.block (w.heap.size + 1) (by omega) (hpk _ (by omega) (by omega))).trans H2.out.1
   have hN := (hU2.block (w.heap.size + 1 + 1) (by omega) (hpk _ (by omega) (by omega))).trans H2.out.2.1
   have hR := (hU2.block w.heap.size (by omega) (hpk _ (by omega) (by omega))).trans H2.out.2.2.1
   have G1 := aA (aC (HED.out.next hE) (aC hD2 (H1.out.2.2.trans hU2)))
   have G2 := aA (aC hS (aC hN hR))
   have G3 := aA hsl
   have UR := aA hU2
   have hsz2 := hU2.size
   have kS := fun X : Obj => (((aB.refl [] w2).alloc X).block _ (aH hS) (by simp)).trans hS
   have kN := fun X : Obj => (((aB.refl [] w2).alloc X).block _ (aH hN) (by simp)).trans hN
   have kR := fun X : Obj => (((aB.refl [] w2).alloc X).block _ (aH hR) (by simp)).trans hR
   have KS := aA kS
   have KN := aA kN
   have KR := aA kR
   have y0 := fun X : Obj => aD (kS X) 0
   have y1 := fun X : Obj => aD (kS X) 1
   have y2 := fun X : Obj => aD (kS X) 2
   have y3 := fun X : Obj => aD (kS X) 3
   have y4 := fun X : Obj => aD (kS X) 4
   have y5 := fun X : Obj => aD (kS X) 5
   have g0 := fun X : Obj => aZ (kS X) 3
   have g1 := fun X : Obj => aZ (kS X) 4
   have g2 := fun X : Obj => aZ (kS X) 5
   have r0 := fun X : Obj => aD (kR X) 0
   have r1 := fun X : Obj => aD (kR X) 1
   have r2 := fun X : Obj => aD (kR X) 2
   have r3 := fun X : Obj => aD (kR X) 3
   have r4 := fun X : Obj => aD (kR X) 4
   have r5 := fun X : Obj => aD (kR X) 5
   have f0 := fun X : Obj => aZ (kR X) 0
   have f1 := fun X : Obj => aZ (kR X) 1
   have f2 := fun X : Obj => aZ (kR X) 2
   have f3 := fun X : Obj => aZ (kR X) 3
   have f4 := fun X : Obj => aZ (kR X) 4
   have f5 := fun X : Obj => aZ (kR X) 5
   simp only [List.cons_append, List.nil_append, bA, bB, bS] at y0 y1 y2 y3 y4 y5 r0 r1 r2 r3 r4 r5
   clear hS hN hR kS kN kR hE hD2 hU2 hs hs' hsl HRd H3 H4 H5 H6
   by_cases he : e = 0
   ·subst he
    have hSl := G3.out rfl
    have HSl := aA hSl
    have HT := aA fun X : Obj => aC (Ml (KS.out X) (.bool b) (.int .i64 x) (.slice a m c)) (aC (((Cg (W := w2.alloc X) (B := w.heap.size + 1) (.bool b) (.int .i64 x) (.slice a m c)).block (w.heap.size + 1 + 1) (aH (KN.out X)) (by simp)).trans (KN.out X)) (aC (((Cg (W := w2.alloc X) (B := w.heap.size + 1) (.bool b) (.int .i64 x) (.slice a m c)).block w.heap.size (aH (KR.out X)) (by simp)).trans (KR.out X)) (((aB.refl [w.heap.size + 1] w2).alloc X).trans (Cg (W := w2.alloc X) (B := w.heap.size + 1) (.bool b) (.int .i64 x) (.slice a m c)))))
    clear hSl
    go_wp2_with fail
    refine (Mi _ (S := w.heap.size + 1) (N := w.heap.size + 1 + 1) (b := b) (nv := nv) (c0 := x0) (c1 := x) (aD (HT.out _).1 3) (aD (HT.out _).1 1) (aD (HT.out _).1 4) (aD (HT.out _).2.1 0) hv01).mono ?_
    rintro r w3 ⟨rfl, hAl⟩
    have t1 := (bM (·[w.heap.size + 1]?) hAl.1).trans (HT.out _).1
    have t2 := (bM (·[w.heap.size + 1 + 1]?) hAl.1).trans (HT.out _).2.1
    have t3 := (bM (·[w.heap.size]?) hAl.1).trans (HT.out _).2.2.1
    have t4 := ((HT.out _).2.2.2).alike hAl
    have T1 := aA (aC t1 (aC t2 (aC t3 t4)))
    have n0 := aD t2 0
    have fn0 := aZ t2 0
    simp only [bA, bB] at n0
    have hsz3 := t4.size
    have U3 : Hid (aB [w.heap.size + 1, w.heap.size + 1 + 1] w2 w3) := aA (t4.mono fun k hk _ => by simp at hk ⊢; exact .inl hk)
    clear hAl t1 t2 t3 t4 HT y0 y1 y2 y3 y4 y5 g0 g1 g2 r0 r1 r2 r3 r4 r5 f0 f1 f2 f3 f4 f5
    generalize hnb : tA b nv x x0 = nb
    have HNB2 := aA hnb
    clear hnb
    cases nb with
    | true =>
     go_wp2_with fail
     have hu := U3.out.setCell (b := w.heap.size + 1 + 1) (by simp) 0 (.int .i64 1)
     go_roundg 0
     case rel =>
      refine ⟨2, D2, [.bool b0, .int .i64 x0, .slice a0 m0 c0], [.bool b, .int .i64 x, .slice a m c], b0, x0, b, x, 1, by go_num, by omega, rfl, aA ⟨.inr ⟨by omega, G1.out.1⟩, G1.out.2.1.upd hu (fun k hk q => by have := HFl.out k hk; simp at q; omega), G1.out.2.2.next hu fun k hk hlt => by simp at hk; omega⟩, aA ⟨?_, ?_, ?_, ?_⟩, aA fun q => by omega, aA fun _ => (H4'.out.upd UR.out (fun k hk => by simp at hk; omega)).upd hu (fun k hk => by simp at hk; omega), aA fun q => by omega, aA fun _ => ⟨HSl.out.upd hu (fun k hk => by simp at hk; omega), ?_⟩⟩
      ·rw [bJ, aE (by simp)]; exact T1.out.1
      ·rw [bJ, aF rfl, T1.out.2.1]; rfl
      ·rw [bJ, aE (by omega)]; exact T1.out.2.2.1
      ·simp; omega
      rw [← HNV.out, HNB2.out]; rfl
     case measure => omega
    | false =>
     go_wp2_with fail
     have hu := U3.out
     go_roundg 0
     case rel =>
      exact ⟨2, D2, [.bool b0, .int .i64 x0, .slice a0 m0 c0], [.bool b, .int .i64 x, .slice a m c], b0, x0, b, x, nv, by go_num, by omega, rfl, aA ⟨.inr ⟨by omega, G1.out.1⟩, G1.out.2.1.upd hu (fun k hk q => by have := HFl.out k hk; simp at q; omega), G1.out.2.2.next hu fun k hk hlt => by simp at hk; omega⟩, aA ⟨T1.out.1, T1.out.2.1, T1.out.2.2.1, by omega⟩, aA fun q => by omega, aA fun _ => (H4'.out.upd UR.out (fun k hk => by simp at hk; omega)).upd hu (fun k hk => by simp at hk; omega), aA fun q => by omega, aA fun _ => ⟨HSl.out.upd hu (fun k hk => by simp at hk; omega), by rw [← HNV.out, HNB2.out]; rfl⟩⟩
     case measure => omega
   have he' : ¬ (e : Int) = 0 := by omega
   go_wp2_with fail
   have hb3 := fun X : Obj => Ce (KR.out X) (.bool b0) (.int .i64 x0) (.slice a0 m0 c0) (.bool false) (.int .i64 0) (.slice none 0 0)
   have hu3 := fun X : Obj => ((aB.refl [w.heap.size] w2).alloc X).trans (Cf (W := w2.alloc X) (B := w.heap.size) (.bool b0) (.int .i64 x0) (.slice a0 m0 c0) (.bool false) (.int .i64 0) (.slice none 0 0))
   refine Ch Tryz.results163 rfl (hb3 _) rfl ⟨e, D2, b0, x0, .slice a0 m0 c0, false, 0, .slice none 0 0, -1, rfl, G1.out.1, G1.out.2.1.upd (hu3 _) (fun k hk q => by have := HFl.out k hk; simp at q; omega), ?_, ⟨_, _, _, rfl⟩, ⟨_, _, _, rfl⟩, fun q => absurd q he⟩
   exact G1.out.2.2.next (hu3 _) fun k hk hlt => by simp at hk; omega
  have H4' := aA (H4.out (by omega))
  have H6' := aA (H6.out rfl)
  obtain ⟨s1, hnv⟩ := H6'.out
  obtain ⟨⟨a0, m0, c0, rfl, -⟩, -⟩ := H4'.out
  obtain ⟨⟨a1, m1, c1, rfl, -⟩, -⟩ := s1
  have hS := H2.out.1
  have hN := H2.out.2.1
  have hR := H2.out.2.2.1
  have y0 := aD hS 0
  have y1 := aD hS 1
  have y2 := aD hS 2
  have y3 := aD hS 3
  have y4 := aD hS 4
  have y5 := aD hS 5
  have yn := aD hN 0
  have r0 := aD hR 0
  have r1 := aD hR 1
  have r2 := aD hR 2
  have r3 := aD hR 3
  have r4 := aD hR 4
  have r5 := aD hR 5
  have f0 := aZ hR 0
  have f1 := aZ hR 1
  have f2 := aZ hR 2
  have f3 := aZ hR 3
  have f4 := aZ hR 4
  have f5 := aZ hR 5
  simp only [List.cons_append, List.nil_append, bA, bB, bS] at y0 y1 y2 y3 y4 y5 yn r0 r1 r2 r3 r4 r5
  have HNV := aA hnv
  clear hS hN hR hnv
  go_wp2_with fail
  go_region
  go_wp2_with fail
  have hb3 := Mj H2.out.2.2.1 (.bool b0) (.int .i64 x0) (.slice a0 m0 c0) (.bool b1) (.int .i64 x1) (.slice a1 m1 c1)
  have hu3 := (Cf (W := wr) (B := w.heap.size) (.bool b0) (.int .i64 x0) (.slice a0 m0 c0) (.bool b1) (.int .i64 x1) (.slice a1 m1 c1)).drew
  have hE : bV [] D 0 D1 := H1.out.1.elim (fun q => by omega) fun q => q.2
  refine Ch Tryz.results163 rfl hb3 rfl ⟨0, D1, b0, x0, .slice a0 m0 c0, b1, x1, .slice a1 m1 c1, nv, rfl, hE, H1.out.2.1.upd hu3 (fun k hk q => by have := HFl.out k hk; simp at q; omega), ?_, ⟨_, _, _, rfl⟩, ⟨_, _, _, rfl⟩, fun _ => ?_⟩
  ·exact H1.out.2.2.next hu3 fun k hk hlt => by simp at hk; omega
  exact ⟨(H4'.out.upd hu3 (fun k hk => by simp at hk; omega)).base (by omega), (H6'.out.1.upd hu3 (fun k hk => by simp at hk; omega)).base (by omega), HNV.out⟩
end Go.Proofs.YtgpefiacbipfpaaGreatDoor
