/- The device's Read. -/
import Derived.Deep.MidRow
import Derived.Deep.WholeRow
import Derived.Great.BuildSlice
import Derived.Laws.Cover3
import Derived.Laws.CopyRow
import Derived.Laws.MakeOwn
import Derived.Carry
import Derived.Test.YtgpefiacbipfpaaGreatDoorC05
set_option maxRecDepth 100000
set_option maxHeartbeats 4000000
namespace Go.Proofs.YtgpefiacbipfpaaGreatDoor
open Go.RowKit Go.Maps
theorem xH {w : World} {ops : Array Oper} {rest : List Oper} {o : Oper} {a : Act} {Q : Exit → Act → World → Prop} (hg : o.guard = none) (m x : Operand) (t : TypeId) (hop : o.op = Op.lookup t m x false)
  {mv xv v : Value} (hm : a.eval m = mv) (hx : a.eval x = xv) (hrun : (Instr.lookup t mv xv false).run Tryz.prog w = .ok v w) (h : wpList Tryz.prog ops Q rest (a.put o.dst v) w) : wpList Tryz.prog ops Q (o :: rest) a w := by
 refine sP hg fun K' hK' => ?_
 unfold Oper.wp
 simp [execOp, hop, hm, hx, hrun, Result.andThen]
 exact hK' _ _ h
abbrev nK : Array Value := Array.replicate 512 (.int .u8 0)
theorem LQ (w : World) : (zeroValue 121).run Tryz.prog w = .ok (.agg nK) w := by
 obtain ⟨i, h, h1, h2, h3⟩ := kD zQ
 simp [zeroValue, typeInfo, h, h1]
theorem Fo {w : World} {ops : Array Oper} {rest : List Oper} {o : Oper} {a : Act} {Q : Exit → Act → World → Prop} (hg : o.guard = none) (hop : o.op = Op.alloc 121)
  (h : wpList Tryz.prog ops Q rest (a.put o.dst (.pointer (some ⟨w.heap.size, 0, none⟩))) (w.alloc (.cells nK 121))) : wpList Tryz.prog ops Q (o :: rest) a w := by
 refine sP hg fun K' hK' => ?_
 unfold Oper.wp
 simp only [execOp, hop, Instr.alloc, qF, LQ, qG]
 exact hK' _ _ h
theorem uI : (Tryz.prog.info? 121).map (·.size) = some 512 := by kernel_rfl
theorem BU {w : World} {ops : Array Oper} {rest : List Oper} {o : Oper} {a : Act} {Q : Exit → Act → World → Prop} (hg : o.guard = none) (x : Operand) (hop : o.op = Op.load 121 x) {B i : Nat} {b : Bs}
  (hx : a.eval x = .pointer (some ⟨B, i, none⟩)) (hr : w.rangeAt B i (cK b)) (h : wpList Tryz.prog ops Q rest (a.put o.dst (.agg (cK b).toArray)) w) : wpList Tryz.prog ops Q (o :: rest) a w :=
 wpList_load_mid hg 121 x hop B i hx (cK b) _ hr Tryz.underlying121 rfl (by rw [iU]; exact uI) h
theorem BV {w : World} {ops : Array Oper} {rest : List Oper} {o : Oper} {a : Act} {Q : Exit → Act → World → Prop} (hg : o.guard = none) (x y : Operand) (hop : o.op = Op.store 121 x y) {B : Nat} {b : Bs} {ty : TypeId} {old : Array Value}
  (hx : a.eval x = .pointer (some ⟨B, 0, none⟩)) (hy : a.eval y = .agg (cK b).toArray) (hb : w.heap[B]? = some (.cells old ty (0, 0))) (hs : old.size = 512) (h : wpList Tryz.prog ops Q rest (a.put o.dst undef) (w.setRow B (cK b).toArray)) : wpList Tryz.prog ops Q (o :: rest) a w :=
 wpList_store_row hg 121 x y hop B (cK b).toArray hx hy ty old hb (by rw [lI, iU]; exact uI) (by rw [hs, lI, iU]) (all_oneCell_toArray (zP [b] _ (by simp))) h
theorem BW : nK.size = 512 := Array.size_replicate ..
theorem BX {w : World} {b : Nat} {X : List Value} {l : List Bs} {ty : TypeId} (h : w.heap[b]? = some (.cells X.toArray ty (0, 0))) {m : Nat} (hx : X.take m = aP cK l) (i : Nat) (hi : i < l.length) : w.rangeAt b (i * 512) (cK l[i]) := by
 intro j v hv
 have hj : j < 512 := by
  rcases kP j 512 with h | h
  ·exact h
  rw [gG (by rw [iU]; exact h)] at hv; cases hv
 rw [aD h]
 have h1 := zI TK l i hi j hj
 rw [← hx, hv] at h1
 rw [wL] at h1
 split at h1
 ·simpa using h1
 cases h1
theorem zV (D : aI) : (mI D).length = D.n := by simp [mI]
theorem BY (D : aI) {i : Nat} (hi : i < (mI D).length) : (mI D)[i] = (D.blk i).safe := by simp [mI]
theorem gK.safeAt {w : World} {p : Nat} {D : aI} {sb mb : Nat} {L : List (Nat × Value)} {ops : Int} (h : gK w p D sb mb L ops) {n : Nat} (hn : n < D.n) : w.rangeAt sb (n * 512) (cK (D.blk n).safe) := by
 have := BX (m := (aP cK (mI D)).length) h.safe (rL ..) n (by rw [zV]; exact hn)
 rwa [BY] at this
theorem aK.lastK {w : World} {base : Nat} {v : Value} {l : List Bs} (h : aK cK 121 512 w base v l) (hl : l ≠ []) : ∃ g c, v = .slice (some ⟨g, 0, none⟩) l.length c ∧ w.rangeAt g ((l.length - 1) * 512) (cK (l.getLast hl)) := by
 have hpos := oO.2 hl
 obtain ⟨h0, h2⟩ := h
 rcases h2 with ⟨rfl, hn⟩ | ⟨g, cap, cur, rfl, hg, hh, r1, r2, r3, r4⟩
 ·omega
 refine ⟨g, cap, rfl, ?_⟩
 have := BX (X := cur.toList) (l := l) (m := l.length * 512) (by simpa using hh) r4 (l.length - 1) (by omega)
 rwa [← List.getLast_eq_getElem hl] at this
theorem xI {w w' : World} {b o : Nat} {cs : List Value} (h : w.rangeAt b o cs) (e : w'.heap[b]? = w.heap[b]?) : w'.rangeAt b o cs := fun j v hv => (iD e).trans (h j v hv)
theorem Fp {c : aL} (h : c.pend ≠ []) : c.view = c.pend.getLast h := by simp [aL.view, List.getLast?_eq_some_getLast h]
theorem Fq {c : aL} (h : c.pend = []) : c.view = c.safe := by simp [aL.view, h]
def nB (w : World) (base : Nat) (v : Value) (b : Bs) : Prop := ∃ B, v = .slice (some ⟨B, 0, none⟩) 512 512 ∧ base ≤ B ∧ w.heap[B]? = some (.cells (cK b).toArray 121 (0, 0))
def LR (w : World) (p : Nat) (D : aI) (F : List Nat) (n : Nat) (r : Ending) (w' : World) : Prop :=
 ∃ (e : Nat) (D' : aI) (v : Value), r = .returned (.tuple #[v, .int .i64 e]) ∧ bV [] D e D' ∧ bN w' p D' F ∧ aB [p] w w' ∧ (e = 0 → nB w' w.heap.size v (D.blk n).view) ∧ (e ≠ 0 → v = .slice none 0 0)
theorem zS.eff {w w' : World} {p sb mb : Nat} {D : aI} {e : Nat} {fuse : Int} {down : Bool} {ops : Int} (t : zS w w' p sb D.n mb D e fuse down ops) : bV [] D e { D with fuse := fuse, down := down } := by
 refine ⟨rfl, aQ _, ?_⟩
 rcases t.out with ⟨h1, h2, h3, h4⟩ | ⟨h1, h2, h3⟩
 ·exact .inl ⟨h1, h2, h3, h4, rfl⟩
 exact .inr ⟨h1, h2, h3, [], [], rfl, rfl⟩
theorem gK.upd {w w' : World} {p : Nat} {D : aI} {sb mb : Nat} {L : List (Nat × Value)} {ops : Int} (h : gK w p D sb mb L ops) {G : List Nat} (u : aB G w w') (hG : ∀ k ∈ dO p sb mb L, k ∉ G) : gK w' p D sb mb L ops := by
 refine ⟨(u.block p (aH h.box) (hG p (by simp [dO]))).trans h.box, (u.block sb (aH h.safe) (hG sb (by simp [dO]))).trans h.safe, mJ h.map u (hG mb (by simp [dO])), h.srt, fun x hx => ?_, h.rest, h.nodup, h.n1, h.n2, h.f1, h.f2, h.sized, h.cnt⟩
 obtain ⟨h1, h2, h3⟩ := h.row x hx
 refine ⟨h1.upd u fun j hj q => hG j ?_ hj, h2, h3⟩
 simp only [dO, aJ]
 exact .inr (.inr (.inr (cV.2 ⟨x, hx, by simp [gE, q]⟩)))
theorem bN.upd {w w' : World} {p : Nat} {D : aI} {F : List Nat} (h : bN w p D F) {G : List Nat} (u : aB G w w') (hG : ∀ k ∈ F, k ∉ G) : bN w' p D F := by
 obtain ⟨sb, mb, L, ops, h, rfl⟩ := h
 exact ⟨sb, mb, L, ops, h.upd u hG, rfl⟩
theorem xJ (w : World) {p : Nat} {D : aI} {F : List Nat} (h : bN w p D F) (n : Nat) (hn : n < D.n) (hwr : D.wr ≤ 140737488355328) : Calls Tryz.prog 132 #[.pointer (some ⟨p, 0, none⟩), .int .i64 n] w (LR w p D F n) := by
 obtain ⟨sb, mb, L, ops, h, rfl⟩ := h
 have HO := aA (BR w h n hn)
 have HD := aA h
 have HP := aA (fun i => bG (h.cnt i) hwr)
 have hn2 := h.n2
 clear h
 go_in
 go_wp2_with fail
 refine HO.out.mono ?_
 rintro r w1 ⟨e, fuse, down, ops', rfl, T⟩
 have HT := aA T
 have HR := aA (HD.out.ticked T)
 by_cases he : e = 0
 ·subst he
  have c0 := aD T.box 0
  have c1 := aD T.box 1
  simp only [bA, bB, bS] at c0 c1
  have HS := aA (HR.out.safeAt (n := n) hn)
  have hlt : (n : Int) < (D.n : Int) := by omega
  clear T
  cases hg : bF L n with
  | none =>
   have HV := aA (Fq (HR.out.rest n hg))
   have c1' := eQ ((aB.refl [] w1).alloc (.cells (cK (D.blk n).safe).toArray 121)) c1
   have HL := aA (lS.look (mJ HR.out.map ((aB.refl [] w1).alloc (.cells (cK (D.blk n).safe).toArray 121)) (by simp)) Tryz.underlying117 (z := .slice none 0 0) (by kernel_rfl) n (by omega))
   go_wp2_with (first
    | (refine BU rfl _ rfl (b := (D.blk n).safe) rfl HS.out ?_)
    | (refine Fo rfl rfl ?_)
    | (refine BV rfl _ _ rfl (b := (D.blk n).safe) rfl rfl (aX _ _) BW ?_; rewrite [World.setRow_alloc_new])
    | (at_lookup; refine xH rfl _ _ 117 rfl rfl rfl HL.out ?_)
    | fail)
   go_ret2
   exact ⟨0, _, _, rfl, HT.out.eff, ⟨sb, mb, L, ops', HR.out.upd ((aB.refl [] w1).alloc _) (by simp), rfl⟩, HT.out.upd.alloc _, fun _ => ⟨w1.heap.size, rfl, HT.out.upd.size, by rw [HV.out]; exact aX _ _⟩, fun q => absurd rfl q⟩
  | some v =>
   obtain ⟨hown, hne, -⟩ := HR.out.row (n, v) (eU hg)
   dsimp only at hown hne
   obtain ⟨g, c, rfl, hrg⟩ := hown.lastK hne
   have HV := aA (Fp hne)
   have hpos : 0 < (D.blk n).pend.length := oO.2 hne
   have hcap : (D.blk n).pend.length ≤ 140737488355328 := HP.out n
   have c1' := eQ ((aB.refl [] w1).alloc (.cells (cK (D.blk n).safe).toArray 121)) c1
   have HL := aA (lS.look (mJ HR.out.map ((aB.refl [] w1).alloc (.cells (cK (D.blk n).safe).toArray 121)) (by simp)) Tryz.underlying117 (z := .slice none 0 0) (by kernel_rfl) n (by omega))
   rewrite [hg] at HL
   have HG := aA (xI (w' := w1.alloc (.cells (cK (D.blk n).safe).toArray 121)) hrg (((aB.refl [] w1).alloc _).block g (by have := (hown.block g rfl).2; exact this) (by simp)))
   have hlt2 : (0 : Int) < ((D.blk n).pend.length : Int) := by omega
   generalize hlst : (D.blk n).pend.getLast hne = lst at *
   clear hown hrg
   generalize (D.blk n).pend.length = m at *
   go_wp2_with (first
    | (refine BU rfl _ rfl (b := (D.blk n).safe) rfl HS.out ?_)
    | (refine BU rfl _ rfl (b := lst) rfl HG.out ?_)
    | (refine Fo rfl rfl ?_)
    | (refine BV rfl _ _ rfl (b := (D.blk n).safe) rfl rfl (aX _ _) BW ?_; rewrite [World.setRow_alloc_new])
    | (refine BV rfl _ _ rfl (b := lst) rfl rfl (aX _ _) (by rw [lI, iU]) ?_; rewrite [World.setRow_alloc_new])
    | (at_lookup; refine xH rfl _ _ 117 rfl rfl rfl HL.out ?_)
    | fail)
   go_ret2
   exact ⟨0, _, _, rfl, HT.out.eff, ⟨sb, mb, L, ops', HR.out.upd ((aB.refl [] w1).alloc _) (by simp), rfl⟩, HT.out.upd.alloc _, fun _ => ⟨w1.heap.size, rfl, HT.out.upd.size, by rw [HV.out]; exact aX _ _⟩, fun q => absurd rfl q⟩
 have he' : ¬ (e : Int) = 0 := by omega
 go_wp2_with fail
 go_ret2
 exact ⟨e, _, _, rfl, HT.out.eff, ⟨sb, mb, L, ops', HR.out, rfl⟩, HT.out.upd, fun q => absurd q he, fun _ => rfl⟩
theorem Fr {ops : Array Oper} {o : Oper} {a : Act} {w : World} {K : Act → World → Prop} {Q : Exit → Act → World → Prop} {E : Prop} (hgd : o.guard = none) (m x : Operand) (t : TypeId) (hop : o.op = Op.lookup t m x false)
  {mv xv v : Value} (hm : a.eval m = mv) (hx : a.eval x = xv) (hrun : (Instr.lookup t mv xv false).run Tryz.prog w = .ok v w) (hK : K (a.put o.dst v) w) :
  if Region.wanted o (yielded ops a.tmps) = true then Oper.wp Tryz.prog o a w K Q else E := by
 have hw : Region.wanted o (yielded ops a.tmps) = true := by simp [Region.wanted, hgd]
 rw [aF hw]
 unfold Oper.wp
 simp [execOp, hop, hm, hx, hrun, Result.andThen]
 exact hK
theorem Fu (w : World) (b : Bs) : (Instr.buildSlice 116 1 #[(0, .agg (cK b).toArray)]).run Tryz.prog w = .ok (.slice (some ⟨w.heap.size, 0, none⟩) 1 1) (w.alloc (.cells (cK b).toArray 121)) := by
 obtain ⟨i, h, h1, h2, h3⟩ := kD zQ
 refine run_buildSlice w _ _ 1 _ _ i _ Tryz.underlying116 h h1 (by rw [h2]; decide) (by rw [h2]; decide) ?_
 rw [h2]
 have := Great.fill_whole (s := 512) (by omega) [.agg (cK b).toArray] ((Array.range (1 * 512)).map ((Value.agg (Array.replicate 512 (.int .u8 0))).cells[· % (Value.agg (Array.replicate 512 (.int .u8 0))).cells.size]!)) (by
  intro v hv
  obtain rfl := aM.1 hv
  show (cK b).toArray.size = 512
  rw [lI, iU]) (by simp)
 have e : (some (cK b).toArray : Option (Array Value)) = some (Value.agg (cK b).toArray).cells := rfl
 rw [e]
 simpa using this
theorem lS.store {w : World} {mb : Nat} {L : List (Nat × Value)} (h : lS w mb L) (hs : cP kE L) {t e : TypeId} (ht : Tryz.prog.underlying t = some (.map 3 e)) (hl : L.length < maxLen) (n : Nat) (hn : n < 9223372036854775807) (v : Value) :
  ∃ w', (Instr.mapUpdate t (.map (some mb)) (.int .i64 n) v).run Tryz.prog w = .ok () w' ∧ lS w' mb (cQ kE L n v) ∧ w.grownBy w' (some mb) := by
 obtain ⟨w', h1, h2, h3⟩ := World.ownsMap.update h zR ht hl (keyOf_int_mk Tryz.underlying3 (Fn hn)) (d := .held v) (ps := []) rfl
 refine ⟨w', h1, ?_, h3⟩
 rw [xF, Fl zU hs] at h2
 exact lS.of h2
theorem Fv {ops : Array Oper} {o : Oper} {a : Act} {w : World} {K : Act → World → Prop} {Q : Exit → Act → World → Prop} {E : Prop} (hgd : o.guard = none) (x : Operand) (hop : o.op = Op.buildSlice 116 1 #[(0, x)]) {b : Bs}
  (hx : a.eval x = .agg (cK b).toArray) (hK : K (a.put o.dst (.slice (some ⟨w.heap.size, 0, none⟩) 1 1)) (w.alloc (.cells (cK b).toArray 121))) :
  if Region.wanted o (yielded ops a.tmps) = true then Oper.wp Tryz.prog o a w K Q else E := by
 have hw : Region.wanted o (yielded ops a.tmps) = true := by simp [Region.wanted, hgd]
 rw [aF hw]
 unfold Oper.wp
 have e : (Array.map (fun (y : Nat × Operand) => (y.1, a.eval y.2)) #[(0, x)]) = #[(0, .agg (cK b).toArray)] := by simp [hx]
 simp only [execOp, hop, e, qF, vB, Fu, qG]
 exact hK
theorem Fw {ops : Array Oper} {o : Oper} {a : Act} {w : World} {K : Act → World → Prop} {Q : Exit → Act → World → Prop} {E : Prop} (hgd : o.guard = none) (m x y : Operand) (t : TypeId) (hop : o.op = Op.mapUpdate t m x y)
  {mv xv yv : Value} {w' : World} (hm : a.eval m = mv) (hx : a.eval x = xv) (hy : a.eval y = yv) (hrun : (Instr.mapUpdate t mv xv yv).run Tryz.prog w = .ok () w') (hK : K (a.put o.dst undef) w') :
  if Region.wanted o (yielded ops a.tmps) = true then Oper.wp Tryz.prog o a w K Q else E := by
 have hw : Region.wanted o (yielded ops a.tmps) = true := by simp [Region.wanted, hgd]
 rw [aF hw]
 unfold Oper.wp
 simp [execOp, hop, hm, hx, hy, hrun, Result.andThen]
 exact hK
theorem LS {w : World} {b off c : Nat} {d : Bs} (h : Rd w (.slice (some ⟨b, off, none⟩) 512 c) d) (hd : d.length = 512) : w.rangeAt b off (cK d) := by
 intro j v hv
 rw [zO hd] at hv
 have hj : j < d.length := by
  rcases kP j d.length with h | h
  ·exact h
  rw [gG (by simpa using h)] at hv; cases hv
 obtain ⟨-, -, -, hcell⟩ := h.cell
 obtain ⟨b', o', e, hc⟩ := hcell (by omega)
 cases e
 rw [hc j hj]
 rw [lL, bL hj] at hv
 simpa using hv
def aI.wrote (D : aI) (n : Nat) (b : Bs) (fuse : Int) (down : Bool) : aI := { D with blk := exec1 D.blk (.write n b), fuse := fuse, down := down, wr := D.wr + 1 }
theorem gK.wrote {w w' : World} {p : Nat} {D : aI} {sb mb : Nat} {L : List (Nat × Value)} {ops : Int} (h : gK w p D sb mb L ops) {n : Nat} (hn : n < D.n) {b : Bs} (hb : b.length = 512) {v0 v : Value} (hv0 : v0 = (bF L n).getD (.slice none 0 0))
  (hown : aK cK 121 512 w' 0 v ((D.blk n).pend ++ [b])) (hat : v.ownBlock = v0.ownBlock ∨ ∀ g, v.ownBlock = some g → w.heap.size ≤ g) (hmap : lS w' mb (cQ kE L n v))
  (hu : aB (mb :: (v0.ownBlock.toList)) w w') : gK w' p (D.wrote n b D.fuse D.down) sb mb (cQ kE L n v) ops ∧ ∀ k ∈ dO p sb mb (cQ kE L n v), k ∈ dO p sb mb L ∨ w.heap.size ≤ k := by
 have hne : (D.blk n).pend ++ [b] ≠ [] := by simp
 obtain ⟨g, c, hvg, -⟩ := hown.lastK hne
 have hvb : v.ownBlock = some g := by rw [hvg]; rfl
 have hnd := h.nodup
 simp only [dO, kC, aJ, not_or] at hnd
 obtain ⟨⟨a1, a2, a3⟩, ⟨a4, a5⟩, a6, a7⟩ := hnd
 have hold : ∀ k, v0.ownBlock = some k → k ∈ L.map fun x => gE x.2 := by
  intro k hk
  cases hg : bF L n with
  | none => rw [hg] at hv0; subst hv0; cases hk
  | some u =>
   rw [hg] at hv0
   obtain rfl : v0 = u := hv0
   exact cV.2 ⟨(n, v0), eU hg, by simp [gE, hk]⟩
 have hlt : ∀ x ∈ L, gE x.2 < w.heap.size ∧ x.2.ownBlock = some (gE x.2) := by
  intro x hx
  obtain ⟨h1, h2, -⟩ := h.row x hx
  obtain ⟨g', c', e, -⟩ := h1.lastK h2
  have : x.2.ownBlock = some g' := by rw [e]; rfl
  exact ⟨by simp only [gE, this, tT]; exact (h1.block g' this).2, by simp [gE, this]⟩
 have hother : ∀ x ∈ L, x.1 ≠ n → ∀ k, x.2.ownBlock = some k → k ∉ mb :: v0.ownBlock.toList := by
  intro x hx hxn k hk hm
  rcases aJ.1 hm with rfl | hm
  ·exact a6 (cV.2 ⟨x, hx, by simp [gE, hk]⟩)
  have hk0 : v0.ownBlock = some k := by simpa using hm
  cases hg : bF L n with
  | none => rw [hg] at hv0; subst hv0; cases hk0
  | some u =>
   rw [hg] at hv0
   obtain rfl : v0 = u := hv0
   have hp := a7
   have hmem := eU hg
   have : ∀ (l : List (Nat × Value)), (l.map fun x => gE x.2).Nodup → ∀ y ∈ l, ∀ z ∈ l, gE y.2 = gE z.2 → y = z := by
    intro l
    induction l with
    | nil => intro _ y hy; simp at hy
    | cons q l ih =>
     intro hn y hy z hz e
     simp only [dR, kC] at hn
     rcases aJ.1 hy with e1 | h1 <;> rcases aJ.1 hz with e2 | h2
     ·rw [e1, e2]
     ·exact absurd (cV.2 ⟨z, h2, by rw [← e, e1]⟩) hn.1
     ·exact absurd (cV.2 ⟨y, h1, by rw [e, e2]⟩) hn.1
     exact ih hn.2 y h1 z h2 e
   have e := this L a7 x hx (n, v0) hmem (by simp [gE, hk, hk0])
   exact hxn (by rw [e])
 have hpne : p ∉ mb :: v0.ownBlock.toList := by
  intro hm
  rcases aJ.1 hm with e | hm
  ·exact a2 e
  exact a3 (hold p (by simpa using hm))
 have hsne : sb ∉ mb :: v0.ownBlock.toList := by
  intro hm
  rcases aJ.1 hm with e | hm
  ·exact a4 e
  exact a5 (hold sb (by simpa using hm))
 have hgm : g ∈ (L.map fun x => gE x.2) ∨ w.heap.size ≤ g := by
  rcases hat with e | e
  ·exact .inl (hold g (by rw [← e]; exact hvb))
  exact .inr (e g hvb)
 have hperm := wX sX h.srt n v
 have hfoot : ((cQ kE L n v).map fun x => gE x.2).Nodup ∧ (∀ k ∈ ((cQ kE L n v).map fun x => gE x.2), k ∈ (L.map fun x => gE x.2) ∨ w.heap.size ≤ k) := by
  have hgb : gE v = g := by simp [gE, hvb]
  have hm := hperm.map fun x => gE x.2
  refine ⟨hm.nodup_iff.2 ?_, fun k hk => ?_⟩
  ·rw [dR, kC]
   refine ⟨fun hm => ?_, a7.sublist (List.filter_sublist.map _)⟩
   obtain ⟨x, hx, e⟩ := cV.1 hm
   obtain ⟨hx, hxn⟩ := mX.1 hx
   dsimp only at e
   rw [hgb] at e
   rcases hat with e2 | e2
   ·refine hother x hx hxn g (by rw [(hlt x hx).2, e]) ?_
    simp [← e2, hvb]
   have := (hlt x hx).1
   have := e2 g hvb
   omega
  have := (hm.mem_iff).1 hk
  rw [dR] at this
  rcases aJ.1 this with e | this
  ·dsimp only at e; rw [hgb] at e; subst e; exact hgm
  obtain ⟨x, hx, e⟩ := cV.1 this
  exact .inl (cV.2 ⟨x, (mX.1 hx).1, e⟩)
 have hlts : ∀ k ∈ [p, sb, mb], k < w.heap.size := by
  intro k hk
  simp only [aJ, cA, cG] at hk
  rcases hk with rfl | rfl | rfl
  ·exact aH h.box
  ·exact aH h.safe
  exact World.ownsMap.lt h.map
 refine ⟨⟨(hu.block p (aH h.box) hpne).trans h.box, ?_, hmap, sT sX h.srt n v, fun x hx => ?_, fun i hi => ?_, ?_, h.n1, h.n2, h.f1, h.f2, h.sized.exec1 hb, fun i => ?_⟩, fun k hk => ?_⟩
 ·have e : mI (D.wrote n b D.fuse D.down) = mI D := by
   unfold mI
   show (List.range D.n).map (fun i => (exec1 D.blk (.write n b) i).safe) = _
   apply uZ
   intro i _
   show (if i = n then _ else _ : aL).safe = _
   split <;> rfl
  rw [e]
  exact (hu.block sb (aH h.safe) hsne).trans h.safe
 ·rcases aJ.1 (hperm.mem_iff.1 hx) with rfl | hx
  ·have e : ((D.wrote n b D.fuse D.down).blk n).pend = (D.blk n).pend ++ [b] := by
    show (exec1 D.blk (.write n b) n).pend = _
    rw [mT]; rfl
   dsimp only
   rw [e]
   exact ⟨hown, hne, hn⟩
  obtain ⟨hx, hxn⟩ := mX.1 hx
  have e : ((D.wrote n b D.fuse D.down).blk x.1) = D.blk x.1 := fH _ hxn
  rw [e]
  obtain ⟨h1, h2, h3⟩ := h.row x hx
  exact ⟨h1.upd hu fun j hj q => hother x hx hxn j q hj, h2, h3⟩
 ·rw [pS sX h.srt] at hi
  split at hi
  ·cases hi
  rename_i hne2
  have e : ((D.wrote n b D.fuse D.down).blk i) = D.blk i := fH _ (Ne.symm hne2)
  rw [e]
  exact h.rest i hi
 ·simp only [dO, kC, aJ, not_or]
  have hno : ∀ k ∈ [p, sb, mb], k ∉ (L.map fun x => gE x.2) → k ∉ (cQ kE L n v).map fun x => gE x.2 := fun k hk hk2 hk3 => by
   rcases hfoot.2 k hk3 with q | q
   ·exact hk2 q
   have := hlts k hk; omega
  exact ⟨⟨a1, a2, hno p (by simp) a3⟩, ⟨a4, hno sb (by simp) a5⟩, hno mb (by simp) a6, hfoot.1⟩
 ·show (exec1 D.blk (.write n b) i).pend.length ≤ D.wr + 1
  have := h.cnt i
  by_cases e : i = n
  ·subst e; rw [mT]; simp [aL.push]; omega
  rw [fH _ e]; omega
 simp only [dO, aJ] at hk ⊢
 rcases hk with hk | hk | hk | hk
 ·exact .inl (.inl hk)
 ·exact .inl (.inr (.inl hk))
 ·exact .inl (.inr (.inr (.inl hk)))
 rcases hfoot.2 k hk with q | q
 ·exact .inl (.inr (.inr (.inr q)))
 exact .inr q
theorem Fx {w : World} {B : Nat} {b : Bs} {ty : TypeId} (h : w.heap[B]? = some (.cells (cK b).toArray ty (0, 0))) : hZ cK w (some ⟨B, 0, none⟩) [b] :=
 iS TK (r := [b]) (ty := ty) (by rw [h]; simp [aP])
theorem qQ {w w' : World} {G : List Nat} (u : aB G w w') {p o b off : Nat} {x : Value} {cs : List Value} (hp : p ∉ G) (hb : b ∉ G) (hc : 0 < cs.length) (h : w.cell? ⟨p, o, none⟩ = some x ∧ w.rangeAt b off cs) : w'.cell? ⟨p, o, none⟩ = some x ∧ w'.rangeAt b off cs := by
 refine ⟨(iD (u.block p (kX _ _ h.1) hp)).trans h.1, xI h.2 (u.block b ?_ hb)⟩
 exact kX _ _ (h.2 0 _ (bL hc))
theorem Fy {w w7 : World} {o : Obj} {row : Option Nat} (hg : (w.drew.alloc o).grownBy w7 row) : aB row.toList w w7 :=
 ⟨hg.os, hg.output, bG (by simp) hg.size, fun k hk hn => by
  rw [hg.block k (by simp; omega) (fun q => hn (by simp [← q]))]
  show (w.alloc o).heap[k]? = _
  rw [heap_alloc, aE (by omega)]⟩
theorem zW {w w8 : World} {mb : Nat} {r : List Nat} (hg8 : w.grownBy w8 (some mb)) : aB (mb :: r) w w8 :=
 ⟨hg8.os, hg8.output, hg8.size, fun k hk hn => hg8.block k hk (fun q => hn (by cases q; simp))⟩
def dE (w : World) (p : Nat) (D : aI) (F : List Nat) (t : List cE) (r : Ending) (w' : World) : Prop :=
 ∃ (e : Nat) (D' : aI) (F' : List Nat), r = .returned (.int .i64 e) ∧ bV t D e D' ∧ bN w' p D' F' ∧ aB F w w' ∧ ∀ k ∈ F', k ∈ F ∨ w.heap.size ≤ k
theorem vO (w : World) {p : Nat} {D : aI} {F : List Nat} (h : bN w p D F) (n : Nat) (hn : n < D.n) (hwr : D.wr ≤ 137438953472) {b off c : Nat} {d : Bs} (hd : Rd w (.slice (some ⟨b, off, none⟩) 512 c) d) (hd5 : d.length = 512) (hbF : b ∉ F) :
  Calls Tryz.prog 107 #[.pointer (some ⟨p, 0, none⟩), .int .i64 n, .slice (some ⟨b, off, none⟩) 512 c] w (dE w p D F [.write n d]) := by
 obtain ⟨sb, mb, L, ops, h, rfl⟩ := h
 have HO := aA (BR w h n hn)
 have HD := aA h
 have hn2 := h.n2
 have hcap : 512 ≤ c := hd.cell.2.1
 have hpF : p ∈ dO p sb mb L := by simp [dO]
 have hbp : b ≠ p := fun e => hbF (e ▸ hpF)
 have HRd := aA (LS hd hd5)
 have HDl := aA hd
 clear h hd
 go_in
 go_wp2_with fail
 refine HO.out.mono ?_
 rintro r w1 ⟨e, fuse, down, ops', rfl, T⟩
 have HT := aA T
 have HR := aA (HD.out.ticked T)
 by_cases he : e = 0
 ·subst he
  have c1 := aD T.box 1
  simp only [bA, bB, bS] at c1
  have hd1 : w1.rangeAt b off (cK d) := xI HRd.out (T.upd.block b (kX _ _ (HRd.out 0 _ (bL (by rw [iU]; omega)))) (by simp [hbp]))
  clear T
  obtain ⟨v0, hv0⟩ : ∃ v0, v0 = (bF L n).getD (.slice none 0 0) := ⟨_, rfl⟩
  have HOW : Hid (aK cK 121 512 w1 0 v0 (D.blk n).pend) := by
   cases hg : bF L n with
   | none => rw [hv0, hg]; have := HR.out.rest n hg; dsimp only at this; rw [this]; exact aA (aK.nil _ _)
   | some v => rw [hv0, hg]; exact aA (HR.out.row (n, v) (eU hg)).1
  have hlen : (D.blk n).pend.length ≤ 137438953472 := bG (HD.out.cnt n) hwr
  obtain ⟨a0, c0, hsl0⟩ := HOW.out.slice
  have HLk : Hid (∀ W, aB [] w1 W → (Instr.lookup 117 (.map (some mb)) (.int .i64 n) false).run Tryz.prog W = .ok (.slice a0 (D.blk n).pend.length c0) W) :=
   aA fun W u => by
    have := lS.look (mJ HR.out.map u (by simp)) Tryz.underlying117 (z := .slice none 0 0) (by kernel_rfl) n (by omega)
    rw [this, ← hv0, hsl0]
  have HLd : ∀ W : World, W.rangeAt b off (cK d) → (Instr.loadAt 121 (.pointer (some ⟨b, off, none⟩))).run Tryz.prog W = .ok (.agg (cK d).toArray) W :=
   fun W hW => run_loadAt_mid W b off _ (cK d) _ hW Tryz.underlying121 rfl (by rw [iU]; exact uI)
  have HAr : ∀ W : World, (Instr.arrayAt 121 (.slice (some ⟨b, off, none⟩) 512 c)).run Tryz.prog W = .ok (.pointer (some ⟨b, off, none⟩)) W :=
   fun W => run_arrayAt W _ _ 512 _ 512 c Tryz.underlying121 (aQ _)
  have HBs := fun W => Fu W d
  have hL1 := HLk.out w1.drew (aB.refl [] w1).drew
  have hL2 := HLk.out (w1.drew.alloc (.cells (cK d).toArray 121)) ((aB.refl [] w1).drew.alloc _)
  have hu101 := Tryz.underlying117
  have hcl := iU d
  have hll : ((D.blk n).pend ++ [d]).length = (D.blk n).pend.length + 1 := by simp
  have hu105 := Tryz.underlying121
  have hi105 : (Tryz.prog.info? 121).map (·.size) = some (cK d).length := by rw [iU]; exact uI
  rw [hsl0] at HOW
  have HM := aA HR.out.map
  have HSrt := aA HR.out.srt
  have hfoot := HD.out.nodup
  simp only [dO, kC, aJ, not_or] at hfoot
  simp only [dO, aJ, not_or] at hbF
  have HB0 : Hid (∀ k, (Value.slice a0 (D.blk n).pend.length c0).ownBlock = some k → k ∈ L.map fun x => gE x.2) := aA (by
   intro k hk
   rw [← hsl0] at hk
   cases hg : bF L n with
   | none => rw [hg] at hv0; subst hv0; cases hk
   | some u =>
    rw [hg] at hv0
    obtain rfl : v0 = u := hv0
    exact cV.2 ⟨(n, v0), eU hg, by simp [gE, hk]⟩)
  have hGp : p ∉ mb :: (Value.slice a0 (D.blk n).pend.length c0).ownBlock.toList := by
   intro hm
   rcases aJ.1 hm with q | hm
   ·exact hfoot.1.2.1 q
   exact hfoot.1.2.2 (HB0.out p (by simpa using hm))
  have hGb : b ∉ mb :: (Value.slice a0 (D.blk n).pend.length c0).ownBlock.toList := by
   intro hm
   rcases aJ.1 hm with q | hm
   ·exact hbF.2.2.1 q
   exact hbF.2.2.2 (HB0.out b (by simpa using hm))
  have hGm : mb ∉ (Value.slice a0 (D.blk n).pend.length c0).ownBlock.toList := fun hm => hfoot.2.2.1 (HB0.out mb (by simpa using hm))
  have hw1 : D.wr ≤ 137438953472 := hwr
  have hcK : 0 < (cK d).length := by rw [iU]; omega
  have hLl : L.length < maxLen := by
   have h1 : (L.map (·.1)).Nodup := by
    have := HSrt.out
    unfold cP at this
    rw [List.nodup_iff_pairwise_ne, wP]
    exact this.imp fun h => sX.ne h
   have h2 := BF h1 (n := D.n) fun x hx => by
    obtain ⟨y, hy, rfl⟩ := cV.1 hx
    exact (HR.out.row y hy).2.2
   rw [dF] at h2
   unfold maxLen; omega
  have hv0s : Value.slice a0 (D.blk n).pend.length c0 = (bF L n).getD (.slice none 0 0) := by rw [← hsl0]; exact hv0
  clear hsl0 HLk
  go_wp2_with fail
  refine wp_region_noPanic ?_
  refine wp_region_held_drew (S := fun w' => w'.cell? ⟨p, 1, none⟩ = some (.map (some mb)) ∧ w'.rangeAt b off (cK d)) (by kernel_rfl) (qQ (aB.refl [] w1).drew (by simp) (by simp) hcK ⟨c1, hd1⟩) (fun hHeld => ?_)
  refine wpAnyH_take (i := 0) (oi := ⟨some 19, _, _, _, _, _⟩) (v := .pointer (some ⟨p, 0, none⟩)) rfl (by kernel_rfl) (by kernel_rfl) (by kernel_rfl) (fun _ _ _ h => h) (Or.inl ⟨by rfl, by (intro W hSW; obtain ⟨hS1, hS2⟩ := hSW; go_simp)⟩) hHeld ?_
  simp only [Act.put, aW, aU, aT]
  refine wpAnyH_take (i := 1) (oi := ⟨some 20, _, _, _, _, _⟩) (v := .pointer (some ⟨p, 0, none⟩)) rfl (by kernel_rfl) (by kernel_rfl) (by kernel_rfl) (fun _ _ _ h => h) (Or.inl ⟨by rfl, by (intro W hSW; obtain ⟨hS1, hS2⟩ := hSW; go_simp)⟩) hHeld ?_
  simp only [Act.put, aW, aU, aT]
  refine wpAnyH_take (i := 2) (oi := ⟨some 21, _, _, _, _, _⟩) (v := .pointer (some ⟨p, 1, none⟩)) rfl (by kernel_rfl) (by kernel_rfl) (by kernel_rfl) (fun _ _ _ h => h) (Or.inl ⟨by rfl, by (intro W hSW; obtain ⟨hS1, hS2⟩ := hSW; go_simp)⟩) hHeld ?_
  simp only [Act.put, aW, aU, aT]
  refine wpAnyH_take (i := 3) (oi := ⟨some 22, _, _, _, _, _⟩) (v := .map (some mb)) rfl (by kernel_rfl) (by kernel_rfl) (by kernel_rfl) (fun _ _ _ h => h) (Or.inl ⟨by rfl, by (intro W hSW; obtain ⟨hS1, hS2⟩ := hSW; go_simp)⟩) hHeld ?_
  simp only [Act.put, aW, aU, aT]
  refine wpAnyH_take (i := 4) (oi := ⟨some 23, _, _, _, _, _⟩) (v := .int .i64 n) rfl (by kernel_rfl) (by kernel_rfl) (by kernel_rfl) (fun _ _ _ h => h) (Or.inl ⟨by rfl, by (intro W hSW; obtain ⟨hS1, hS2⟩ := hSW; go_simp)⟩) hHeld ?_
  simp only [Act.put, aW, aU, aT]
  refine wpAnyH_take (i := 5) (oi := ⟨some 24, _, _, _, _, _⟩) (v := .pointer (some ⟨p, 0, none⟩)) rfl (by kernel_rfl) (by kernel_rfl) (by kernel_rfl) (fun _ _ _ h => h) (Or.inl ⟨by rfl, by (intro W hSW; obtain ⟨hS1, hS2⟩ := hSW; go_simp)⟩) hHeld ?_
  simp only [Act.put, aW, aU, aT]
  refine wpAnyH_take (i := 6) (oi := ⟨some 25, _, _, _, _, _⟩) (v := .pointer (some ⟨p, 0, none⟩)) rfl (by kernel_rfl) (by kernel_rfl) (by kernel_rfl) (fun _ _ _ h => h) (Or.inl ⟨by rfl, by (intro W hSW; obtain ⟨hS1, hS2⟩ := hSW; go_simp)⟩) hHeld ?_
  simp only [Act.put, aW, aU, aT]
  refine wpAnyH_take (i := 7) (oi := ⟨some 26, _, _, _, _, _⟩) (v := .pointer (some ⟨p, 1, none⟩)) rfl (by kernel_rfl) (by kernel_rfl) (by kernel_rfl) (fun _ _ _ h => h) (Or.inl ⟨by rfl, by (intro W hSW; obtain ⟨hS1, hS2⟩ := hSW; go_simp)⟩) hHeld ?_
  simp only [Act.put, aW, aU, aT]
  refine wpAnyH_take (i := 8) (oi := ⟨some 27, _, _, _, _, _⟩) (v := .map (some mb)) rfl (by kernel_rfl) (by kernel_rfl) (by kernel_rfl) (fun _ _ _ h => h) (Or.inl ⟨by rfl, by (intro W hSW; obtain ⟨hS1, hS2⟩ := hSW; go_simp)⟩) hHeld ?_
  simp only [Act.put, aW, aU, aT]
  refine wpAnyH_take (i := 9) (oi := ⟨some 28, _, _, _, _, _⟩) (v := .int .i64 n) rfl (by kernel_rfl) (by kernel_rfl) (by kernel_rfl) (fun _ _ _ h => h) (Or.inl ⟨by rfl, by (intro W hSW; obtain ⟨hS1, hS2⟩ := hSW; go_simp)⟩) hHeld ?_
  simp only [Act.put, aW, aU, aT]
  refine wpAnyH_take (i := 11) (oi := ⟨some 30, _, _, _, _, _⟩) (v := .slice (some ⟨b, off, none⟩) 512 c) rfl (by kernel_rfl) (by kernel_rfl) (by kernel_rfl) (fun _ _ _ h => h) (Or.inl ⟨by rfl, by (intro W hSW; obtain ⟨hS1, hS2⟩ := hSW; go_simp)⟩) hHeld ?_
  simp only [Act.put, aW, aU, aT]
  refine wpAnyH_take (i := 12) (oi := ⟨some 31, _, _, _, _, _⟩) (v := .pointer (some ⟨b, off, none⟩)) rfl (by kernel_rfl) (by kernel_rfl) (by kernel_rfl) (fun _ _ _ h => h) (Or.inl ⟨by rfl, by (intro W hSW; obtain ⟨hS1, hS2⟩ := hSW; go_simp)⟩) hHeld ?_
  simp only [Act.put, aW, aU, aT]
  refine' wpAnyH_take (i := 13) (oi := ⟨some 32, _, _, _, _, _⟩) (v := _) rfl (by kernel_rfl) (by kernel_rfl) (by kernel_rfl) (fun _ _ _ h => h) (yieldsIf_load_mid (by rfl) _ _ rfl b off rfl (cK d) _ ?hS ?hu ?hd ?hi) hHeld ?rest
  case hS => exact fun W hW => hW.2
  case hu => exact hu105
  case hd => rfl
  case hi => exact hi105
  simp only [Act.put, aW, aU, aT]
  have hS2 : (w1.drew.alloc (.cells (cK d).toArray 121)).cell? ⟨p, 1, none⟩ = some (.map (some mb)) ∧ (w1.drew.alloc (.cells (cK d).toArray 121)).rangeAt b off (cK d) := qQ ((aB.refl [] w1).drew.alloc _) (by simp) (by simp) hcK ⟨c1, hd1⟩
  refine wpAnyH_ready (rs := [10, 14]) (by kernel_rfl) (by simp) ?_
  refine AllReadyH.cons (o := ⟨some 29, _, _, _, _, _⟩) rfl (fun K hK => ?_) (AllReadyH.cons (o := ⟨some 33, _, _, _, _, _⟩) rfl (fun K hK => ?_) AllReadyH.nil)
  ·refine Fr (by rfl) _ _ 117 (by rfl) (by rfl) (by rfl) hL1 ?_
   refine hK.out _ _ hHeld (fun _ => ?_)
   clear hK K
   simp only [Act.put, aW, aU, aT]
   refine wpAnyH_ready (rs := [14]) (by kernel_rfl) (by simp) ?_
   refine AllReadyH.cons (o := ⟨some 33, _, _, _, _, _⟩) rfl (fun K hK => ?_) AllReadyH.nil
   refine Fv (by rfl) _ (by rfl) (b := d) (by rfl) ?_
   refine hK.out _ _ hS2 (fun _ => ?_)
   clear hK K
   simp only [Act.put, aW, aU, aT]
   refine wpAnyH_ready (rs := [15]) (by kernel_rfl) (by simp) ?_
   refine AllReadyH.cons (o := ⟨some 34, _, _, _, _, _⟩) rfl (fun K hK => ?_) AllReadyH.nil
   refine lA TK (by rfl) _ _ (by rfl) (base := 0) (v := .slice a0 (D.blk n).pend.length c0) (l := (D.blk n).pend) (A := some ⟨w1.heap.size, 0, none⟩) (c := 1) (r := [d]) (by rfl) (HOW.out.upd ((aB.refl [] w1).drew.alloc _) (by simp)) (by rfl) (Fx (ty := 121) (aX _ _)) (zP _) (by simp; omega) (by simp; omega) (dH _) ?_
   intro v7 w7 ho7 hg7 hat7
   obtain ⟨a7, c7, hv7e⟩ := ho7.slice
   rewrite [hll] at hv7e
   subst hv7e
   have hv7a : aB ((Value.slice a0 (D.blk n).pend.length c0).ownBlock.toList) w1 w7 := Fy hg7
   have hv7 := hv7a.mono (G := mb :: (Value.slice a0 (D.blk n).pend.length c0).ownBlock.toList) (fun k hk _ => iZ _ hk)
   refine hK.out _ _ (qQ hv7 hGp hGb hcK ⟨c1, hd1⟩) (fun _ => ?_)
   clear hK K
   simp only [Act.put, aW, aU, aT]
   obtain ⟨w8, hst, hm8, hg8⟩ := lS.store (mJ HM.out hv7a hGm) HSrt.out hu101 hLl n (by omega) (.slice a7 ((D.blk n).pend.length + 1) c7)
   have hv8 : aB (mb :: (Value.slice a0 (D.blk n).pend.length c0).ownBlock.toList) w1 w8 := hv7.trans (zW hg8)
   have hat8 : (Value.slice a7 ((D.blk n).pend.length + 1) c7).ownBlock = (Value.slice a0 (D.blk n).pend.length c0).ownBlock ∨ ∀ g, (Value.slice a7 ((D.blk n).pend.length + 1) c7).ownBlock = some g → w1.heap.size ≤ g := hat7.imp id fun h g hg => by have := h g hg; simp at this; omega
   have ho8 : aK cK 121 512 w8 0 (.slice a7 ((D.blk n).pend.length + 1) c7) ((D.blk n).pend ++ [d]) := ho7.upd (zW (r := []) hg8) fun j hj q => by
    obtain rfl := aM.1 hj
    rcases hat8 with e | e
    ·exact hGm (by rw [← e, q]; simp)
    have := e _ q
    have := World.ownsMap.lt HM.out
    omega
   refine wpAnyH_ready (rs := [16]) (by kernel_rfl) (by simp) ?_
   refine AllReadyH.cons (o := ⟨none, _, _, _, _, _⟩) rfl (fun K hK => ?_) AllReadyH.nil
   refine Fw (by rfl) _ _ _ 117 (by rfl) (by rfl) (by rfl) (by rfl) hst ?_
   refine hK.out _ _ (qQ hv8 hGp hGb hcK ⟨c1, hd1⟩) (fun _ => ?_)
   clear hK K
   refine wpAnyH_done (by kernel_rfl) ?_ _
   refine NoPanic.normal ?_
   simp only [Act.put]
   clear ho7 hg7 hat7 hv7a
   go_wp2_with fail
   go_ret
   have hW := HR.out.wrote hn hd5 hv0s ho8 hat8 hm8 hv8
   have hTe := HT.out.eff
   refine ⟨0, _, _, rfl, ?_, ⟨sb, mb, _, ops', hW.1, rfl⟩, ?_, ?_⟩
   ·refine ⟨rfl, aQ _, .inl ⟨rfl, hTe.up.1, hTe.up.2.1, hTe.up.2.2.1, rfl⟩⟩
   ·refine (HT.out.upd.mono (fun k hk _ => by obtain rfl := aM.1 hk; exact hpF)).trans (hv8.mono fun k hk _ => ?_)
    rcases aJ.1 hk with rfl | hk
    ·simp [dO]
    simp only [dO, aJ]
    exact .inr (.inr (.inr (HB0.out k (by simpa using hk))))
   intro k hk
   rcases hW.2 k hk with q | q
   ·exact .inl q
   exact .inr (bG HT.out.upd.size q)
  refine Fv (by rfl) _ (by rfl) (b := d) (by rfl) ?_
  refine hK.out _ _ hS2 (fun _ => ?_)
  clear hK K
  simp only [Act.put, aW, aU, aT]
  refine wpAnyH_ready (rs := [10]) (by kernel_rfl) (by simp) ?_
  refine AllReadyH.cons (o := ⟨some 29, _, _, _, _, _⟩) rfl (fun K hK => ?_) AllReadyH.nil
  refine Fr (by rfl) _ _ 117 (by rfl) (by rfl) (by rfl) hL2 ?_
  refine hK.out _ _ hS2 (fun _ => ?_)
  clear hK K
  simp only [Act.put, aW, aU, aT]
  refine wpAnyH_ready (rs := [15]) (by kernel_rfl) (by simp) ?_
  refine AllReadyH.cons (o := ⟨some 34, _, _, _, _, _⟩) rfl (fun K hK => ?_) AllReadyH.nil
  refine lA TK (by rfl) _ _ (by rfl) (base := 0) (v := .slice a0 (D.blk n).pend.length c0) (l := (D.blk n).pend) (A := some ⟨w1.heap.size, 0, none⟩) (c := 1) (r := [d]) (by rfl) (HOW.out.upd ((aB.refl [] w1).drew.alloc _) (by simp)) (by rfl) (Fx (ty := 121) (aX _ _)) (zP _) (by simp; omega) (by simp; omega) (dH _) ?_
  intro v7 w7 ho7 hg7 hat7
  obtain ⟨a7, c7, hv7e⟩ := ho7.slice
  rewrite [hll] at hv7e
  subst hv7e
  have hv7a : aB ((Value.slice a0 (D.blk n).pend.length c0).ownBlock.toList) w1 w7 := Fy hg7
  have hv7 := hv7a.mono (G := mb :: (Value.slice a0 (D.blk n).pend.length c0).ownBlock.toList) (fun k hk _ => iZ _ hk)
  refine hK.out _ _ (qQ hv7 hGp hGb hcK ⟨c1, hd1⟩) (fun _ => ?_)
  clear hK K
  simp only [Act.put, aW, aU, aT]
  obtain ⟨w8, hst, hm8, hg8⟩ := lS.store (mJ HM.out hv7a hGm) HSrt.out hu101 hLl n (by omega) (.slice a7 ((D.blk n).pend.length + 1) c7)
  have hv8 : aB (mb :: (Value.slice a0 (D.blk n).pend.length c0).ownBlock.toList) w1 w8 := hv7.trans (zW hg8)
  have hat8 : (Value.slice a7 ((D.blk n).pend.length + 1) c7).ownBlock = (Value.slice a0 (D.blk n).pend.length c0).ownBlock ∨ ∀ g, (Value.slice a7 ((D.blk n).pend.length + 1) c7).ownBlock = some g → w1.heap.size ≤ g := hat7.imp id fun h g hg => by have := h g hg; simp at this; omega
  have ho8 : aK cK 121 512 w8 0 (.slice a7 ((D.blk n).pend.length + 1) c7) ((D.blk n).pend ++ [d]) := ho7.upd (zW (r := []) hg8) fun j hj q => by
   obtain rfl := aM.1 hj
   rcases hat8 with e | e
   ·exact hGm (by rw [← e, q]; simp)
   have := e _ q
   have := World.ownsMap.lt HM.out
   omega
  refine wpAnyH_ready (rs := [16]) (by kernel_rfl) (by simp) ?_
  refine AllReadyH.cons (o := ⟨none, _, _, _, _, _⟩) rfl (fun K hK => ?_) AllReadyH.nil
  refine Fw (by rfl) _ _ _ 117 (by rfl) (by rfl) (by rfl) (by rfl) hst ?_
  refine hK.out _ _ (qQ hv8 hGp hGb hcK ⟨c1, hd1⟩) (fun _ => ?_)
  clear hK K
  refine wpAnyH_done (by kernel_rfl) ?_ _
  refine NoPanic.normal ?_
  simp only [Act.put]
  clear ho7 hg7 hat7 hv7a
  go_wp2_with fail
  go_ret
  have hW := HR.out.wrote hn hd5 hv0s ho8 hat8 hm8 hv8
  have hTe := HT.out.eff
  refine ⟨0, _, _, rfl, ?_, ⟨sb, mb, _, ops', hW.1, rfl⟩, ?_, ?_⟩
  ·refine ⟨rfl, aQ _, .inl ⟨rfl, hTe.up.1, hTe.up.2.1, hTe.up.2.2.1, rfl⟩⟩
  ·refine (HT.out.upd.mono (fun k hk _ => by obtain rfl := aM.1 hk; exact hpF)).trans (hv8.mono fun k hk _ => ?_)
   rcases aJ.1 hk with rfl | hk
   ·simp [dO]
   simp only [dO, aJ]
   exact .inr (.inr (.inr (HB0.out k (by simpa using hk))))
  intro k hk
  rcases hW.2 k hk with q | q
  ·exact .inl q
  exact .inr (bG HT.out.upd.size q)
 have he' : ¬ (e : Int) = 0 := by omega
 go_wp2_with fail
 go_ret
 exact ⟨e, _, _, rfl, HT.out.eff.stop [.write n d] he, ⟨sb, mb, L, ops', HR.out, rfl⟩, HT.out.upd.mono (fun k hk _ => by obtain rfl := aM.1 hk; exact hpF), fun k hk => .inl hk⟩
theorem Fz {H : Type} {w : World} {ops : Array Oper} {rest : List Oper} {o : Oper} {a : Act} {Q : Exit → Act → World → Prop} (hg : o.guard = none) (m : Operand) (t : TypeId) (hop : o.op = Op.call { callee := Callee.builtin Builtin.clear, args := #[m], argTypes := #[t] })
  {k e : TypeId} (ht : Tryz.prog.underlying t = some (.map k e)) {R : Value → Option (DataW H × List MemPlace)} {b n : Nat} {D : DataW H} (hm : a.eval m = .map (some b)) (hown : w.ownsMap Tryz.prog k R b n D)
  (hK : ∀ w', w'.ownsMap Tryz.prog k R b 0 (.map []) → aB [b] w w' → wpList Tryz.prog ops Q rest (a.put o.dst (.tuple #[])) w') : wpList Tryz.prog ops Q (o :: rest) a w := by
 refine sP hg fun K' hK' => ?_
 obtain ⟨es, clock, hb, F, hs, rfl⟩ := hown
 have hrun : (Builtin.clear_ #[t] o.type #[.map (some b)]).run Tryz.prog w = .ok (.tuple #[]) { w with heap := w.heap.setIfInBounds b (.map #[] clock) } := by
  simp [Builtin.clear_, nV ht, yY hb, Ko _ hb, Result.andThen]
 unfold Oper.wp
 simp [execOp, hop, resolve, invoke, builtin, hm, hrun, Result.andThen]
 refine hK' _ _ (hK _ ⟨#[], clock, Go.ChangeMaps.heap_setBlock_same hb _, ⟨by simp, MapKept.stamped_empty _, by simp⟩, aQ _, rfl⟩ ?_)
 refine ⟨rfl, rfl, ?_, fun j hj hn => Go.ChangeMaps.heap_setBlock_other hb _ (by simpa using hn)⟩
 simp
theorem FA : ∀ (l : List Bs) (n : Nat) (b : Bs), n < l.length → aP cK (l.set n b) = (aP cK l).take (n * 512) ++ cK b ++ (aP cK l).drop (n * 512 + 512)
 | [], n, b, h => by simp at h
 | x :: l, 0, b, _ => by
  have : (aP cK (x :: l)) = cK x ++ aP cK l := by simp [aP]
  rw [this, Nat.zero_mul, wQ, List.nil_append, iJ, List.drop_left' (iU x)]
  simp [aP]
 | x :: l, n + 1, b, h => by
  have e : (aP cK (x :: l)) = cK x ++ aP cK l := by simp [aP]
  have e2 : (aP cK ((x :: l).set (n + 1) b)) = cK x ++ aP cK (l.set n b) := by simp [aP]
  have h1 : (n + 1) * 512 = (cK x).length + n * 512 := by rw [iU]; omega
  rw [e, e2, FA l n b (by simpa using h), h1, List.take_length_add_append, yN, List.drop_length_add_append]
  simp
theorem FB {ops : Array Oper} {o : Oper} {a : Act} {w : World} {K : Act → World → Prop} {Q : Exit → Act → World → Prop} {E : Prop} (hgd : o.guard = none) (x y : Operand) (hop : o.op = Op.store 121 x y) {B n : Nat} {l : List Bs} {b : Bs} {ty : TypeId}
  (hx : a.eval x = .pointer (some ⟨B, n * 512, none⟩)) (hy : a.eval y = .agg (cK b).toArray) (hb : w.heap[B]? = some (.cells (aP cK l).toArray ty (0, 0))) (hn : n < l.length)
  (hK : K (a.put o.dst undef) (w.setRow B (aP cK (l.set n b)).toArray)) : if Region.wanted o (yielded ops a.tmps) = true then Oper.wp Tryz.prog o a w K Q else E := by
 have hw : Region.wanted o (yielded ops a.tmps) = true := by simp [Region.wanted, hgd]
 rw [aF hw]
 have hl := gJ TK l
 have h1 : ∀ v ∈ cK b, v.oneCell' = true := zP [b] b (by simp)
 have hr := run_storeCells_at Tryz.prog B (n * 512) ty (cK b) 0 (aP cK l).toArray w hb (by rw [iU, lI, hl]; omega) h1
 have hst : (Instr.storeAt 121 (.pointer (some ⟨B, n * 512, none⟩)) (.agg (cK b).toArray)).run Tryz.prog w = .ok () (w.setRow B (aP cK (l.set n b)).toArray) := by
  have hi := uI
  cases hq : Tryz.prog.info? 121 with
  | none => simp [hq] at hi
  | some i =>
   have hs : i.size = 512 := by simpa [hq] using hi
   rw [FA l n b hn]
   simp only [kU, iU] at hr
   simp only [Instr.storeAt, Instr.sureAddr, qF, vB, qG]
   simp [storeVar, sizeOf, typeInfo, hq, Value.cells, hs, iU, hr]
 unfold Oper.wp
 simp only [execOp, hop, hx, hy, qF, hst, qG]
 exact hK
theorem FD (w : World) (b : Nat) (cs : Array Value) : aB [b] w (w.drew.setRow b cs) := by
 refine ⟨rfl, rfl, ?_, fun k hk hn => ?_⟩
 ·show w.heap.size ≤ (w.heap.modify b _).size
  rw [Array.size_modify]
  exact aQ _
 show (w.heap.modify b _)[k]? = _
 rw [Array.getElem?_modify, aE (fun e => hn (by rw [e]; exact aM.2 rfl))]
def lT (D : aI) (L : List (Nat × Value)) (left : Lit → Bool) : List Bs := (List.range D.n).map fun i => if (bF L i).isSome && !left (.int .i64 i) then (D.blk i).view else (D.blk i).safe
theorem LT (D : aI) (L : List (Nat × Value)) (left : Lit → Bool) : (lT D L left).length = D.n := by simp [lT]
theorem LU (D : aI) (L : List (Nat × Value)) : lT D L (Maps.has (nA L)) = mI D := by
 unfold lT mI
 apply uZ
 intro i _
 rw [xF, Fj zU]
 cases (bF L i).isSome <;> simp
theorem LV {w : World} {p : Nat} {D : aI} {sb mb : Nat} {L : List (Nat × Value)} {ops : Int} (h : gK w p D sb mb L ops) {left : Lit → Bool} (hl : ∀ kl, left kl = false) : lT D L left = (List.range D.n).map fun i => (D.blk i).view := by
 unfold lT
 apply uZ
 intro i _
 rw [hl]
 cases hg : bF L i with
 | none => simp [Fq (h.rest i hg)]
 | some v => simp
theorem LW (D : aI) {L : List (Nat × Value)} {n : Nat} {v : Value} (hm : bF L n = some v) (left : Lit → Bool) : lT D L (fun z => left z && !z.sameKey (.int .i64 n)) = (lT D L left).set n (D.blk n).view := by
 apply List.ext_getElem (by simp [lT])
 intro i h1 h2
 rw [List.getElem_set]
 simp only [lT, List.getElem_map, List.getElem_range]
 have e : (Lit.int .i64 (i : Int)).sameKey (.int .i64 (n : Int)) = decide (i = n) := zU.same i n
 rw [e]
 by_cases hi : n = i
 ·subst hi
  simp [hm]
 rw [aE hi]
 have : decide (i = n) = false := by simp; omega
 rw [this]
 simp
theorem LX {L : List (Nat × Value)} {x : Int} {v : Value} (hat : ∀ zd, (nA L).atKey (.int .i64 x) zd = .held v) : ∃ n : Nat, x = n ∧ (n, v) ∈ L := by
 have h := hat (.map [])
 unfold nA DataW.atKey at h
 dsimp only at h
 split at h
 ·rename_i p hf
  have hm := List.mem_of_find?_eq_some hf
  have hk := List.find?_some hf
  obtain ⟨q, hq, rfl⟩ := cV.1 hm
  dsimp only at h hk
  cases h
  refine ⟨q.1, ?_, hq⟩
  have : decide (IntKind.i64 = IntKind.i64 ∧ (q.1 : Int) = x) = true := hk
  simp only [decide_eq_true_eq] at this
  exact this.2.symm
 cases h
theorem gK.flushed {w w' : World} {p : Nat} {D : aI} {sb mb : Nat} {L : List (Nat × Value)} {ops : Int} (h : gK w p D sb mb L ops) (hu : aB [sb, mb] w w')
  (hs : w'.heap[sb]? = some (.cells (aP cK ((List.range D.n).map fun i => (D.blk i).view)).toArray 121 (0, 0))) (hm : w'.ownsMap (H := Value) Tryz.prog 3 iN mb 0 (.map [])) :
  gK w' p { D with blk := exec1 D.blk .flush } sb mb [] ops := by
 have hnd := h.nodup
 simp only [dO, kC, aJ, not_or] at hnd
 obtain ⟨⟨a1, a2, -⟩, ⟨a4, -⟩, -⟩ := hnd
 refine ⟨(hu.block p (aH h.box) (by simp; exact ⟨a1, a2⟩)).trans h.box, hs, hm, DJ, by simp, fun i _ => rfl, ?_, h.n1, h.n2, h.f1, h.f2, h.sized.exec1 trivial, fun i => dH _⟩
 simp only [dO, kT, kC, aJ, cA, cG, not_or, not_false_eq_true, List.nodup_nil, and_true]
 exact ⟨⟨a1, a2⟩, a4⟩
theorem vP (w : World) {p : Nat} {D : aI} {F : List Nat} (h : bN w p D F) (hwr : D.wr ≤ 137438953472) :
  Calls Tryz.prog 105 #[.pointer (some ⟨p, 0, none⟩)] w (dE w p D F [.flush]) := by
 obtain ⟨sb, mb, L, ops, h, rfl⟩ := h
 have HO := aA (BR w h 0 (by have := h.n1; omega))
 have HD := aA h
 have hn2 := h.n2
 have hpF : p ∈ dO p sb mb L := by simp [dO]
 clear h
 go_in
 go_wp2_with fail
 refine HO.out.mono ?_
 rintro r w1 ⟨e, fuse, down, ops', rfl, T⟩
 have HT := aA T
 have HR := aA (HD.out.ticked T)
 by_cases he : e = 0
 ·subst he
  have c1 := aD T.box 1
  simp only [bA, bB, bS] at c1
  have hmap := HR.out.map
  have hfoot := HR.out.nodup
  simp only [dO, kC, aJ, not_or] at hfoot
  have hlen : ∀ i, (D.blk i).pend.length ≤ 137438953472 := fun i => bG (HD.out.cnt i) hwr
  have hsb := aH HR.out.safe
  have hmb := World.ownsMap.lt HR.out.map
  have hpl := aH HR.out.box
  have Hlen := aA hlen
  clear T hlen
  go_wp2_with (first
   | (at_range; refine wpList_range_own _ rfl _ 117 rfl 3 116 zR Tryz.underlying117 _ mb _ _ rfl hmap ?_; intro w0 hrg0 hg0 hs0)
   | fail)
  go_frame
  go_loopw [4] (fun _ wr => ∃ (left : Lit → Bool) (cnt : Nat), wr.ranges (H := Value) Tryz.prog 3 iN mb w1.heap.size L.length (nA L) left cnt ∧ Hid (wr.heap[sb]? = some (.cells (aP cK (lT D L left)).toArray 121 (0, 0))) ∧ Hid (aB [sb] w1 wr))
   (fun _ wr => wr.rangeLeft mb w1.heap.size)
  case atStart =>
   refine ⟨_, _, hrg0, aA ?_, aA ⟨hg0.os, hg0.output, hg0.size, fun k hk _ => hg0.block k hk (by simp)⟩⟩
   rw [LU, hg0.block sb hsb (by simp)]
   exact HR.out.safe
  case round =>
   obtain ⟨left, cnt, hrg, HS, HU⟩ := hrel
   have c1 : wr.cell? ⟨p, 1, none⟩ = some (.map (some mb)) := (iD (HU.out.block p hpl (by simp; exact hfoot.1.1))).trans c1
   go_wp2_with (first
    | (at_next; refine wpList_next_ranges _ rfl _ rfl 3 zR iN (Value.int .i64) (fun v : Value => v) (fun key kl hk => by obtain ⟨x, hx, -⟩ := keyOf_int_inv Tryz.underlying3 hk; exact ⟨x, hx⟩) (fun v y hv => ⟨v, rfl⟩) mb w1.heap.size L.length _ _ _ rfl hrg ?_ ?_)
    | fail)
   ·intro hc0 hl0
    have hown := hrg.owns
    clear hrg
    go_wp2_with (first
     | (refine Fz (o := ⟨none, _, _, _, _, _⟩) rfl _ 117 rfl Tryz.underlying117 rfl hown ?_; intro w3 hm3 hu3)
     | fail)
    go_ret
    have hu := HU.out.mono (G := [sb, mb]) (fun k hk _ => by simp at hk ⊢; exact .inl hk)
    have hu4 : aB [sb, mb] w1 w3 := hu.trans (hu3.mono fun k hk _ => by simp at hk ⊢; exact .inr hk)
    have hs4 := HS.out
    have hme : lT D L left = (List.range D.n).map fun i => (D.blk i).view := LV HR.out hl0
    rw [hme] at hs4
    have hd := HR.out.flushed hu4 ((hu3.block sb (aH hs4) (by simp; exact hfoot.2.1.1)).trans hs4) hm3
    have hTe := HT.out.eff
    refine ⟨0, { n := D.n, blk := exec1 D.blk .flush, fuse := fuse, down := down, wr := D.wr }, _, rfl, ⟨rfl, by simp, .inl ⟨rfl, hTe.up.1, hTe.up.2.1, hTe.up.2.2.1, rfl⟩⟩, ⟨sb, mb, [], ops', hd, rfl⟩, ?_, ?_⟩
    ·refine (HT.out.upd.mono (fun k hk _ => by obtain rfl := aM.1 hk; exact hpF)).trans (hu4.mono fun k hk _ => ?_)
     simp only [aJ, cA, cG] at hk
     rcases hk with rfl | rfl <;> simp [dO]
    intro k hk
    simp only [dO, kT, aJ, cA, cG] at hk ⊢
    rcases hk with rfl | rfl | rfl <;> simp
   intro x v kl y1 y2 w2 cnt2 hkey hlk hv hat hrg1 hlt hg1 hs1 hen
   obtain ⟨x', hx', rfl, -⟩ := keyOf_int_inv Tryz.underlying3 hkey
   cases hx'
   simp only [iN, fY, Prod.mk.injEq] at hv
   obtain ⟨rfl, rfl⟩ := hv
   obtain ⟨k, rfl, hm⟩ := LX hat
   have hgk := mW sX HR.out.srt hm
   obtain ⟨hown, hne, hkn⟩ := HR.out.row (k, v) hm
   dsimp only at hown hne hkn
   obtain ⟨g, c, rfl, hrg2⟩ := hown.lastK hne
   have hU2 : aB [sb] w1 w2 := aB.grown HU.out hg1 (fun k hk => by cases hk; exact aQ _)
   have hgb := hown.block g rfl
   have hgsb : g ≠ sb := fun e => hfoot.2.1.2 (cV.2 ⟨(k, _), hm, by simp [gE, Value.ownBlock, e]⟩)
   have c0' := aD HR.out.box 0
   simp only [bA, bB] at c0'
   have c0 : w2.cell? ⟨p, 0, none⟩ = some (.slice (some ⟨sb, 0, none⟩) D.n D.n) := (iD (hU2.block p hpl (by simp; exact hfoot.1.1))).trans c0'
   have hrg3 : w2.rangeAt g (((D.blk k).pend.length - 1) * 512) (cK ((D.blk k).pend.getLast hne)) := xI hrg2 (hU2.block g hgb.2 (by simp; exact hgsb))
   have hpos : 0 < (D.blk k).pend.length := oO.2 hne
   have hcap := Hlen.out k
   have hvw : (D.blk k).view = (D.blk k).pend.getLast hne := Fp hne
   have hS2 : w2.heap[sb]? = some (.cells (aP cK (lT D L left)).toArray 121 (0, 0)) := (hg1.block sb (aH HS.out) (by simp; omega)).trans HS.out
   have hm0 : wr.rangeLeft mb w1.heap.size = cnt := hrg.left_eq
   generalize (D.blk k).pend.getLast hne = lst at *
   generalize (D.blk k).pend.length = m at *
   have hm1 : (m : Int) - 1 = ((m - 1 : Nat) : Int) := by omega
   generalize hm1' : m - 1 = m1 at *
   have hw1 : IntKind.i64.wrap (m1 : Int) = (m1 : Int) := fF _ (by omega)
   have l1 : (m1 : Int) < (m : Int) := by omega
   have l2 : (k : Int) < (D.n : Int) := by omega
   clear hown hrg2 hrg hkey hlk hat hg1 hs1
   have hu105 := Tryz.underlying121
   have hi105 : (Tryz.prog.info? 121).map (·.size) = some (cK lst).length := by rw [iU]; exact uI
   have hcK : 0 < (cK lst).length := by rw [iU]; omega
   have hu3 : aB [sb] w2 (w2.drew.setRow sb (aP cK ((lT D L left).set k lst)).toArray) := FD _ _ _
   go_wp2_with fail
   refine wp_region_noPanic ?_
   refine wp_region_held_drew (S := fun w' => w'.cell? ⟨p, 0, none⟩ = some (.slice (some ⟨sb, 0, none⟩) D.n D.n) ∧ w'.rangeAt g (m1 * 512) (cK lst)) (by kernel_rfl) (qQ (aB.refl [] w2).drew (by simp) (by simp) hcK ⟨c0, hrg3⟩) (fun hHeld => ?_)
   refine wpAnyH_take (i := 0) (oi := ⟨some 21, _, _, _, _, _⟩) (v := .pointer (some ⟨p, 0, none⟩)) rfl (by kernel_rfl) (by kernel_rfl) (by kernel_rfl) (fun _ _ _ h => h) (Or.inl ⟨by rfl, by (intro W hSW; obtain ⟨hS1, hS2⟩ := hSW; go_simp)⟩) hHeld ?_
   simp only [Act.put, aW, aU, aT]
   refine wpAnyH_take (i := 1) (oi := ⟨some 22, _, _, _, _, _⟩) (v := .pointer (some ⟨p, 0, none⟩)) rfl (by kernel_rfl) (by kernel_rfl) (by kernel_rfl) (fun _ _ _ h => h) (Or.inl ⟨by rfl, by (intro W hSW; obtain ⟨hS1, hS2⟩ := hSW; go_simp)⟩) hHeld ?_
   simp only [Act.put, aW, aU, aT]
   refine wpAnyH_take (i := 2) (oi := ⟨some 23, _, _, _, _, _⟩) (v := .pointer (some ⟨p, 0, none⟩)) rfl (by kernel_rfl) (by kernel_rfl) (by kernel_rfl) (fun _ _ _ h => h) (Or.inl ⟨by rfl, by (intro W hSW; obtain ⟨hS1, hS2⟩ := hSW; go_simp)⟩) hHeld ?_
   simp only [Act.put, aW, aU, aT]
   refine wpAnyH_take (i := 3) (oi := ⟨some 24, _, _, _, _, _⟩) (v := .slice (some ⟨sb, 0, none⟩) D.n D.n) rfl (by kernel_rfl) (by kernel_rfl) (by kernel_rfl) (fun _ _ _ h => h) (Or.inl ⟨by rfl, by (intro W hSW; obtain ⟨hS1, hS2⟩ := hSW; go_simp)⟩) hHeld ?_
   simp only [Act.put, aW, aU, aT]
   refine wpAnyH_take (i := 4) (oi := ⟨some 25, _, _, _, _, _⟩) (v := .int .i64 k) rfl (by kernel_rfl) (by kernel_rfl) (by kernel_rfl) (fun _ _ _ h => h) (Or.inl ⟨by rfl, by (intro W hSW; obtain ⟨hS1, hS2⟩ := hSW; go_simp)⟩) hHeld ?_
   simp only [Act.put, aW, aU, aT]
   refine wpAnyH_take (i := 5) (oi := ⟨some 26, _, _, _, _, _⟩) (v := .slice (some ⟨g, 0, none⟩) m c) rfl (by kernel_rfl) (by kernel_rfl) (by kernel_rfl) (fun _ _ _ h => h) (Or.inl ⟨by rfl, by (intro W hSW; obtain ⟨hS1, hS2⟩ := hSW; go_simp)⟩) hHeld ?_
   simp only [Act.put, aW, aU, aT]
   refine wpAnyH_take (i := 6) (oi := ⟨some 27, _, _, _, _, _⟩) (v := .slice (some ⟨g, 0, none⟩) m c) rfl (by kernel_rfl) (by kernel_rfl) (by kernel_rfl) (fun _ _ _ h => h) (Or.inl ⟨by rfl, by (intro W hSW; obtain ⟨hS1, hS2⟩ := hSW; go_simp)⟩) hHeld ?_
   simp only [Act.put, aW, aU, aT]
   refine wpAnyH_take (i := 7) (oi := ⟨some 28, _, _, _, _, _⟩) (v := .int .i64 m) rfl (by kernel_rfl) (by kernel_rfl) (by kernel_rfl) (fun _ _ _ h => h) (Or.inl ⟨by rfl, by (intro W hSW; obtain ⟨hS1, hS2⟩ := hSW; go_simp)⟩) hHeld ?_
   simp only [Act.put, aW, aU, aT]
   refine wpAnyH_take (i := 8) (oi := ⟨some 29, _, _, _, _, _⟩) (v := .int .i64 m1) rfl (by kernel_rfl) (by kernel_rfl) (by kernel_rfl) (fun _ _ _ h => h) (Or.inl ⟨by rfl, by (intro W hSW; obtain ⟨hS1, hS2⟩ := hSW; go_simp)⟩) hHeld ?_
   simp only [Act.put, aW, aU, aT]
   refine wpAnyH_take (i := 9) (oi := ⟨some 30, _, _, _, _, _⟩) (v := .pointer (some ⟨g, m1 * 512, none⟩)) rfl (by kernel_rfl) (by kernel_rfl) (by kernel_rfl) (fun _ _ _ h => h) (Or.inl ⟨by rfl, by (intro W hSW; obtain ⟨hS1, hS2⟩ := hSW; go_simp)⟩) hHeld ?_
   simp only [Act.put, aW, aU, aT]
   refine' wpAnyH_take (i := 10) (oi := ⟨some 31, _, _, _, _, _⟩) (v := _) rfl (by kernel_rfl) (by kernel_rfl) (by kernel_rfl) (fun _ _ _ h => h) (yieldsIf_load_mid (by rfl) _ _ rfl g (m1 * 512) rfl (cK lst) _ ?hS ?hu ?hd ?hi) hHeld ?rest
   case hS => exact fun W hW => hW.2
   case hu => exact hu105
   case hd => rfl
   case hi => exact hi105
   simp only [Act.put, aW, aU, aT]
   refine wpAnyH_take (i := 11) (oi := ⟨some 32, _, _, _, _, _⟩) (v := .pointer (some ⟨sb, k * 512, none⟩)) rfl (by kernel_rfl) (by kernel_rfl) (by kernel_rfl) (fun _ _ _ h => h) (Or.inl ⟨by rfl, by (intro W hSW; obtain ⟨hS1, hS2⟩ := hSW; go_simp)⟩) hHeld ?_
   simp only [Act.put, aW, aU, aT]
   refine wpAnyH_ready (rs := [12]) (by kernel_rfl) (by simp) ?_
   refine AllReadyH.cons (o := ⟨none, _, _, _, _, _⟩) rfl (fun K hK => ?_) AllReadyH.nil
   refine FB (by rfl) _ _ (by rfl) (B := sb) (n := k) (l := lT D L left) (b := lst) (by rfl) (by rfl) hS2 (by rw [LT]; exact hkn) ?_
   refine hK.out _ _ (qQ hu3 (by simp; exact hfoot.1.1) (by simp; exact hgsb) hcK ⟨c0, hrg3⟩) (fun _ => ?_)
   clear hK K
   refine wpAnyH_done (by kernel_rfl) ?_ _
   refine NoPanic.normal ?_
   simp only [Act.put]
   go_wp2_with fail
   have hg3 : w2.grownBy (w2.drew.setRow sb (aP cK ((lT D L left).set k lst)).toArray) (some sb) := ⟨hu3.os, rfl, hu3.output, hu3.size, fun i hi hne => hu3.block i hi (by simp; intro e; exact hne (by rw [e]))⟩
   have hrg4 := hrg1.kept hg3 (by simp; exact fun e => hfoot.2.1.1 e.symm) (by simp; omega)
   refine ⟨⟨_, cnt2, hrg4, aA ?_, aA (hU2.trans hu3)⟩, ?_⟩
   ·rw [LW D hgk, hvw]
    exact Bh _ _ _ _ _ _ hS2
   rw [hm0, hrg4.left_eq]
   exact hlt
 have he' : ¬ (e : Int) = 0 := by omega
 go_wp2_with fail
 go_ret
 exact ⟨e, _, _, rfl, HT.out.eff.stop [.flush] he, ⟨sb, mb, L, ops', HR.out, rfl⟩, HT.out.upd.mono (fun k hk _ => by obtain rfl := aM.1 hk; exact hpF), fun k hk => .inl hk⟩
def aI.new (n : Nat) : aI := ⟨n, fun _ => ⟨cH, []⟩, -1, false, 0⟩
theorem LY (n : Nat) : aP cK (List.replicate n cH) = List.replicate (n * 512) (.int .u8 0) := by
 induction n with
 | zero => simp [aP]
 | succ n ih =>
  rw [wJ]
  show cK cH ++ aP cK (List.replicate n cH) = _
  rw [ih, LN, List.replicate_append_replicate]
  congr 1
  omega
theorem LZ (n : Nat) : madeCells nK (n * 512) = (aP cK (List.replicate n cH)).toArray := by
 rw [LY]
 apply Array.ext
 ·rw [size_madeCells]; simp
 intro i h1 h2
 simp only [madeCells, Array.getElem_map, Array.getElem_range, List.getElem_toArray, List.getElem_replicate]
 have h : i % nK.size < nK.size := mP _ (by rw [BW]; omega)
 rw [getElem!_pos nK (i % nK.size) h]
 exact Array.getElem_replicate ..
theorem Ma {w : World} {ops : Array Oper} {rest : List Oper} {o : Oper} {a : Act} {Q : Exit → Act → World → Prop} (hg : o.guard = none) (x y : Operand) (hop : o.op = Op.makeSlice 116 x y) {n : Nat} (hn : n ≤ 512)
  (hx : a.eval x = .int .i64 n) (hy : a.eval y = .int .i64 n)
  (h : wpList Tryz.prog ops Q rest (a.put o.dst (.slice (some ⟨w.heap.size, 0, none⟩) n n)) (w.alloc (.cells (aP cK (List.replicate n cH)).toArray 121))) : wpList Tryz.prog ops Q (o :: rest) a w := by
 refine sP hg fun K' hK' => ?_
 obtain ⟨i, h0, h1, h2, h3⟩ := kD zQ
 have hrun := run_make (P := Tryz.prog) w 116 121 i _ Tryz.underlying116 h0 h1 .i64 .i64 (n : Int) (n : Int) (by omega) (Ba _) (by rw [h3]; omega) (by omega)
 have e : madeCells (Value.agg nK).cells (Int.toNat (n : Int) * 512) = (aP cK (List.replicate n cH)).toArray := by
  rw [oP]
  exact LZ n
 rw [h2] at hrun
 have e' : madeCells (Value.agg (Array.replicate 512 (.int .u8 0))).cells (Int.toNat (n : Int) * 512) = (aP cK (List.replicate n cH)).toArray := e
 rw [e', oP] at hrun
 unfold Oper.wp
 simp only [execOp, hop, hx, hy, qF, hrun, qG]
 exact hK' _ _ h
def BZ (w : World) (n : Nat) (r : Ending) (w' : World) : Prop := ∃ (p : Nat) (F : List Nat), r = .returned (.tuple #[.pointer (some ⟨p, 0, none⟩), .int .i64 0]) ∧ bN w' p (aI.new n) F ∧ aB [] w w' ∧ ∀ k ∈ F, w.heap.size ≤ k
theorem Ca (w : World) (n : Nat) (h1 : 64 ≤ n) (h2 : n ≤ 512) : Calls Tryz.prog 31 #[.int .i64 n] w (BZ w n) := by
 have l1 : ¬ (n : Int) < 64 := by omega
 have l2 : ¬ (512 : Int) < (n : Int) := by omega
 have hmm := @run_makeMap Tryz.prog
 go_in
 go_wp2_with (first
  | (refine Ma rfl _ _ rfl h2 rfl rfl ?_)
  | fail)
 go_ret2
 refine ⟨_, _, rfl, ⟨w.heap.size, w.heap.size + 1, [], 0, ?_, rfl⟩, (((aB.refl [] w).alloc _).alloc _).alloc _, ?_⟩
 ·have e1 : (mI (aI.new n)) = List.replicate n cH := JX.2 ⟨zV _, fun b hb => by obtain ⟨i, -, rfl⟩ := cV.1 hb; rfl⟩
  refine ⟨?_, ?_, ?_, DJ, by simp, fun i _ => rfl, ?_, h1, h2, by simp [aI.new], by simp [aI.new], ?_, fun i => dH _⟩
  ·rw [heap_alloc, aF (by simp)]; rfl
  ·rw [e1, heap_alloc, aE (by simp; omega), heap_alloc, aE (by simp), heap_alloc, aF rfl]
  ·have h := World.ownsMap_made (H := Value) (w.alloc (.cells (aP cK (List.replicate n cH)).toArray 121)) Tryz.prog 3 iN
   have e2 : (w.alloc (.cells (aP cK (List.replicate n cH)).toArray 121)).heap.size = w.heap.size + 1 := by simp
   rw [e2] at h
   exact mJ h ((aB.refl [] _).alloc _) (by simp)
  ·simp [dO]; omega
  intro i b hb
  simp only [aI.new, aL.poss, aJ, cA, cG] at hb
  subst hb
  exact rR
 intro k hk
 simp only [dO, kT, aJ, cA, cG] at hk
 rcases hk with rfl | rfl | rfl <;> omega
end Go.Proofs.YtgpefiacbipfpaaGreatDoor
