/- What is done to one file is seen in no other one: the walk of FsdirApart. Opening rows of calls. Rows of texts: SameTexts; a live file system beside rows of the call's own. -/
import Derived.Lib.ConvBytes
import Derived.Test.YteepgehjkcahiaaGreatC37
namespace Go.Proofs.YteepgehjkcahiaaGreat
open Go.RowKit Go.Maps
section
variable {w0 w : World} {v p room : Nat} {A B C : Bs} {c : Nat} {last : Files}
end
end Go.Proofs.YteepgehjkcahiaaGreat

namespace Go.Proofs.YteepgehjkcahiaaGreat
open Go.ChangeShapes Go.WideShapes Go.ChangeAt Go.RowKit Go.Deep
structure CallR where
 kind : Int
 nm : ByteArray
 dst : ByteArray
 dv : Value
 d : Bs
 at_ : Int
 n : Int
 pv : Value
 pk : List Int
structure CallAt (w : World) (b o : Nat) (x : CallR) : Prop where
 c0 : w.cell? ⟨b, o, none⟩ = some (.int .i64 x.kind)
 c1 : w.cell? ⟨b, o + 1, none⟩ = some (.string x.nm)
 c2 : w.cell? ⟨b, o + 2, none⟩ = some (.string x.dst)
 c3 : w.cell? ⟨b, o + 3, none⟩ = some x.dv
 c4 : w.cell? ⟨b, o + 4, none⟩ = some (.int .i64 x.at_)
 c5 : w.cell? ⟨b, o + 5, none⟩ = some (.int .i64 x.n)
 c6 : w.cell? ⟨b, o + 6, none⟩ = some x.pv
 rd : Rd w x.dv x.d
 rz : RdZ w x.pv x.pk
structure CallOk (w : World) (x : CallR) : Prop where
 kind : In64 x.kind
 nm : x.nm.size ≤ 140737488351232
 dst : x.dst.size ≤ 140737488351232
 d : x.d.length ≤ 140737488351232
 dOwn : x.d ≠ [] → ∀ g, x.dv.ownBlock = some g → g < w.heap.size
 at_ : In64 x.at_
 n : In64 x.n
 pkl : x.pk.length ≤ 140737488351232
 pk : ∀ z ∈ x.pk, -9223372036854775808 ≤ z ∧ z ≤ 9223372036854775807
 pOwn : x.pk ≠ [] → ∀ g, x.pv.ownBlock = some g → g < w.heap.size
theorem len7 {α : Type} {l : List α} (h : l.length = 7) : ∃ a b c d e f g, l = [a, b, c, d, e, f, g] := by
 match l, h with
 | [a, b, c, d, e, f, g], _ => exact ⟨a, b, c, d, e, f, g, rfl⟩
theorem cellsCall : Tryz.prog.cellsOf 49 = 7 := by kernel_rfl
section
variable {H : Type} {enc : TypeId × Value → H} {w : World} {base : Nat} {spare : Nat → Bool} {held : Bool}
theorem open_call {n : Nat} {cs : List Value} {y : DataW H × List MemPlace} (h : DataW.trod enc Tryz.prog w base spare held n 49 cs = some y) (hw : Wt 49 y.1) :
  ∃ x : CallR, (∀ b o, (∀ i (h : i < cs.length), w.cell? ⟨b, o + i, none⟩ = some cs[i]) → CallAt w b o x) ∧ CallOk w x := by
 obtain ⟨ys, n', hn', hy, hlen, hyl, hf⟩ := DataW.trod_struct Tryz.underlying49 h
 subst hy
 rw [cellsCall] at hlen
 obtain ⟨k0, k1, k2, k3, k4, k5, k6, rfl⟩ := len7 hlen
 have hyl4 : ys.length = 7 := hyl
 have g0 : DataW.trod enc Tryz.prog w base spare held n' 3 (List.take (Tryz.prog.cellsOf 3) [k0, k1, k2, k3, k4, k5, k6]) = ys[0]? := hf 0 _ rfl
 have g1 : DataW.trod enc Tryz.prog w base spare held n' 9 (List.take (Tryz.prog.cellsOf 9) [k1, k2, k3, k4, k5, k6]) = ys[1]? := hf 1 _ rfl
 have g2 : DataW.trod enc Tryz.prog w base spare held n' 9 (List.take (Tryz.prog.cellsOf 9) [k2, k3, k4, k5, k6]) = ys[2]? := hf 2 _ rfl
 have g3 : DataW.trod enc Tryz.prog w base spare held n' 32 (List.take (Tryz.prog.cellsOf 32) [k3, k4, k5, k6]) = ys[3]? := hf 3 _ rfl
 have g4 : DataW.trod enc Tryz.prog w base spare held n' 3 (List.take (Tryz.prog.cellsOf 3) [k4, k5, k6]) = ys[4]? := hf 4 _ rfl
 have g5 : DataW.trod enc Tryz.prog w base spare held n' 3 (List.take (Tryz.prog.cellsOf 3) [k5, k6]) = ys[5]? := hf 5 _ rfl
 have g6 : DataW.trod enc Tryz.prog w base spare held n' 22 (List.take (Tryz.prog.cellsOf 22) [k6]) = ys[6]? := hf 6 _ rfl
 rw [cellsInt, List.getElem?_eq_getElem (by omega)] at g0 g4 g5
 rw [cellsStr, List.getElem?_eq_getElem (by omega)] at g1 g2
 rw [cellsBs, List.getElem?_eq_getElem (by omega)] at g3
 rw [cellsInts, List.getElem?_eq_getElem (by omega)] at g6
 obtain ⟨kd, e0, z0⟩ := get_int g0
 obtain ⟨nm, e1, z1, -⟩ := get_str g1 (wt_field Tryz.underlying49 hw (j := 1) rfl (List.getElem?_eq_getElem (by omega)))
 obtain ⟨dst, e2, z2, -⟩ := get_str g2 (wt_field Tryz.underlying49 hw (j := 2) rfl (List.getElem?_eq_getElem (by omega)))
 obtain ⟨dv, d, e3, hd1, hd2, hd3⟩ := open_bs g3 (wt_field Tryz.underlying49 hw (j := 3) rfl (List.getElem?_eq_getElem (by omega)))
 obtain ⟨at_, e4, z4⟩ := get_int g4
 obtain ⟨nn, e5, z5⟩ := get_int g5
 obtain ⟨pv, pk, e6, hp1, hp2, hp3, hp4⟩ := open_zs g6 (wt_field Tryz.underlying49 hw (j := 6) rfl (List.getElem?_eq_getElem (by omega)))
 simp at e0 e1 e2 e3 e4 e5 e6
 subst e0 e1 e2 e3 e4 e5 e6
 refine ⟨⟨kd, nm, dst, k3, d, at_, nn, k6, pk⟩, fun b o h => ⟨h 0 (by simp), h 1 (by simp), h 2 (by simp), h 3 (by simp), h 4 (by simp), h 5 (by simp), h 6 (by simp), hd1, hp1⟩, ⟨z0, z1, z2, hd2, hd3, z4, z5, hp2, hp3, hp4⟩⟩
theorem open_calls {n : Nat} {cs : List Value} {y : DataW H × List MemPlace} (h : DataW.trod enc Tryz.prog w base spare held n 47 cs = some y) (hw : Wt 47 y.1) :
  ∃ (v : Value) (l : List CallR), cs = [v] ∧ SlAt 7 CallAt w v l ∧ (∀ x ∈ l, CallOk w x) := by
 obtain ⟨v, l, rfl, h1, h2, -, -, -⟩ := open_sl 7 (by omega) CallAt (CallOk w) Tryz.underlying47 cellsCall (fun n hn cs y hy hwy => open_call hy hwy) h hw
 exact ⟨v, l, rfl, h1, h2⟩
end
theorem TZ : RowT cZ 1 8 22 3 where
 len := fun _ => rfl
 pos := by omega
 und := Tryz.underlying22
 info := by
  obtain ⟨i, h, h1, h2, h3⟩ := info_parts (show (Tryz.prog.info? 3).map (fun i => (i.zero, i.size, i.bytes)) = some (some (.int .i64 0), 1, 8) by kernel_rfl)
  exact ⟨i, _, h, h1, h2, h3, rfl⟩
theorem CallAt.keep {w w' : World} (u : Upd [] w w') {b o : Nat} {x : CallR} (h : CallAt w b o x) : CallAt w' b o x :=
 ⟨cell_keep u h.c0, cell_keep u h.c1, cell_keep u h.c2, cell_keep u h.c3, cell_keep u h.c4, cell_keep u h.c5, cell_keep u h.c6, h.rd.keep u, h.rz.keep TZ u⟩
end Go.Proofs.YteepgehjkcahiaaGreat

namespace Go.Proofs.YteepgehjkcahiaaGreat
open Go.RowKit Go.Maps
theorem TT : RowT cT 1 16 51 9 := TT4
theorem oneT (l : List Bs) : ∀ x ∈ l, ∀ u ∈ cT x, u.oneCell' = true := by
 intro x _ u hu
 obtain rfl := List.mem_singleton.1 hu
 rfl
abbrev RdT (w : World) (v : Value) (l : List Bs) : Prop := SlAt 1 (CellsAt cT) w v l
theorem RdT.at {w : World} {a : Option Addr} {n c : Nat} {l : List Bs} (h : RdT w (.slice a n c) l) : n = l.length ∧ n ≤ c ∧ c ≤ 9223372036854775807 ∧ ∀ i (_ : i < n), ∃ b off, a = some ⟨b, off, none⟩ ∧ w.cell? ⟨b, off + i, none⟩ = some (.string (strOf (l.getD i []))) := by
 obtain ⟨a', c', hv, h1, h2, h3⟩ := h
 simp only [Value.slice.injEq] at hv
 obtain ⟨rfl, rfl, rfl⟩ := hv
 refine ⟨rfl, h1, by unfold maxLen at h2; omega, fun i hi => ?_⟩
 obtain ⟨b, off, e, hc⟩ := h3 i hi
 refine ⟨b, off, e, ?_⟩
 have := hc 0 _ rfl
 rw [Nat.mul_one, Nat.add_zero] at this
 rw [List.getD_eq_getElem?_getD, List.getElem?_eq_getElem hi]
 exact this
theorem take_snoc_getD {l : List Bs} {i : Nat} (hi : i < l.length) : l.take i ++ [l.getD i []] = l.take (i + 1) := by
 rw [List.take_add_one, List.getD_eq_getElem?_getD, List.getElem?_eq_getElem hi]
 rfl
theorem strOf_beq (a b : Bs) : ((strOf a).toList == (strOf b).toList) = decide (a = b) := by
 rw [Bool.eq_iff_iff]
 simp only [beq_iff_eq, decide_eq_true_eq]
 constructor
 ·intro h
  have h2 : (strOf a).data.toList = (strOf b).data.toList := by
   have := h
   simpa [ByteArray.toList_eq] using this
  simpa [strOf_list] using h2
 ·rintro rfl; rfl
set_option maxRecDepth 100000 in
theorem same_texts (w : World) {va vb : Value} {l m : List Bs} (ha : RdT w va l) (hb : RdT w vb m) :
  Calls Tryz.prog 27 #[va, vb] w fun e w' => e = .returned (.bool (decide (l = m))) ∧ Upd [] w w' := by
 obtain ⟨pa, ca, rfl, -, -, -⟩ := id ha
 obtain ⟨pb, cb, rfl, -, -, -⟩ := id hb
 obtain ⟨-, q1, q2, HA⟩ := ha.at
 obtain ⟨-, q3, q4, HB⟩ := hb.at
 obtain ⟨n, hn⟩ : ∃ n, n = l.length := ⟨_, rfl⟩
 obtain ⟨k, hk⟩ : ∃ k, k = m.length := ⟨_, rfl⟩
 rw [← hn] at HA q1
 rw [← hk] at HB q3
 have HHA := Lib.hid HA
 have HHB := Lib.hid HB
 have HN := Lib.hid (And.intro hn hk)
 rw [← hn, ← hk]
 clear ha hb HA HB hn hk
 by_cases hnk : n = k
 ·subst hnk
  have hz : ((n : Int) == (n : Int)) = true := by simp
  go_enter Tryz.func27, Tryz.ntmps27
  go_wp2_with fail
  go_loopg [5] n (fun gh v5 wr => ∃ i : Nat, v5 = .int .i64 i ∧ i ≤ n ∧ gh = n - i ∧ Hid (Upd [] w wr ∧ l.take i = m.take i))
  case atStart => exact ⟨0, rfl, by omega, rfl, Lib.hid ⟨Upd.refl [] w, by simp⟩⟩
  case round =>
   obtain ⟨i, rfl, hi, rfl, HT⟩ := hrel
   by_cases hin : i < n
   ·have hin' : (i : Int) < (n : Int) := by omega
    obtain ⟨W, hW⟩ : ∃ W, W = wr := ⟨_, rfl⟩
    subst hW
    obtain ⟨b1, o1, rfl, d1⟩ := HHA.out i hin
    obtain ⟨b2, o2, rfl, d2⟩ := HHB.out i hin
    have e1 := held1 HT.out.1 d1
    have e2 := held1 HT.out.1 d2
    have hb := strOf_beq (l.getD i []) (m.getD i [])
    have HS : Hid (l.getD i [] = m.getD i [] → l.take (i + 1) = m.take (i + 1)) := Lib.hid fun e => by
     have h1 := HN.out.1; have h2 := HN.out.2
     rw [← take_snoc_getD (l := l) (by omega), ← take_snoc_getD (l := m) (by omega), HT.out.2, e]
    clear d1 d2
    by_cases he : l.getD i [] = m.getD i []
    ·have HE := Lib.hid he
     rw [decide_eq_true he] at hb
     clear he
     generalize strOf (l.getD i []) = s1 at *
     generalize strOf (m.getD i []) = s2 at *
     go_wp2_with fail
     go_quiet (fail)
     have HU := Lib.hid (HT.out.1.drewN nq)
     clear e1 e2
     generalize W.drewN nq = W2 at *
     go_wp2_with fail
     go_roundg (n - (i + 1))
     case measure => omega
     case rel => exact ⟨i + 1, by go_num, by omega, rfl, Lib.hid ⟨HU.out, HS.out HE.out⟩⟩
    ·have HE := Lib.hid he
     rw [decide_eq_false he] at hb
     have hne : decide (l = m) = false := by rw [decide_eq_false_iff_not]; intro e; exact HE.out (by rw [e])
     have HNE := Lib.hid hne
     clear he hne
     generalize strOf (l.getD i []) = s1 at *
     generalize strOf (m.getD i []) = s2 at *
     go_wp2_with fail
     go_quiet (fail)
     have HU := Lib.hid (HT.out.1.drewN nq)
     clear e1 e2
     generalize W.drewN nq = W2 at *
     go_wp2_with fail
     go_ret
     exact ⟨by rw [HNE.out]; rfl, HU.out⟩
   ·have hin' : ¬ (i : Int) < (n : Int) := by omega
    have heq : decide (l = m) = true := by
     have h1 := HN.out.1; have h2 := HN.out.2
     have h3 := HT.out.2
     rw [List.take_of_length_le (by omega), List.take_of_length_le (by omega)] at h3
     simpa using h3
    have HEQ := Lib.hid heq
    clear heq
    go_wp2_with fail
    go_ret
    exact ⟨by rw [HEQ.out]; rfl, HT.out.1⟩
 ·have hz : ((n : Int) == (k : Int)) = false := by simp; omega
  have hne : decide (l = m) = false := by
   have h1 := HN.out.1; have h2 := HN.out.2
   rw [decide_eq_false_iff_not]; rintro rfl; omega
  have HNE := Lib.hid hne
  clear hne
  go_enter Tryz.func27, Tryz.ntmps27
  go_wp2_with fail
  go_ret
  exact ⟨by rw [HNE.out]; rfl, Upd.refl [] w⟩
section
variable {w0 w w' : World} {v p room : Nat} {fs last : Files} {c : Nat} {G : List Nat}
theorem Lv.guardF (h : Lv w0 w v p room fs last c G) {F : List Nat} (u : Upd F w w') (hF : ∀ i ∈ F, i ∈ G ∧ w0.heap.size ≤ i) {G' : List Nat} (hg : ∀ b ∈ G', w.heap.size ≤ b ∧ b < w'.heap.size) : Lv w0 w' v p room fs last c (G' ++ G) := by
 obtain ⟨D, k, s, X, h1, h2, h3, h4⟩ := h.st
 refine ⟨⟨D, k, s, X, ⟨h1.at_.keep u (fun i hi q => h4 i (hF i q).1 hi), h1.fuse, h1.upd.next u (fun i hi hlt => by have := (hF i hi).2; omega), h1.low⟩, h2, h3, fun i hi q => ?_⟩, fun i hi => ?_⟩
 ·rcases List.mem_append.1 hi with e | e
  ·have := h1.at_.lt i q
   have := (hg i e).1
   omega
  ·exact h4 i e q
 ·rcases List.mem_append.1 hi with e | e
  ·exact (hg i e).2
  ·exact Nat.lt_of_lt_of_le (h.lt i e) u.size
theorem blks_sum {room : Nat} {fs : Files} (h : FilesOk room fs) : (allBlks fs).length = (fs.map fun p => blocksN p.2.data.length).sum := by
 have h1 : ∀ p ∈ fs, p.2.blks.length = blocksN p.2.data.length := fun p hp => (h.ok p hp).blks_len
 clear h
 induction fs with
 | nil => rfl
 | cons x l ih =>
  have e := ih fun p hp => h1 p (List.mem_cons_of_mem _ hp)
  have e2 := h1 x (List.mem_cons_self ..)
  simp only [allBlks, List.flatMap_cons, List.length_append, List.map_cons, List.sum_cons] at e ⊢
  rw [e2]
  omega
end
end Go.Proofs.YteepgehjkcahiaaGreat
