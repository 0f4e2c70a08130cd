/- fsdir's log: set. fsdir's writes: the blocks in which a directory differs from another one. A file's node in memory: New, Size, blocks, Runs. -/
import Derived.BigQuiet
import Derived.Deep.DeepCutAuto
import Derived.Test.YteepgehjkcahiaaGreatC17
import Derived.Test.YteepgehjkcahiaaGreatC14
namespace Go.Proofs.YteepgehjkcahiaaGreat
open Go.RowKit
def SetPost (w : World) (j p n k c m : Nat) (D : Dev) (F : List Nat) (V : Nat → Bs) (FC : List Nat) (x : Nat) (d : Bs) (r : Ending) (w' : World) : Prop :=
 ∃ (e : Nat) (D' : Dev) (F' : List Nat) (l' : List (Bc.Nd Int SvB)) (FC' : List Nat), r = .returned (.int .i64 e) ∧ Eff [.write (20 + x) d] D e D' ∧ LogA w' j p n k c m (decide (e = 2)) D' F' l' (if e = 0 then setV V x d else V) FC' ∧ Upd (j :: (F ++ FC)) w w' ∧
  (∀ i ∈ F', i ∈ F ∨ w.heap.size ≤ i) ∧ (∀ i ∈ FC', i ∈ FC ∨ w.heap.size ≤ i)
set_option maxRecDepth 100000 in
set_option maxHeartbeats 4000000 in
theorem set_ok (w : World) {j p n k c m : Nat} {D : Dev} {F : List Nat} {l : List (Bc.Nd Int SvB)} {V : Nat → Bs} {FC : List Nat} (h : LogA w j p n k c m false D F l V FC) (hdn : D.down = false) (hwr : D.wr ≤ 137438953000) (x : Nat) (hx : x < n)
  {b off cc : Nat} {d : Bs} (hv : Rd w (.slice (some ⟨b, off, none⟩) 512 cc) d) (hd5 : d.length = 512) (hbF : b ∉ F) (hbj : b ≠ j) (_hbC : b ∉ FC) (_hbl : b < w.heap.size) :
  Calls Tryz.prog 52 #[.agg #[.pointer (some ⟨j, 0, none⟩), .pointer (some ⟨c, 0, none⟩)], .int .i64 x, .slice (some ⟨b, off, none⟩) 512 cc] w (SetPost w j p n k c m D F V FC x d) := by
 have H := Lib.hid h
 have hjl := lt_of_blk h.log
 have hu0 : ∀ o, Upd [] w (w.alloc o) := fun o => (Upd.refl [] w).alloc o
 have HP := Lib.hid fun o => jput_ok (w.alloc o) (h.log.upd (hu0 o) (by simp)) (h.dev.upd (hu0 o) (by simp)) hdn h.nD hwr h.jF x hx (hv.keep (hu0 o)) hd5 hbF hbj
 have HV := Lib.hid hv
 clear h hv
 go_enter Tryz.func52, Tryz.ntmps52
 go_wp2_with fail
 refine (HP.out _).mono ?_
 have hU0 := hu0 (.cells #[.pointer (some ⟨j, 0, none⟩), .pointer (some ⟨c, 0, none⟩)] 75)
 have hB0 := heap_top w (.cells #[.pointer (some ⟨j, 0, none⟩), .pointer (some ⟨c, 0, none⟩)] 75)
 clear hu0 HP
 generalize w.alloc (.cells #[.pointer (some ⟨j, 0, none⟩), .pointer (some ⟨c, 0, none⟩)] 75) = w1 at *
 rintro r w2 ⟨e, D', F', rfl, hE, hD', hL', hu2, hF'⟩
 have hwlt : w.heap.size < w1.heap.size := lt_of_blk hB0
 have hb2 : w2.heap[w.heap.size]? = _ := (hu2.block _ hwlt (fun q => by
  rcases List.mem_cons.1 q with q | q
  ·omega
  ·have := H.out.dev.lt _ q; omega)).trans hB0
 have m1 := cell_blk hb2 1
 simp only [List.getElem?_toArray, List.getElem?_cons_zero, List.getElem?_cons_succ] at m1
 have hca : CaR w2 c m l V FC := (H.out.ca.upd hU0 (by simp)).upd hu2 fun k hk q => by
  rcases List.mem_cons.1 q with q | q
  ·subst q; exact H.out.jC hk
  ·exact H.out.ap _ hk q
 have hrd : Rd w2 (.slice (some ⟨b, off, none⟩) 512 cc) d := ((HV.out.keep hU0).g.upd T8 hu2 (fun g hg q => by
  simp only [Value.ownBlock, Option.some.injEq] at hg
  subst hg
  rcases List.mem_cons.1 q with q | q
  ·exact hbj q
  ·exact hbF q)).b
 have hU2 : Upd (j :: (F ++ FC)) w w2 := (hU0.mono (by simp)).trans (hu2.mono fun k hk _ => by
  rcases List.mem_cons.1 hk with q | q
  ·simp [q]
  ·simp [q])
 have hF2 : ∀ i ∈ F', i ∈ F ∨ w.heap.size ≤ i := fun i hi => (hF' i hi).imp id fun q => by omega
 have hdl := hD'.lt
 have H2 := Lib.hid (And.intro hE (And.intro hD' (And.intro hL' (And.intro hU2 (And.intro hF2 hca)))))
 have hs2 := hU2.size
 by_cases he0 : e = 0
 ·subst he0
  have HK := Lib.hid fun (X : World) (u : Upd [] w2 X) => clone8_ok X (hrd.g.keep T8 u) (by rw [hd5]; omega)
  have hwF : w.heap.size ∉ FC := fun q => by have := H.out.lt _ q; omega
  have HCA := Lib.hid fun (X : World) (u : Upd [] w2 X) (v : SvB) (ho : Ow X 0 (svV v) d) => cput_ok X (hca.upd u (by simp)) x v ho
  clear hE hD' hL' hu2 hca hrd hU2 hF2
  go_wp2_with fail
  go_region_held3 (fun X => X.cell? ⟨w.heap.size, 1, none⟩ = some (.pointer (some ⟨c, 0, none⟩)))
   (first
    | (with_reducible exact held1 (Upd.refl [] w2).drew m1)
    | (with_reducible exact held1 hv6 m1)
    | (exact (World.cell?_of_block ((hu7.block w.heap.size (by have := lt_of_blk hb2; have := hv6.size; omega) hwF))).trans (held1 hv6 m1)))
   (first
    | (go_at_call 85; (with_reducible refine (HK.out _ ?_).mono ?_); (exact (Upd.refl [] w2).drew); rintro e w6 ⟨v6, rfl, ho6, hu6⟩; obtain ⟨a6, c6, m6, hm6, rfl⟩ := ho6.sliceM; have hv6 : Upd [] w2 w6 := (Upd.refl [] w2).drew.trans hu6; have HO6 := Lib.hid ho6; clear hm6)
    | (go_at_call 86; (with_reducible refine (HCA.out _ hv6 ⟨a6, m6, c6⟩ (HO6.out.base (Nat.zero_le _))).mono ?_); rintro e w7 ⟨k', v', b1, b2, l', FC', rfl, hc7, hu7, hf7⟩))
  go_wp2_with fail
  go_ret
  obtain ⟨hE, hD', hL', hU2, hF2, -⟩ := H2.out
  have hU6 := hU2.trans (hv6.mono (by simp))
  have hU7 : Upd (j :: (F ++ FC)) w w7 := hU6.next hu7 (fun k hk _ => by simp [hk])
  have hs6 := hv6.size
  have h6 := ho6.block
  have hap : ∀ i ∈ FC, i ∉ F' := fun i hi q => by
   rcases hF2 i q with q | q
   ·exact H.out.ap i hi q
   ·have := H.out.lt i hi; omega
  refine ⟨0, D', F', l', FC', rfl, hE, ⟨(hL'.upd hv6 (by simp)).upd hu7 H.out.jC, (hD'.upd hv6 (by simp)).upd hu7 (fun i hi q => hap i q hi), hc7, ?_, ?_, ?_, by rw [hE.n]; exact H.out.nD, ?_⟩, hU7, hF2, ?_⟩
  ·intro q
   rcases hF2 _ q with q | q
   ·exact H.out.jF q
   ·omega
  ·intro q
   rcases hf7 _ q with q | q | q
   ·exact H.out.jC q
   ·omega
   ·have := (h6 _ q).1; have : w2.drew.heap.size = w2.heap.size := rfl; omega
  ·intro i hi q
   have hlt := hdl i q
   rcases hf7 _ hi with q2 | q2 | q2
   ·exact hap i q2 q
   ·omega
   ·have := (h6 _ q2).1; have : w2.drew.heap.size = w2.heap.size := rfl; omega
  ·intro i hi
   have := hu7.size
   rcases hf7 _ hi with q2 | q2 | q2
   ·have := H.out.lt i q2; omega
   ·exact q2.2
   ·have := (h6 _ q2).2; omega
  ·intro i hi
   rcases hf7 _ hi with q2 | q2 | q2
   ·exact .inl q2
   ·exact .inr (by omega)
   ·have := (h6 _ q2).1; have : w2.drew.heap.size = w2.heap.size := rfl; exact .inr (by omega)
 ·have he0' : ¬ (e : Int) = 0 := by omega
  clear hE hD' hL' hu2 hca hrd hU2 hF2
  go_wp2_with fail
  go_ret
  obtain ⟨hE, hD', hL', hU2, hF2, hca⟩ := H2.out
  refine ⟨e, D', F', l, FC, rfl, hE, ⟨hL', hD', by rw [if_neg he0]; exact hca, ?_, H.out.jC, ?_, by rw [hE.n]; exact H.out.nD, fun i hi => Nat.lt_of_lt_of_le (H.out.lt i hi) hU2.size⟩, hU2, hF2, fun i hi => .inl hi⟩
  ·intro q
   rcases hF2 _ q with q | q
   ·exact H.out.jF q
   ·omega
  ·intro i hi q
   rcases hF2 i q with q | q
   ·exact H.out.ap i hi q
   ·have := H.out.lt i hi; omega
end Go.Proofs.YteepgehjkcahiaaGreat

namespace Go.Proofs.YteepgehjkcahiaaGreat
open Go.RowKit
def wrC (bb ob cb : Nat) (n : Nat) : WrC := ⟨n, some ⟨bb, ob + n * 512, none⟩, 512, cb - n * 512⟩
def difs (a b : Bs) (i : Nat) : List Nat := (List.range i).filter fun n => decide (blkOf a n ≠ blkOf b n)
theorem difs_succ (a b : Bs) (i : Nat) : difs a b (i + 1) = difs a b i ++ (if blkOf a i = blkOf b i then [] else [i]) := by
 unfold difs
 rw [List.range_succ, List.filter_append]
 by_cases h : blkOf a i = blkOf b i <;> simp [h]
theorem difs_writes (a b : Bs) : writesF a b = (difs a b 16).map fun n => (n, blkOf b n) := by
 unfold writesF difs
 generalize List.range 16 = l
 induction l with
 | nil => rfl
 | cons n l ih =>
  rw [List.filterMap_cons, List.filter_cons]
  by_cases h : blkOf a n = blkOf b n <;> simp [h, ih]
set_option maxRecDepth 100000 in
set_option maxHeartbeats 4000000 in
theorem fwrites_ok (w : World) {va vb : Value} {a b : Bs} (ha : Rd w va a) (hb : Rd w vb b) (ha8 : a.length = 8192) (hb8 : b.length = 8192) (G : List Nat) (hG : ∀ g, vb.ownBlock = some g → g ∉ G ∧ g < w.heap.size) (hGl : ∀ i ∈ G, i < w.heap.size) :
  Calls Tryz.prog 56 #[va, vb] w fun e w' => ∃ v, e = .returned v ∧ WrsAt w' G v (writesF a b) ∧ Upd [] w w' := by
 have hA := Lib.hid ha
 have hB := Lib.hid hb
 obtain ⟨aa, ca, rfl, hca1, hca2, hca3⟩ := ha.g.slice
 obtain ⟨ab, cb, rfl, hcb1, hcb2, hcb3⟩ := hb.g.slice
 rw [ha8] at hA hca1 hca3 ⊢
 rw [hb8] at hB hcb1 hcb3 hG ⊢
 rcases aa with _ | ⟨ba, oa, sa⟩
 ·have := (hca3 rfl).1; omega
 rcases ab with _ | ⟨bb, ob, sb⟩
 ·have := (hcb3 rfl).1; omega
 obtain ⟨⟨_, _, hva, -, -, hat⟩, -⟩ := ha
 obtain ⟨⟨_, _, hvb, -, -, hbt⟩, -⟩ := hb
 obtain ⟨_, _, e1, -⟩ := hat 0 (by omega)
 obtain ⟨_, _, e2, -⟩ := hbt 0 (by omega)
 simp only [Value.slice.injEq] at hva hvb
 obtain ⟨e3, -, -⟩ := hva
 obtain ⟨e4, -, -⟩ := hvb
 rw [← e3] at e1
 rw [← e4] at e2
 simp only [Option.some.injEq, Addr.mk.injEq] at e1 e2
 obtain ⟨rfl, rfl, rfl⟩ := e1
 obtain ⟨rfl, rfl, rfl⟩ := e2
 clear e3 e4 hat hbt hca3 hcb3
 go_enter Tryz.func56, Tryz.ntmps56
 go_wp2_with fail
 go_loopg [5, 9] 16 (fun gh v5 v9 wr => ∃ (i : Nat) (a5 : Option Addr) (m5 c5 : Nat), v5 = .slice a5 m5 c5 ∧ v9 = .int .i64 i ∧ i ≤ 16 ∧ gh = 16 - i ∧ Hid (OwnG cW 145 2 wr w.heap.size (.slice a5 m5 c5) ((difs a b i).map (wrC bb ob cb)) ∧ Upd [] w wr))
 case atStart => exact ⟨0, none, 0, 0, rfl, rfl, Nat.zero_le _, rfl, Lib.hid ⟨OwnG.nil _ _, Upd.refl _ _⟩⟩
 case round =>
  obtain ⟨i, a5, m5, c5, rfl, rfl, hi, rfl, HR⟩ := hrel
  by_cases h16 : i < 16
  ·have h16' : (i : Int) < 16 := by omega
   obtain ⟨f, hf⟩ : ∃ f, f = i * 512 := ⟨_, rfl⟩
   obtain ⟨t, ht⟩ : ∃ t, t = f + 512 := ⟨_, rfl⟩
   have w1 : IntKind.i64.wrap ((i : Int) * 512) = (f : Int) := by rw [IntWalk.i64_in _ (by omega)]; omega
   have w2 : IntKind.i64.wrap (((i : Int) + 1) * 512) = (t : Int) := by rw [IntWalk.i64_in _ (by omega)]; omega
   have q1 : (f : Int) ≤ (t : Int) := by omega
   have q2 : (t : Int) ≤ (ca : Int) := by omega
   have q3 : (t : Int) ≤ (cb : Int) := by omega
   have q4 : f ≤ t := by omega
   have q5 : t ≤ ca := by omega
   have q6 : t ≤ cb := by omega
   have q7 : ¬ ca = f := by omega
   have q8 : ¬ cb = f := by omega
   have q9 : t - f = 512 := by omega
   have qa : t ≤ 9223372036854775807 := by omega
   have pA := Rd.part (hA.out.keep HR.out.2) f 512 (by rw [ha8]; omega) (ca - f) (by omega) (by omega)
   have pB := Rd.part (hB.out.keep HR.out.2) f 512 (by rw [hb8]; omega) (cb - f) (by omega) (by omega)
   have HE := Lib.hid fun n => (equal_ok (wr.drewN n) (pA.keep ((Upd.refl [] wr).drewN n)) (pB.keep ((Upd.refl [] wr).drewN n)))
   have e1 : (a.drop f).take 512 = blkOf a i := by rw [hf]; rfl
   have e2 : (b.drop f).take 512 = blkOf b i := by rw [hf]; rfl
   rw [e1, e2] at HE
   have HF := Lib.hid (And.intro hf ht)
   clear pA pB hf ht e1 e2
   by_cases hab : blkOf a i = blkOf b i
   ·rw [decide_eq_true hab] at HE
    have HAB := Lib.hid hab
    clear hab
    go_wp2_with fail
    go_quiet (first | (go_at_call 102; refine Calls.quiet_of_same (HE.out _)))
    go_wp2_with fail
    go_roundg (16 - (i + 1))
    case measure => omega
    case rel =>
     refine ⟨i + 1, a5, m5, c5, rfl, by simp, by omega, rfl, Lib.hid ⟨?_, HR.out.2.drewN _⟩⟩
     rw [difs_succ, if_pos HAB.out, List.append_nil]
     exact HR.out.1.upd ((Upd.refl [] wr).drewN _) (by simp)
   ·rw [decide_eq_false hab] at HE
    have HAB := Lib.hid hab
    clear hab
    go_wp2_with fail
    go_quiet (first | (go_at_call 102; refine Calls.quiet_of_same (HE.out _)))
    have hown := HR.out.1.upd ((Upd.refl [] wr).drewN nq) (by simp)
    have hupd := HR.out.2.drewN nq
    generalize wr.drewN nq = W2 at *
    have HO := Lib.hid (And.intro hown hupd)
    have hs2 := hupd.size
    have hm5 : ((difs a b i).map (wrC bb ob cb)).length ≤ 16 := by
     rw [List.length_map]
     exact Nat.le_trans (List.length_filter_le _ _) (by simp; omega)
    clear hown hupd HE
    generalize hLL : (difs a b i).map (wrC bb ob cb) = LL at *
    have HLL := Lib.hid hLL
    clear hLL
    go_wp2_with (at_builtin; refine wpList_append_G TW rfl _ _ rfl (base := w.heap.size) (l := LL) (r := [⟨i, some ⟨bb, ob + f, none⟩, 512, cb - f⟩]) rfl (HO.out.1.upd ((Upd.refl [] W2).alloc _) (by simp)) rfl (src_new TW (ty := 145) (heap_top _ _)) (oneW _) ?c1 ?c2 ?c3 ?_)
    case c1 => simp; omega
    case c2 => simp; omega
    case c3 => simp; omega
    intro v7 w7 ho7 hg7 hn7
    obtain ⟨a7, c7, m7, hm7, rfl⟩ := ho7.sliceM
    have hu7 : Upd [] w w7 := (HO.out.2.alloc _).grown hg7 (fun g hg => (HO.out.1.block g hg).1)
    have HO7 := Lib.hid (And.intro ho7 hu7)
    clear ho7 hu7 hm7 hg7 hn7
    go_wp2_with fail
    go_roundg (16 - (i + 1))
    case measure => omega
    case rel =>
     refine ⟨i + 1, a7, m7, c7, rfl, by simp, by omega, rfl, Lib.hid ⟨?_, HO7.out.2⟩⟩
     rw [difs_succ, if_neg HAB.out, List.map_append, HLL.out]
     have h1 := HO7.out.1
     rw [HF.out.1] at h1
     exact h1
  ·obtain rfl : i = 16 := by omega
   have h16' : ¬ ((16 : Nat) : Int) < 16 := by omega
   go_wp2_with fail
   go_ret
   refine ⟨_, rfl, ⟨⟨(difs a b 16).map (wrC bb ob cb), OwnG.rd TW HR.out.1, ?_, ?_⟩, ?_, ?_, ?_⟩, HR.out.2⟩
   ·rw [difs_writes, List.length_map, List.length_map]
   ·intro j x y hx hy
    rw [difs_writes, List.getElem?_map] at hy
    rw [List.getElem?_map] at hx
    cases hn : (difs a b 16)[j]? with
    | none => rw [hn] at hx; cases hx
    | some n =>
     rw [hn] at hx hy
     simp only [Option.map, Option.some.injEq] at hx hy
     subst hx
     subst hy
     have hn16 : n < 16 := by
      have := List.mem_of_getElem? hn
      simp [difs] at this
      exact this.1
     refine ⟨rfl, ?_, fun g hg => ?_⟩
     ·have := Rd.part (hB.out.keep HR.out.2) (n * 512) 512 (by rw [hb8]; omega) (cb - n * 512) (by omega) (by omega)
      exact this
     ·have h1 := hG g hg
      exact ⟨h1.1, Nat.lt_of_lt_of_le h1.2 HR.out.2.size⟩
   ·intro g hg
    have h1 := HR.out.1.block g hg
    exact ⟨fun q => by have := hGl g q; omega, h1.2⟩
   ·intro x hx
    obtain ⟨h1, -, h3⟩ := mem_writesF.1 hx
    rw [h3]
    exact blkOf_len hb8 h1
   ·have := (over_writesF (a := a) hb8).wok.1
    omega
end Go.Proofs.YteepgehjkcahiaaGreat

namespace Go.Proofs.YteepgehjkcahiaaGreat
open Go.RowKit Go.Maps
abbrev boxN (size : Nat) (rv : Value) : Obj := .cells #[.int .i64 size, rv] 124 (0, 0)
def NodeR (w : World) (base q size : Nat) (rv : Value) (runs : List Run) : Prop := w.heap[q]? = some (boxN size rv) ∧ OwnG cR 129 2 w base rv runs
set_option maxRecDepth 100000 in
theorem inew_ok (w : World) : Calls Tryz.prog 43 #[] w fun e w' => e = .returned (.pointer (some ⟨w.heap.size, 0, none⟩)) ∧ NodeR w' w.heap.size w.heap.size 0 (.slice none 0 0) [] ∧ Upd [] w w' ∧ w'.heap.size = w.heap.size + 1 := by
 go_enter Tryz.func43, Tryz.ntmps43
 go_wp2_with fail
 go_ret
 exact ⟨rfl, ⟨heap_top _ _, OwnG.nil _ _⟩, (Upd.refl [] w).alloc _, by simp⟩
set_option maxRecDepth 100000 in
theorem isize_ok (w : World) {base q size : Nat} {rv : Value} {runs : List Run} (h : NodeR w base q size rv runs) : Calls Tryz.prog 47 #[.pointer (some ⟨q, 0, none⟩)] w fun e w' => e = .returned (.int .i64 size) ∧ w' = w := by
 have c0 := cell_blk h.1 0
 simp only [List.getElem?_toArray, List.getElem?_cons_zero] at c0
 clear h
 go_enter Tryz.func47, Tryz.ntmps47
 go_wp2_with fail
 go_ret
 exact ⟨rfl, rfl⟩
set_option maxRecDepth 100000 in
theorem isize_nil (w : World) : Calls Tryz.prog 47 #[.pointer none] w fun e w' => e = .returned (.int .i64 0) ∧ w' = w := by
 go_enter Tryz.func47, Tryz.ntmps47
 go_wp2_with fail
 go_ret
 exact ⟨rfl, rfl⟩
set_option maxRecDepth 100000 in
theorem iblocks_ok (w : World) (n : Nat) (hn : n ≤ 1000000) : Calls Tryz.prog 81 #[.int .i64 n] w fun e w' => e = .returned (.int .i64 ((n + 511) / 512 : Nat)) ∧ w' = w := by
 go_enter Tryz.func81, Tryz.ntmps81
 go_wp2_with fail
 go_ret
 refine ⟨?_, rfl⟩
 have e : ((n : Int) + 512 - 1) / 512 = (((n + 511) / 512 : Nat) : Int) := by omega
 show Ending.returned (.int .i64 (((n : Int) + 512 - 1) / 512)) = _
 rw [e]
set_option maxRecDepth 100000 in
theorem iruns_ok (w : World) {base q size : Nat} {rv : Value} {runs : List Run} (h : NodeR w base q size rv runs) (hl : runs.length ≤ 1000000) : Calls Tryz.prog 60 #[.pointer (some ⟨q, 0, none⟩)] w fun e w' => ∃ v', e = .returned v' ∧ OwnG cR 129 2 w' w.heap.size v' runs ∧ Upd [] w w' := by
 have c1 := cell_blk h.1 1
 simp only [List.getElem?_toArray, List.getElem?_cons_zero, List.getElem?_cons_succ] at c1
 have HC := Lib.hid (cloneR_ok w (OwnG.rd TR h.2) (by omega))
 clear h
 go_enter Tryz.func60, Tryz.ntmps60
 go_wp2_with fail
 refine HC.out.mono ?_
 rintro e w1 ⟨v', rfl, ho, hu⟩
 have H1 := Lib.hid (And.intro ho hu)
 clear ho hu
 go_wp2_with fail
 go_ret
 exact ⟨v', rfl, H1.out.1, H1.out.2⟩
end Go.Proofs.YteepgehjkcahiaaGreat
