/- An entry of a map of texts is laid, then written. A node that is read. A directory as it is read, in plain words. Helpers of the directory's reading. -/
import Derived.WideKeyEntry
import Derived.Test.YtgpefiacbipfpaaGreatDoorC26
import Derived.Test.YtgpefiacbipfpaaGreatDoorC17
namespace Go.Proofs.YtgpefiacbipfpaaGreatDoor
open Go.RowKit Go.Maps
theorem MapS.entry {w : World} {mb : Nat} {L : List (Bs × Value)} (h : MapS w mb L) (hs : Srt ltN L) (hn : L.length < 1000000) {t e : TypeId} (ht : Tryz.prog.underlying t = some (.map 9 e)) {z : Value} (hz : ∀ u : World, (zeroValue e).run Tryz.prog u = .ok z u) (s : ByteArray) (hss : s.size ≤ maxLen) :
  ∃ (v0 : Value) (st : Nat) (w1 : World), (Instr.mapEntry t (.map (some mb)) (.string s)).run Tryz.prog w = .ok (.tuple #[v0, goInt st]) w1 ∧ Upd [mb] w w1 ∧
   ∀ val : Value, ∃ w2, (Instr.entryStore t (.map (some mb)) (goInt st) val).run Tryz.prog w1 = .ok () w2 ∧ MapS w2 mb (putA ltN L s.data.toList val) ∧ Upd [mb] w1 w2 := by
 have hbl := World.ownsMap.lt h
 have hput := fun val => h.put hs hn ht s hss val
 obtain ⟨es, clock, hb, F, hsz, hD⟩ := h
 obtain ⟨v0, st, es1, clock1, hE, -, hS⟩ := WideElems.entry_then_store (WideMaps.string_law Tryz.underlying9) ht hz hb F (WideMaps.keyOf_string_mk Tryz.underlying9 hss)
 have hb1 : (ChangeMaps.setBlock w mb (.map es1 clock1)).heap[mb]? = some (.map es1 clock1) := ChangeMaps.heap_setBlock_same hb _
 refine ⟨v0, st, _, hE, ⟨rfl, rfl, by simp [ChangeMaps.setBlock], fun k hk hn => ChangeMaps.heap_setBlock_other hb _ (fun e => hn (by rw [e]; simp))⟩, fun val => ?_⟩
 obtain ⟨es', clock', h1, h2⟩ := hS (ChangeMaps.setBlock w mb (.map es1 clock1)) val hb1
 obtain ⟨w', g1, g2, -⟩ := hput val
 rw [h2] at g1
 simp only [Result.ok.injEq, true_and] at g1
 subst g1
 obtain ⟨es2, clock2, k1, k2, k3, k4⟩ := g2
 rw [ChangeMaps.heap_setBlock_same hb] at k1
 refine ⟨_, h1, ⟨es2, clock2, by rw [ChangeMaps.heap_setBlock_same hb1]; exact k1, k2, k3, k4⟩, ⟨rfl, rfl, by simp [ChangeMaps.setBlock], fun k hk hn => ChangeMaps.heap_setBlock_other hb1 _ (fun e => hn (by rw [e]; simp))⟩⟩
end Go.Proofs.YtgpefiacbipfpaaGreatDoor

namespace Go.Proofs.YtgpefiacbipfpaaGreatDoor
open Go.RowKit Go.Maps
set_option maxRecDepth 100000 in
set_option maxHeartbeats 4000000 in
theorem inext_ok (w : World) {bb ab db : Nat} {v : Value} {l : Bs} (cb : w.cell? ⟨bb, 0, none⟩ = some v) (hv : Rd w v l) {a : Nat} (ca : w.cell? ⟨ab, 0, none⟩ = some (.int .i64 a)) (fa : w.frozen? ⟨ab, 0, none⟩ = false) {n : Nat} {rest : Bs} (hl : l.drop a = putU n ++ rest) (hal : a ≤ l.length) (ha : a ≤ 1000000) (hn : n ≤ 32768) :
  Calls Tryz.prog 165 #[.pointer (some ⟨bb, 0, none⟩), .pointer (some ⟨ab, 0, none⟩), .pointer (some ⟨db, 0, none⟩)] w fun r w' => r = .returned (.int .i64 n) ∧ w' = w.setCell ⟨ab, 0, none⟩ (.int .i64 ((a + (putU n).length : Nat))) := by
 have HV := Lib.hid hv
 obtain ⟨av, cv, m, hm, hmc, hc63, rfl⟩ := hv.sliceM
 have hp := putU_len64 (n := n) (by omega)
 have hg := getUint_putU (n := n) (by omega) rest
 generalize (putU n).length = pl at *
 have HG := Lib.hid hg
 have HL := Lib.hid hl
 have hw1 : IntKind.i64.wrap ((a : Int) + pl) = (a : Int) + pl := IntWalk.i64_in _ (by omega)
 have e1 : ((a + pl : Nat) : Int) = (a : Int) + pl := by omega
 rw [e1]
 clear hv hm hg hl e1
 go_enter Tryz.func165, Tryz.ntmps165
 go_wp2_with (first
  | (refine wpList_tail8 rfl _ _ rfl HV.out hal rfl rfl ?_; intro a8 c8 m8 hm8 hr8 hb8; rw [HL.out] at hr8; have HR8 := Lib.hid hr8; clear hm8 hr8 hb8)
  | fail)
 have hu := uint_ok w HR8.out
 rw [HG.out] at hu
 dsimp only at hu
 refine hu.mono ?_
 rintro r w1 ⟨rfl, rfl⟩
 clear hu
 go_wp2_with fail
 go_ret
 exact ⟨rfl, rfl⟩
structure NextSt (w wr : World) (bb ab db : Nat) (v : Value) (a : Nat) : Prop where
 upd : Upd [] w wr
 b : ∃ ty, wr.heap[bb]? = some (.cells #[v] ty (0, 0))
 a : ∃ ty, wr.heap[ab]? = some (.cells #[.int .i64 a] ty (0, 0))
 d : ∃ ty, wr.heap[db]? = some (.cells #[.bool false] ty (0, 0))
 lo : w.heap.size ≤ ab
 nab : ab ≠ bb
 nad : ab ≠ db
theorem NextSt.next {w wr : World} {bb ab db : Nat} {v : Value} {a : Nat} (h : NextSt w wr bb ab db v a) (a' : Nat) : NextSt w (wr.setCell ⟨ab, 0, none⟩ (.int .i64 a')) bb ab db v a' := by
 obtain ⟨u, ⟨t1, h1⟩, ⟨t2, h2⟩, ⟨t3, h3⟩, lo, n1, n2⟩ := h
 refine ⟨u.setCellNew lo _ _, ⟨t1, by rw [heap_setCell, if_neg (Ne.symm n1)]; exact h1⟩, ⟨t2, by rw [heap_setCell, if_pos rfl, h2]; rfl⟩, ⟨t3, by rw [heap_setCell, if_neg (Ne.symm n2)]; exact h3⟩, lo, n1, n2⟩
theorem NextSt.keep {w wr wr' : World} {bb ab db : Nat} {v : Value} {a : Nat} (h : NextSt w wr bb ab db v a) {G : List Nat} (u : Upd G wr wr') (hG : ∀ k ∈ G, w.heap.size ≤ k) (n1 : bb ∉ G) (n2 : ab ∉ G) (n3 : db ∉ G) : NextSt w wr' bb ab db v a := by
 obtain ⟨u0, ⟨t1, h1⟩, ⟨t2, h2⟩, ⟨t3, h3⟩, lo, q1, q2⟩ := h
 exact ⟨u0.next u (fun k hk hlt => by have := hG k hk; omega), ⟨t1, (u.block _ (lt_of_blk h1) n1).trans h1⟩, ⟨t2, (u.block _ (lt_of_blk h2) n2).trans h2⟩, ⟨t3, (u.block _ (lt_of_blk h3) n3).trans h3⟩, lo, q1, q2⟩
theorem NextSt.call {w wr : World} {bb ab db : Nat} {v : Value} {l : Bs} (hv : Rd w v l) {a : Nat} (h : NextSt w wr bb ab db v a) {n : Nat} {rest : Bs} (hl : l.drop a = putU n ++ rest) (hal : a ≤ l.length) (ha : a ≤ 1000000) (hn : n ≤ 32768) :
  Calls Tryz.prog 165 #[.pointer (some ⟨bb, 0, none⟩), .pointer (some ⟨ab, 0, none⟩), .pointer (some ⟨db, 0, none⟩)] wr fun r w' => r = .returned (.int .i64 n) ∧ NextSt w w' bb ab db v (a + (putU n).length) ∧ Upd [ab] wr w' := by
 obtain ⟨t1, h1⟩ := h.b
 obtain ⟨t2, h2⟩ := h.a
 refine (inext_ok wr (cell_blk h1 0) (hv.keep h.upd) (cell_blk h2 0) (frozen_blk h2 0) hl hal ha hn).mono ?_
 rintro r w' ⟨rfl, rfl⟩
 exact ⟨rfl, h.next _, (Upd.refl _ _).setCell (by simp) _ _⟩
def posAt (size : Nat) (runs : List Run) (i : Nat) : Nat := (putU size).length + (putU runs.length).length + ((runs.take i).flatMap runB).length
theorem posAt_drop (size : Nat) (runs : List Run) (tl : Bs) (i : Nat) : (putU size ++ (putU runs.length ++ (runs.flatMap runB ++ tl))).drop (posAt size runs i) = (runs.drop i).flatMap runB ++ tl := by
 unfold posAt
 rw [← List.drop_drop, ← List.drop_drop, List.drop_left, List.drop_left]
 have e : runs.flatMap runB = (runs.take i).flatMap runB ++ (runs.drop i).flatMap runB := by rw [← List.flatMap_append, List.take_append_drop]
 rw [e, List.append_assoc, List.drop_left]
theorem posAt_succ (size : Nat) {runs : List Run} {i : Nat} {r : Run} (h : runs[i]? = some r) : posAt size runs (i + 1) = posAt size runs i + (putU r.1).length + (putU r.2).length := by
 unfold posAt
 rw [List.take_add_one, h]
 simp [runB]; omega
theorem posAt_le (size : Nat) (runs : List Run) (tl : Bs) (i : Nat) : posAt size runs i ≤ (putU size ++ (putU runs.length ++ (runs.flatMap runB ++ tl))).length := by
 have e : runs.flatMap runB = (runs.take i).flatMap runB ++ (runs.drop i).flatMap runB := by rw [← List.flatMap_append, List.take_append_drop]
 simp only [posAt, List.length_append]
 rw [e, List.length_append]
 omega
theorem drop_runs {runs : List Run} {i : Nat} {r : Run} (h : runs[i]? = some r) (tl : Bs) : (runs.drop i).flatMap runB ++ tl = putU r.1 ++ (putU r.2 ++ ((runs.drop (i + 1)).flatMap runB ++ tl)) := by
 obtain ⟨hi, rfl⟩ := List.getElem?_eq_some_iff.1 h
 rw [List.drop_eq_getElem_cons hi, List.flatMap_cons]
 simp only [runB, List.append_assoc]
set_option maxRecDepth 100000 in
set_option maxHeartbeats 4000000 in
theorem iread_ok (w : World) {size : Nat} {runs : List Run} {tl : Bs} {v : Value} (hv : Rd w v (putU size ++ (putU runs.length ++ (runs.flatMap runB ++ tl)))) (hs : size ≤ 32768) (hc : Canon runs) (hle : ∀ r ∈ runs, r.1 + r.2 ≤ 512) (hlen : lenR runs = blksOf size) (hsz : (putU size ++ (putU runs.length ++ (runs.flatMap runB ++ tl))).length ≤ 100000) :
  Calls Tryz.prog 135 #[v] w fun r w' => ∃ q rv, r = .returned (.tuple #[.pointer (some ⟨q, 0, none⟩), .int .i64 (posAt size runs runs.length), .int .i64 0]) ∧ NodeR w' w.heap.size q size rv runs ∧ w.heap.size ≤ q ∧ Upd [] w w' := by
 have HV := Lib.hid hv
 have hl64 : lenR runs ≤ 64 := by rw [hlen]; unfold blksOf; omega
 have hpos := canon_pos hc
 have hrl : runs.length ≤ 64 := by have := runs_few hpos; omega
 have HC := Lib.hid hc
 have HLe := Lib.hid hle
 have HLen := Lib.hid hlen
 have HSz := Lib.hid fun i => Nat.le_trans (posAt_le size runs tl i) hsz
 obtain ⟨av, cv, m, -, -, -, rfl⟩ := hv.sliceM
 have HS : Hid (∀ i, i < runs.length → ∃ y, runs[i]? = some y) := Lib.hid fun i h => ⟨_, List.getElem?_eq_getElem h⟩
 have hP0 : posAt size runs 0 = (putU size).length + (putU runs.length).length := by simp [posAt]
 have HP0 := Lib.hid hP0
 have HN1 : Hid (∀ (wr : World) (bb ab db : Nat), NextSt w wr bb ab db (.slice av m cv) 0 → Calls Tryz.prog 165 #[.pointer (some ⟨bb, 0, none⟩), .pointer (some ⟨ab, 0, none⟩), .pointer (some ⟨db, 0, none⟩)] wr fun r w' => r = .returned (.int .i64 size) ∧ NextSt w w' bb ab db (.slice av m cv) (putU size).length ∧ Upd [ab] wr w') := Lib.hid fun wr bb ab db h => by
  have := h.call hv (n := size) rfl (by omega) (by omega) hs
  rwa [Nat.zero_add] at this
 have HN2 : Hid (∀ (wr : World) (bb ab db : Nat), NextSt w wr bb ab db (.slice av m cv) (putU size).length → Calls Tryz.prog 165 #[.pointer (some ⟨bb, 0, none⟩), .pointer (some ⟨ab, 0, none⟩), .pointer (some ⟨db, 0, none⟩)] wr fun r w' => r = .returned (.int .i64 runs.length) ∧ NextSt w w' bb ab db (.slice av m cv) (posAt size runs 0) ∧ Upd [ab] wr w') := Lib.hid fun wr bb ab db h => by
  have := h.call hv (n := runs.length) List.drop_left (by simp) (by have := putU_len64 (n := size) (by omega); omega) (by omega)
  rwa [hP0]
 generalize hL : runs.length = L at *
 have HLn := Lib.hid hL
 clear hv hc hle hlen hsz hL hpos hP0
 go_enter Tryz.func135, Tryz.ntmps135
 go_wp2_with fail
 have hst0 : NextSt w (((w.alloc (.cells #[.slice av m cv] 23)).alloc (.cells #[.int .i64 0] 3)).alloc (.cells #[.bool false] 4)) w.heap.size (w.heap.size + 1) (w.heap.size + 1 + 1) (.slice av m cv) 0 :=
  ⟨(((Upd.refl [] w).alloc _).alloc _).alloc _, ⟨_, three_a _ _ _ _⟩, ⟨_, three_b _ _ _ _⟩, ⟨_, three_c _ _ _ _⟩, by omega, by omega, by omega⟩
 have hsz0 : (((w.alloc (.cells #[.slice av m cv] 23)).alloc (.cells #[.int .i64 0] 3)).alloc (.cells #[.bool false] 4)).heap.size = w.heap.size + 3 := by simp
 generalize (((w.alloc (.cells #[.slice av m cv] 23)).alloc (.cells #[.int .i64 0] 3)).alloc (.cells #[.bool false] 4)) = w0 at *
 have HSZ0 := Lib.hid hsz0
 clear hsz0
 refine (HN1.out w0 _ _ _ hst0).mono ?_
 rintro r w1 ⟨rfl, hst1, hu1⟩
 have HS1 := Lib.hid hst1
 have hz1 : w.heap.size + 3 ≤ w1.heap.size := by have := hu1.size; rw [HSZ0.out] at this; exact this
 clear hst0 hst1 hu1 HN1
 go_wp2_with fail
 refine (HN2.out w1 _ _ _ HS1.out).mono ?_
 rintro r w2 ⟨rfl, hst2, hu2⟩
 have HS2 := Lib.hid hst2
 have hz2 : w.heap.size + 3 ≤ w2.heap.size := Nat.le_trans hz1 hu2.size
 clear hst2 hu2 HN2
 go_wp2_with fail
 go_loopg [9, 10] L (fun gh v9 v10 wr => ∃ (i : Nat) (a9 : Option Addr) (m9 c9 : Nat), v9 = .slice a9 m9 c9 ∧ v10 = .int .i64 ((L - i : Nat)) ∧ i ≤ L ∧ gh = L - i ∧ Hid (NextSt w wr w.heap.size (w.heap.size + 1) (w.heap.size + 1 + 1) (.slice av m cv) (posAt size runs i) ∧ OwnG cR 148 2 wr (w.heap.size + 3) (.slice a9 m9 c9) (runs.take i)))
 case atStart => exact ⟨0, none, 0, 0, rfl, by go_num, by omega, rfl, Lib.hid ⟨HS2.out, OwnG.nil _ _⟩⟩
 case round =>
  obtain ⟨i, a9, m9, c9, rfl, rfl, hi, rfl, H3⟩ := hrel
  obtain ⟨td, hd⟩ := H3.out.1.d
  have d0 : wr.cell? ⟨w.heap.size + 1 + 1, 0, none⟩ = some (.bool false) := cell_blk hd 0
  have hzr : w.heap.size + 3 ≤ wr.heap.size := by have := lt_of_blk hd; omega
  clear hd
  by_cases hil : i < L
  ·have hgt : (0 : Int) < ((L - i : Nat) : Int) := by omega
   obtain ⟨y, hy⟩ := HS.out i hil
   have hym := List.mem_of_getElem? hy
   have hyle := HLe.out y hym
   have hD := posAt_drop size runs tl i
   rw [drop_runs hy tl, HLn.out] at hD
   have HDr := Lib.hid hD
   have hD2 : (putU size ++ (putU L ++ (runs.flatMap runB ++ tl))).drop (posAt size runs i + (putU y.1).length) = putU y.2 ++ ((runs.drop (i + 1)).flatMap runB ++ tl) := by rw [← List.drop_drop, hD, List.drop_left]
   have HDr2 := Lib.hid hD2
   have HPs := Lib.hid (posAt_succ size hy)
   have hpl1 := putU_len64 (n := y.1) (by omega)
   have hps := HSz.out i
   have hps1 := HSz.out (i + 1)
   have hple := posAt_le size runs tl i
   have hple1 := posAt_le size runs tl (i + 1)
   rw [HLn.out] at hple hple1
   rw [HPs.out] at hple1 hps1
   have HC1 := Lib.hid (H3.out.1.call HV.out hD (by omega) (by omega) (by omega))
   have HC2 : Hid (∀ W, NextSt w W w.heap.size (w.heap.size + 1) (w.heap.size + 1 + 1) (.slice av m cv) (posAt size runs i + (putU y.1).length) → Calls Tryz.prog 165 #[.pointer (some ⟨w.heap.size, 0, none⟩), .pointer (some ⟨w.heap.size + 1, 0, none⟩), .pointer (some ⟨w.heap.size + 1 + 1, 0, none⟩)] W fun r w' => r = .returned (.int .i64 y.2) ∧ NextSt w w' w.heap.size (w.heap.size + 1) (w.heap.size + 1 + 1) (.slice av m cv) (posAt size runs (i + 1)) ∧ Upd [w.heap.size + 1] W w') := Lib.hid fun W h => by
    have := h.call HV.out hD2 (by omega) (by omega) (by omega)
    rwa [← HPs.out] at this
   have HTk : Hid (runs.take (i + 1) = runs.take i ++ [(y.1, y.2)]) := Lib.hid (by rw [List.take_add_one, hy]; rfl)
   have hprev : i = 0 ∨ ∃ x, runs[i - 1]? = some x ∧ x.1 + x.2 ≠ y.1 ∧ x.1 + x.2 ≤ 512 ∧ 0 < i := by
    rcases Nat.eq_zero_or_pos i with h | h
    ·exact .inl h
    ·refine .inr ?_
     have hi1 : i - 1 < runs.length := by rw [HLn.out]; omega
     refine ⟨runs[i - 1], List.getElem?_eq_getElem hi1, ?_, HLe.out _ (List.getElem_mem hi1), h⟩
     have hcl : Canon (runs.take (i + 1)) := canon_left (runs.drop (i + 1)) _ (by rw [List.take_append_drop]; exact HC.out)
     rw [List.take_add_one, hy] at hcl
     have hlast : (runs.take i).getLast? = some runs[i - 1] := by
      rw [List.getLast?_eq_getElem?, List.length_take, Nat.min_eq_left (by rw [HLn.out]; omega), List.getElem?_take_of_lt (by omega), List.getElem?_eq_getElem hi1]
     exact ((canon_snoc _ _).1 hcl).2.2 _ hlast
   have hown9 := H3.out.2
   have hm9 : m9 = i := by
    obtain ⟨a, c, h⟩ := hown9.slice
    simp only [Value.slice.injEq] at h
    rw [h.2.1, List.length_take, HLn.out]; omega
   have HM9 := Lib.hid hm9
   clear hm9
   clear hD hD2 hple hple1 hps hps1 hpl1
   obtain ⟨ya, yb⟩ := y
   dsimp only at *
   go_wp2_with fail
   refine HC1.out.mono ?_
   rintro r w4 ⟨rfl, hst4, hu4⟩
   have HC2' := Lib.hid (HC2.out w4 hst4)
   have HU4 := Lib.hid hu4
   clear hst4 hu4 HC1 HC2
   go_wp2_with fail
   refine HC2'.out.mono ?_
   rintro r W5 ⟨rfl, hst5, hu5⟩
   have hu45 : Upd [w.heap.size + 1] wr W5 := HU4.out.trans hu5
   have H5 := Lib.hid (And.intro hst5 (hown9.upd hu45 (fun k hk e => by have := (hown9.block k e).1; simp at hk; omega)))
   have hs5 : w.heap.size + 3 ≤ W5.heap.size := Nat.le_trans hzr hu45.size
   clear hst5 hu5 hu45 HC2' HU4 d0
   rcases hprev with hi0 | ⟨x, hx, hxne, hxle, hi0⟩
   ·obtain rfl : m9 = 0 := by have := HM9.out; omega
    clear hi0
    clear hown9
    go_wp2_with fail
    go_quiet (fail)
    go_upto_region 12 with (fail)
    have hu7 : Upd [] W5 ((W5.alloc (.cells #[.int .i64 ya, .int .i64 yb] 148)).drewN nq) := ((Upd.refl [] W5).alloc _).drewN nq
    have b0 : ((W5.alloc (.cells #[.int .i64 ya, .int .i64 yb] 148)).drewN nq).cell? ⟨W5.heap.size, 0, none⟩ = some (.int .i64 ya) := cell_blk (heap_top W5 _) 0
    have b1 : ((W5.alloc (.cells #[.int .i64 ya, .int .i64 yb] 148)).drewN nq).cell? ⟨W5.heap.size, 1, none⟩ = some (.int .i64 yb) := cell_blk (heap_top W5 _) 1
    generalize (W5.alloc (.cells #[.int .i64 ya, .int .i64 yb] 148)).drewN nq = w7 at *
    have HU7 := Lib.hid hu7
    have hs7 := hu7.size
    have HO7 := Lib.hid fun X : Obj => H5.out.2.upd (hu7.alloc X) (by simp)
    clear hu7
    go_wp2_with (first
     | (at_builtin; refine wpList_append_G TR rfl _ _ rfl (base := w.heap.size + 3) (l := runs.take i) (r := [(ya, yb)]) rfl (HO7.out _) rfl (src_new TR (ty := 148) (heap_top _ _)) (oneR _) ?c1 ?c2 ?c3 ?_)
     | fail)
    case c1 => simp; omega
    case c2 => simp; omega
    case c3 => simp; omega
    intro v8 w8 ho8 hg8 hn8
    rw [← HTk.out] at ho8
    have hrow : Upd (Value.slice a9 0 c9).ownBlock.toList w7 w8 := by
     have := upd_row hg8
     exact ⟨this.os, this.output, Nat.le_trans (by simp) this.size, fun k hk hn => by rw [this.block k (by simp; omega) hn, heap_alloc, if_neg (by omega)]⟩
    have hrb : ∀ k ∈ (Value.slice a9 0 c9).ownBlock.toList, w.heap.size + 3 ≤ k := fun k hk => by
     have e : (Value.slice a9 0 c9).ownBlock = some k := by simpa using hk
     exact (H5.out.2.block k e).1
    have hN8 : NextSt w w8 w.heap.size (w.heap.size + 1) (w.heap.size + 1 + 1) (.slice av m cv) (posAt size runs (i + 1)) :=
     (H5.out.1.keep HU7.out (by simp) (by simp) (by simp) (by simp)).keep hrow (fun k hk => by have := hrb k hk; omega) (fun q => by have := hrb _ q; omega) (fun q => by have := hrb _ q; omega) (fun q => by have := hrb _ q; omega)
    have H8 := Lib.hid (And.intro hN8 ho8)
    obtain ⟨a8, c8, m8, -, rfl⟩ := ho8.sliceM
    clear hN8 ho8 hg8 hn8 hrow hrb
    have e1 : ((L - i : Nat) : Int) - 1 = ((L - (i + 1) : Nat) : Int) := by omega
    have E1 := Lib.hid e1
    clear e1
    go_wp2_with fail
    go_roundg (L - (i + 1))
    case rel => exact ⟨i + 1, a8, _, _, rfl, by first | (rw [E1.out]) | go_num, by omega, rfl, H8⟩
    case measure => omega
   ·have hil2 : i - 1 < (runs.take i).length := by rw [List.length_take, HLn.out]; omega
    have hatc := OwnG.at TR H5.out.2
    have hcap9 := hatc.2.1
    obtain ⟨g9, rfl, hg9, -, hcc⟩ := hatc.2.2.2 (i - 1) hil2
    have hxe : (runs.take i)[i - 1] = x := by
     have h1 : (runs.take i)[i - 1]? = some x := by rw [List.getElem?_take_of_lt (by omega)]; exact hx
     rw [List.getElem?_eq_getElem hil2] at h1
     exact Option.some.inj h1
    rw [hxe] at hcc
    obtain ⟨xa, xb⟩ := x
    dsimp only at hxne hxle
    have k0 : ∀ X : Obj, (W5.alloc X).cell? ⟨g9, (i - 1) * 2, none⟩ = some (.int .i64 xa) := fun X => cell_keep ((Upd.refl [] W5).alloc X) (hcc 0 _ rfl)
    have k1 : ∀ X : Obj, (W5.alloc X).cell? ⟨g9, (i - 1) * 2 + 1, none⟩ = some (.int .i64 xb) := fun X => cell_keep ((Upd.refl [] W5).alloc X) (hcc 1 _ rfl)
    have hwx : IntKind.i64.wrap ((xa : Int) + xb) = (xa : Int) + xb := IntWalk.i64_in _ (by omega)
    have hne1 : ¬ (xa : Int) + (xb : Int) = (ya : Int) := by omega
    have hne2 : ((xa : Int) + (xb : Int) == (ya : Int)) = false := by simpa using hne1
    have hm1 : ((m9 : Nat) : Int) - 1 = ((i - 1 : Nat) : Int) := by have := HM9.out; omega
    have hlt0 : (0 : Int) ≤ ((i - 1 : Nat) : Int) := by omega
    have hlt1 : ((i - 1 : Nat) : Int) < (m9 : Int) := by have := HM9.out; omega
    have hm64 : m9 ≤ 64 := by have := HM9.out; omega
    generalize hq : i - 1 = q at *
    have HQ := Lib.hid hq
    clear hq hcc hxe hown9 hatc hil2 hx
    go_wp2_with fail
    go_quiet (fail)
    go_upto_region 12 with (fail)
    have hu7 : Upd [] W5 ((W5.alloc (.cells #[.int .i64 ya, .int .i64 yb] 148)).drewN nq) := ((Upd.refl [] W5).alloc _).drewN nq
    have b0 : ((W5.alloc (.cells #[.int .i64 ya, .int .i64 yb] 148)).drewN nq).cell? ⟨W5.heap.size, 0, none⟩ = some (.int .i64 ya) := cell_blk (heap_top W5 _) 0
    have b1 : ((W5.alloc (.cells #[.int .i64 ya, .int .i64 yb] 148)).drewN nq).cell? ⟨W5.heap.size, 1, none⟩ = some (.int .i64 yb) := cell_blk (heap_top W5 _) 1
    generalize (W5.alloc (.cells #[.int .i64 ya, .int .i64 yb] 148)).drewN nq = w7 at *
    have HU7 := Lib.hid hu7
    have hs7 := hu7.size
    have HO7 := Lib.hid fun X : Obj => H5.out.2.upd (hu7.alloc X) (by simp)
    clear hu7
    go_wp2_with (first
     | (at_builtin; refine wpList_append_G TR rfl _ _ rfl (base := w.heap.size + 3) (l := runs.take i) (r := [(ya, yb)]) rfl (HO7.out _) rfl (src_new TR (ty := 148) (heap_top _ _)) (oneR _) ?c1 ?c2 ?c3 ?_)
     | fail)
    case c1 => simp; omega
    case c2 => simp; omega
    case c3 => simp; omega
    intro v8 w8 ho8 hg8 hn8
    rw [← HTk.out] at ho8
    have hrow : Upd (Value.slice (some ⟨g9, 0, none⟩) m9 c9).ownBlock.toList w7 w8 := by
     have := upd_row hg8
     exact ⟨this.os, this.output, Nat.le_trans (by simp) this.size, fun k hk hn => by rw [this.block k (by simp; omega) hn, heap_alloc, if_neg (by omega)]⟩
    have hrb : ∀ k ∈ (Value.slice (some ⟨g9, 0, none⟩) m9 c9).ownBlock.toList, w.heap.size + 3 ≤ k := fun k hk => by
     have e : (Value.slice (some ⟨g9, 0, none⟩) m9 c9).ownBlock = some k := by simpa using hk
     exact (H5.out.2.block k e).1
    have hN8 : NextSt w w8 w.heap.size (w.heap.size + 1) (w.heap.size + 1 + 1) (.slice av m cv) (posAt size runs (i + 1)) :=
     (H5.out.1.keep HU7.out (by simp) (by simp) (by simp) (by simp)).keep hrow (fun k hk => by have := hrb k hk; omega) (fun q => by have := hrb _ q; omega) (fun q => by have := hrb _ q; omega) (fun q => by have := hrb _ q; omega)
    have H8 := Lib.hid (And.intro hN8 ho8)
    obtain ⟨a8, c8, m8, -, rfl⟩ := ho8.sliceM
    clear hN8 ho8 hg8 hn8 hrow hrb
    have e1 : ((L - i : Nat) : Int) - 1 = ((L - (i + 1) : Nat) : Int) := by omega
    have E1 := Lib.hid e1
    clear e1
    go_wp2_with fail
    go_roundg (L - (i + 1))
    case rel => exact ⟨i + 1, a8, _, _, rfl, by first | (rw [E1.out]) | go_num, by omega, rfl, H8⟩
    case measure => omega
  ·obtain rfl : i = L := by omega
   have hz0 : ((i - i : Nat) : Int) = 0 := by simp
   obtain ⟨tb, hbb⟩ := H3.out.1.b
   obtain ⟨ta, hba⟩ := H3.out.1.a
   obtain ⟨td2, hbd⟩ := H3.out.1.d
   have HBa := Lib.hid hba
   have HBd := Lib.hid hbd
   have hfull : runs.take i = runs := List.take_of_length_le (by rw [HLn.out]; exact Nat.le_refl _)
   have HFull := Lib.hid hfull
   clear hbb hba hbd hfull
   rw [hz0]
   go_wp2_with fail
   refine (inew_ok wr).mono ?_
   rintro r w5 ⟨rfl, hn5, hu5, hs5⟩
   have hown := H3.out.2.upd hu5 (by simp)
   rw [HFull.out] at hown
   have HX := Lib.hid (extend_ok w5 (base := wr.heap.size) (q := wr.heap.size) (size := 0) hn5 (by omega) (by omega) ⟨by simp, by simp [lenR], by simp⟩ size (by omega) (OwnG.rd TR hown) ⟨canon_pos HC.out, HLe.out, by rw [HLn.out]; omega⟩ (by rw [HLen.out, Nat.zero_add]; simp [blksOf]) (by simp [lenR]))
   have HU5 := Lib.hid hu5
   have hba5 := (hu5.block _ (lt_of_blk HBa.out) (by simp)).trans HBa.out
   have hbd5 := (hu5.block _ (lt_of_blk HBd.out) (by simp)).trans HBd.out
   have d5 : w5.cell? ⟨w.heap.size + 1 + 1, 0, none⟩ = some (.bool false) := cell_blk hbd5 0
   have HBa5 := Lib.hid hba5
   have hsr : w.heap.size + 3 ≤ wr.heap.size := hzr
   have HNd := Lib.hid hn5
   clear hn5 hu5 hown hba5 hbd5
   go_wp2_with fail
   refine HX.out.mono ?_
   rintro r w6 ⟨rfl, rv6, hn6, hu6, hb6⟩
   have hlt1 := lt_of_blk HBa5.out
   have a6 : w6.cell? ⟨w.heap.size + 1, 0, none⟩ = some (.int .i64 (posAt size runs i)) := cell_upd hu6 (by simp; omega) (cell_blk HBa5.out 0)
   have H6 := Lib.hid (And.intro hn6 (And.intro ((H3.out.1.upd.trans HU5.out).next hu6 (fun k hk hlt => by simp at hk; omega)) hb6))
   clear hn6 hu6 hb6 HX d5 d0
   go_wp2_with fail
   go_quiet (fail)
   go_wp2_with fail
   go_ret3
   have hu9 : Upd [] w6 (w6.drewN nq) := (Upd.refl [] w6).drewN nq
   have hfc : List.foldl putRun [] runs = runs := foldl_canon runs [] HC.out
   have hn := H6.out.1
   rw [hfc, Nat.zero_add] at hn
   exact ⟨wr.heap.size, rv6, rfl, ⟨hn.1, (hn.2.upd hu9 (by simp)).base (by omega)⟩, by omega, H6.out.2.1.drewN nq⟩
end Go.Proofs.YtgpefiacbipfpaaGreatDoor

namespace Go.Proofs.YtgpefiacbipfpaaGreatDoor
def restB (fs : Files) (i : Nat) : Bs := (fs.drop i).flatMap entB ++ List.replicate (8192 - (dirRaw fs).length) 0
theorem dirB_rest (fs : Files) : dirB fs = magicF ++ (putU fs.length ++ restB fs 0) := by
 simp [dirB, dirRaw, restB]
theorem restB_succ {fs : Files} {i : Nat} {p : Bs × Fil} (h : fs[i]? = some p) : restB fs i = putU p.1.length ++ (p.1 ++ (filB p.2 ++ restB fs (i + 1))) := by
 obtain ⟨hi, rfl⟩ := List.getElem?_eq_some_iff.1 h
 unfold restB
 rw [List.drop_eq_getElem_cons hi, List.flatMap_cons]
 simp only [entB, List.append_assoc]
theorem filB_rest (f : Fil) (tl : Bs) : filB f ++ tl = putU f.data.length ++ (putU f.runs.length ++ (f.runs.flatMap runB ++ tl)) := by simp [filB]
theorem filB_len (f : Fil) : (filB f).length = posAt f.data.length f.runs f.runs.length := by
 unfold filB posAt
 rw [List.take_length, List.length_append, List.length_append]
theorem restB_le {room : Nat} {fs : Files} (h : FilesOk room fs) (hr : room ≤ 512) (i : Nat) : (restB fs i).length ≤ 8192 := by
 have h1 := h.dir_len hr
 rw [dirB_rest] at h1
 have h2 : (restB fs i).length ≤ (restB fs 0).length := by
  unfold restB
  rw [List.length_append, List.length_append]
  have : ((fs.drop i).flatMap entB).length ≤ ((fs.drop 0).flatMap entB).length := by
   rw [List.drop_zero]
   conv => rhs; rw [← List.take_append_drop i fs]
   rw [List.flatMap_append, List.length_append]
   omega
  omega
 rw [List.length_append, List.length_append] at h1
 omega
theorem getA_snoc (l : Files) (p : Bs × Fil) (k : Bs) : getA (l ++ [p]) k = match getA l k with | some x => some x | none => if p.1 = k then some p.2 else none := by
 induction l with
 | nil => simp [getA_cons, getA_nil]
 | cons q l ih =>
  rw [List.cons_append, getA_cons, getA_cons, ih]
  by_cases e : q.1 = k
  ·simp [e]
  ·simp [e]
theorem put_last {l : Files} {p : Bs × Fil} (h : Srt ltN (l ++ [p])) : getA l p.1 = none ∧ putA ltN l p.1 p.2 = l ++ [p] := by
 have hl : Srt ltN l := (List.pairwise_append.1 h).1
 have hn : getA l p.1 = none := getA_none.2 fun q hq e => by
  have := (List.pairwise_append.1 h).2.2 q hq p (by simp)
  rw [e] at this
  have h0 := ordN.irrefl p.1
  rw [h0] at this
  cases this
 refine ⟨hn, srt_ext ordN (srt_putA ordN hl _ _) h fun k => ?_⟩
 rw [getA_putA ordN hl, getA_snoc]
 by_cases e : p.1 = k
 ·subst e; rw [if_pos rfl, hn, if_pos rfl]
 ·rw [if_neg e, if_neg e]
  cases getA l k <;> rfl
theorem take_snoc {fs : Files} {i : Nat} {p : Bs × Fil} (h : fs[i]? = some p) : fs.take (i + 1) = fs.take i ++ [p] := by
 rw [List.take_add_one, h]; rfl
theorem srt_take {fs : Files} (h : Srt ltN fs) (i : Nat) : Srt ltN (fs.take i) := List.Pairwise.sublist (List.take_sublist ..) h
theorem marks_take {room : Nat} {fs : Files} {i : Nat} {p : Bs × Fil} (h : fs[i]? = some p) : markL (marks room (fs.take i)) p.2.runs = marks room (fs.take (i + 1)) := by
 refine marks_ext (by rw [markL_len, marks_len]) fun b hb => ?_
 have h1 := markL_getD (marks room (fs.take i)) p.2.runs b
 rw [List.getD_eq_getElem?_getD, List.getD_eq_getElem?_getD, marks_get _ hb] at h1
 have hl : (markL (marks room (fs.take i)) p.2.runs)[b]? = some ((markL (marks room (fs.take i)) p.2.runs)[b]'(by rw [markL_len, marks_len]; exact hb)) := List.getElem?_eq_getElem _
 rw [hl] at h1 ⊢
 simp only [Option.getD_some] at h1
 rw [h1]
 congr 1
 rw [Bool.eq_iff_iff]
 simp only [Bool.or_eq_true, decide_eq_true_eq]
 rw [take_snoc h]
 unfold allBlks
 rw [List.flatMap_append, List.mem_append]
 simp [Fil.blks]
theorem marks_none (room : Nat) : marks room [] = List.replicate room false := by
 refine List.eq_replicate_iff.2 ⟨marks_len _ _, fun b hb => ?_⟩
 obtain ⟨x, -, rfl⟩ := List.mem_map.1 hb
 simp [allBlks]
theorem unmarked {room : Nat} {fs : Files} (h : FilesOk room fs) {i k ii : Nat} {p : Bs × Fil} {r : Run} (hp : fs[i]? = some p) (hr : p.2.runs[k]? = some r) (hi : ii < r.2) :
  r.1 + ii < room ∧ (markL (marks room (fs.take i)) (p.2.runs.take k ++ [(r.1, ii)]))[r.1 + ii]? = some false := by
 have hpm := List.mem_of_getElem? hp
 have hrm := List.mem_of_getElem? hr
 have hle := (h.ok p hpm).le r hrm
 have hlt : r.1 + ii < room := by omega
 refine ⟨hlt, ?_⟩
 have h1 := markL_getD (marks room (fs.take i)) (p.2.runs.take k ++ [(r.1, ii)]) (r.1 + ii)
 rw [List.getD_eq_getElem?_getD, List.getD_eq_getElem?_getD, marks_get _ hlt] at h1
 have hl : (markL (marks room (fs.take i)) (p.2.runs.take k ++ [(r.1, ii)]))[r.1 + ii]? = some ((markL (marks room (fs.take i)) (p.2.runs.take k ++ [(r.1, ii)]))[r.1 + ii]'(by rw [markL_len, marks_len]; exact hlt)) := List.getElem?_eq_getElem _
 rw [hl] at h1 ⊢
 simp only [Option.getD_some] at h1
 rw [h1]
 have hnd := h.nodup
 have e0 : fs = fs.take i ++ p :: fs.drop (i + 1) := by
  obtain ⟨hi, rfl⟩ := List.getElem?_eq_some_iff.1 hp
  rw [← List.drop_eq_getElem_cons hi, List.take_append_drop]
 have hb : r.1 + ii ∈ p.2.blks := mem_expand.2 ⟨r, hrm, by omega, by omega⟩
 have hA : r.1 + ii ∉ allBlks (fs.take i) := fun q => by
  rw [e0] at hnd
  unfold allBlks at hnd q
  rw [List.flatMap_append, List.flatMap_cons, List.nodup_append] at hnd
  exact hnd.2.2 _ q _ (List.mem_append_left _ hb) rfl
 have hB : r.1 + ii ∉ expand (p.2.runs.take k ++ [(r.1, ii)]) := fun q => by
  have hnp := blks_nodup hnd hpm
  have e1 : p.2.runs = p.2.runs.take k ++ r :: p.2.runs.drop (k + 1) := by
   obtain ⟨hi, e⟩ := List.getElem?_eq_some_iff.1 hr
   rw [← e, ← List.drop_eq_getElem_cons hi, List.take_append_drop]
  unfold Fil.blks at hnp
  rw [e1, expand_app, expand_cons, List.nodup_append] at hnp
  rw [expand_app, List.mem_append, expand_one] at q
  rcases q with q | q
  ·exact hnp.2.2 _ q _ (List.mem_append_left _ (List.mem_range'.2 ⟨ii, by omega, by omega⟩)) rfl
  ·obtain ⟨j, hj, e⟩ := List.mem_range'.1 q
   simp at e
   omega
 simp [hA, hB]
theorem frees_all (room : Nat) : lenR (frees (freeB (List.replicate room false) (List.replicate room false)) room 0) = room := by
 rw [← expand_len, expand_frees]
 unfold freeList
 rw [List.filter_eq_self.2, List.length_range', Nat.sub_zero]
 intro b hb
 obtain ⟨j, hj, rfl⟩ := List.mem_range'.1 hb
 have hj' : 0 + 1 * j < room := by omega
 unfold freeB
 rw [List.getD_eq_getElem?_getD, List.getElem?_replicate, if_pos hj']
 rfl
theorem taken_all (room : Nat) : markL (List.replicate room false) (takeR (frees (freeB (List.replicate room false) (List.replicate room false)) room 0) room) = List.replicate room true := by
 have hex : expand (takeR (frees (freeB (List.replicate room false) (List.replicate room false)) room 0) room) = expand (frees (freeB (List.replicate room false) (List.replicate room false)) room 0) := by
  rw [expand_takeR, List.take_of_length_le (by rw [expand_len, frees_all]; exact Nat.le_refl _)]
 apply List.ext_getElem?
 intro b
 by_cases hb : b < room
 ·have h1 := markL_getD (List.replicate room false) (takeR (frees (freeB (List.replicate room false) (List.replicate room false)) room 0) room) b
  have hlen : b < (markL (List.replicate room false) (takeR (frees (freeB (List.replicate room false) (List.replicate room false)) room 0) room)).length := by rw [markL_len, List.length_replicate]; exact hb
  rw [List.getD_eq_getElem?_getD, List.getElem?_eq_getElem hlen, Option.getD_some] at h1
  rw [List.getElem?_eq_getElem hlen, h1, hex, expand_frees, List.getElem?_replicate, if_pos hb]
  have hm : b ∈ freeList (freeB (List.replicate room false) (List.replicate room false)) room 0 := mem_freeList.2 ⟨hb, by
   unfold freeB
   rw [List.getD_eq_getElem?_getD, List.getElem?_replicate, if_pos hb]; rfl⟩
  simp [hm]
 ·rw [List.getElem?_eq_none (by rw [markL_len, List.length_replicate]; omega), List.getElem?_eq_none (by rw [List.length_replicate]; omega)]
def nowAt (room : Nat) (fs : Files) (i : Nat) : List Bool := (List.range room).map fun b => if b < i then decide (b ∈ allBlks fs) else true
theorem nowAt_len (room : Nat) (fs : Files) (i : Nat) : (nowAt room fs i).length = room := by simp [nowAt]
theorem nowAt_zero (room : Nat) (fs : Files) : nowAt room fs 0 = List.replicate room true := by
 refine List.eq_replicate_iff.2 ⟨nowAt_len _ _ _, fun b hb => ?_⟩
 obtain ⟨x, -, rfl⟩ := List.mem_map.1 hb
 simp
theorem nowAt_end (room : Nat) (fs : Files) : nowAt room fs room = marks room fs := by
 unfold nowAt marks
 refine List.map_congr_left fun b hb => ?_
 rw [if_pos (List.mem_range.1 hb)]
theorem nowAt_yes {room : Nat} {fs : Files} {i : Nat} (h : i ∈ allBlks fs) : nowAt room fs (i + 1) = nowAt room fs i := by
 unfold nowAt
 refine List.map_congr_left fun b _ => ?_
 by_cases e : b = i
 ·subst e; simp [h]
 ·by_cases q : b < i
  ·rw [if_pos (by omega), if_pos q]
  ·rw [if_neg (by omega), if_neg q]
theorem nowAt_no {room : Nat} {fs : Files} {i : Nat} (h : i ∉ allBlks fs) : clearL (nowAt room fs i) [(i, 1)] = nowAt room fs (i + 1) := by
 have e : expand [(i, 1)] = [i] := by rw [expand_one]; rfl
 unfold clearL
 rw [e, List.foldl_cons, List.foldl_nil]
 apply List.ext_getElem?
 intro b
 unfold nowAt
 rw [List.getElem?_set]
 by_cases hb : b < room
 ·by_cases q : i = b
  ·subst q
   simp [hb, h]
  ·rw [if_neg q]
   simp only [List.getElem?_map, List.getElem?_range hb, Option.map_some]
   congr 1
   by_cases q2 : b < i
   ·rw [if_pos q2, if_pos (by omega)]
   ·rw [if_neg q2, if_neg (by omega)]
 ·by_cases q : i = b
  ·subst q; simp [hb]
  ·simp [hb, q]
theorem nowAt_get {room : Nat} {fs : Files} {i : Nat} (h : i < room) : (nowAt room fs i)[i]? = some true := by
 unfold nowAt
 simp [h]
end Go.Proofs.YtgpefiacbipfpaaGreatDoor

namespace Go.Proofs.YtgpefiacbipfpaaGreatDoor
open Go.RowKit Go.Maps
theorem OwB_get {w : World} {base g c n : Nat} {l : List Bool} (h : OwB w base (.slice (some ⟨g, 0, none⟩) n c) l) {i : Nat} {b : Bool} (hi : l[i]? = some b) : w.cell? ⟨g, i, none⟩ = some (.bool b) ∧ w.frozen? ⟨g, i, none⟩ = false := by
 obtain ⟨hl, rfl⟩ := List.getElem?_eq_some_iff.1 hi
 obtain ⟨h1, h2⟩ := h
 rcases h2 with ⟨h2, -⟩ | ⟨g', cap, cur, hv, hg, hh, r1, r2, r3, r4⟩
 ·cases h2
 ·cases hv
  have hf : ∀ l : List Bool, flatG cB l = l.map Value.bool := fun l => by
   induction l with
   | nil => rfl
   | cons x l ih => simp only [flatG, List.flatMap_cons, List.map_cons] at ih ⊢; rw [ih]; rfl
  refine ⟨?_, frozen_blk hh i⟩
  rw [cell_blk hh]
  rw [hf] at r4
  have h3 : (cur.toList.take l.length)[i]? = (l.map Value.bool)[i]? := by rw [← r4, Nat.mul_one]
  rw [List.getElem?_take_of_lt hl, Array.getElem?_toList, List.getElem?_map, List.getElem?_eq_getElem hl] at h3
  exact h3
theorem FilR.putG {w w' : World} {mf : Nat} {fs : Files} {A : Bs → Nat} {R : Bs → Value} {FM G : List Nat} (h : FilR w mf fs A R FM) (hs : Srt ltN fs) {nm : Bs} {f : Fil} {a : Nat} {rv : Value} (hm : MapS w' mf (putA ltN (entsL fs A) nm (ptA a))) (u : Upd (mf :: G) w w') (hG : ∀ i ∈ FM, i ∉ G)
  (hn : NodeR w' 0 a f.data.length rv f.runs) (ha : w.heap.size ≤ a) (hr : ∀ g, rv.ownBlock = some g → w.heap.size ≤ g) : FilR w' mf (putA ltN fs nm f) (updF A nm a) (updF R nm rv) (a :: (rv.ownBlock.toList ++ FM)) := by
 have hmem : ∀ p ∈ putA ltN fs nm f, (p = (nm, f)) ∨ (p ∈ fs ∧ p.1 ≠ nm) := fun p hp => put_mem hs hp
 have e1 : updF A nm a nm = a := by simp [updF]
 have e2 : updF R nm rv nm = rv := by simp [updF]
 have o1 : ∀ {k}, k ≠ nm → updF A nm a k = A k := fun hk => by simp [updF, hk]
 have o2 : ∀ {k}, k ≠ nm → updF R nm rv k = R k := fun hk => by simp [updF, hk]
 refine ⟨by rw [entsL_put hs]; exact hm, fun p hp => ?_, by simp [h.mem], fun p hp => ?_, fun p hp g hg => ?_, fun p hp q hq hne => ?_, fun p hp q hq hne g hg => ?_, fun i hi => ?_⟩
 ·rcases hmem p hp with rfl | ⟨hp, hk⟩
  ·rw [e1, e2]; exact hn
  ·rw [o1 hk, o2 hk]
   have hnd := h.node p hp
   obtain ⟨es, clock, hb, -⟩ := h.map
   refine hnd.upd u (fun q => ?_) (fun g hg q => ?_)
   ·rcases List.mem_cons.1 q with q | q
    ·rw [q] at hnd
     have := hnd.1
     rw [hb] at this
     cases this
    ·exact hG _ (h.memA p hp) q
   ·rcases List.mem_cons.1 q with q | q
    ·rw [q] at hg
     exact own_map hnd.2 hb hg
    ·exact hG _ (h.memR p hp g hg) q
 ·rcases hmem p hp with rfl | ⟨hp, hk⟩
  ·rw [e1]; simp
  ·rw [o1 hk]; simp [h.memA p hp]
 ·rcases hmem p hp with rfl | ⟨hp, hk⟩
  ·rw [e2] at hg; simp [hg]
  ·rw [o2 hk] at hg; simp [h.memR p hp g hg]
 ·rcases hmem p hp with rfl | ⟨hp, hk⟩
  ·rcases hmem q hq with rfl | ⟨hq, hk2⟩
   ·exact absurd rfl hne
   ·rw [e1, o1 hk2]; intro e; have := h.lt _ (h.memA q hq); omega
  ·rcases hmem q hq with rfl | ⟨hq, hk2⟩
   ·rw [e1, o1 hk]; intro e; have := h.lt _ (h.memA p hp); omega
   ·rw [o1 hk, o1 hk2]; exact h.apA p hp q hq hne
 ·rcases hmem p hp with rfl | ⟨hp, hk⟩
  ·rcases hmem q hq with rfl | ⟨hq, hk2⟩
   ·exact absurd rfl hne
   ·rw [e2] at hg; rw [o2 hk2]; intro e; have := h.lt _ (h.memR q hq g e); have := hr g hg; omega
  ·rw [o2 hk] at hg
   rcases hmem q hq with rfl | ⟨hq, hk2⟩
   ·rw [e2]; intro e; have := h.lt _ (h.memR p hp g hg); have := hr g e; omega
   ·rw [o2 hk2]; exact h.apR p hp q hq hne g hg
 ·simp only [List.mem_cons, List.mem_append, Option.mem_toList] at hi
  rcases hi with rfl | hi | hi
  ·exact lt_of_blk hn.1
  ·exact (hn.2.block i hi).2
  ·exact Nat.lt_of_lt_of_le (h.lt i hi) u.size
theorem run_one {w : World} {B a n : Nat} {ty : TypeId} {fz : Nat × Nat} (h : w.heap[B]? = some (.cells #[.int .i64 a, .int .i64 n] ty fz)) : RdG cR 2 w (.slice (some ⟨B, 0, none⟩) 1 1) [(a, n)] := by
 refine ⟨⟨some ⟨B, 0, none⟩, 1, rfl, Nat.le_refl _, by unfold maxLen; omega, fun i hi => ?_⟩, fun n c e => by cases e⟩
 obtain rfl : i = 0 := by simp at hi; exact hi
 refine ⟨B, 0, rfl, fun j u hu => ?_⟩
 have h0 := cell_blk h 0
 have h1 := cell_blk h 1
 simp only [List.getElem?_toArray, List.getElem?_cons_zero, List.getElem?_cons_succ] at h0 h1
 match j with
 | 0 => simp [cR] at hu; subst hu; simpa using h0
 | 1 => simp [cR] at hu; subst hu; simpa using h1
 | j + 2 => simp [cR] at hu
structure DirSt (w : World) (mf ub room : Nat) (fs : Files) (i : Nat) (A : Bs → Nat) (R : Bs → Value) (FM : List Nat) (wr : World) : Prop where
 fil : FilR wr mf (fs.take i) A R FM
 sub : ∀ a ∈ FM, a = mf ∨ ub < a
 use : OwB wr ub (.slice (some ⟨ub, 0, none⟩) room room) (marks room (fs.take i))
 upd : Upd [mf] w wr
 lt : ub < wr.heap.size
 ge : w.heap.size ≤ ub
end Go.Proofs.YtgpefiacbipfpaaGreatDoor
