/- An entry of a map of texts is laid, then written. -/
import Derived.WideKeyEntry
import Derived.Test.YtgpefiacbipfpaaGreatDoorC27
set_option maxRecDepth 100000
set_option maxHeartbeats 4000000
namespace Go.Proofs.YtgpefiacbipfpaaGreatDoor
open Go.RowKit Go.Maps
theorem fO.entry {w : World} {mb : Nat} {L : List (Bs × Value)} (h : fO w mb L) (hs : cP bQ L) (hn : L.length < 1000000) {t e : TypeId} (ht : Tryz.prog.underlying t = some (.map 9 e)) {z : Value} (hz : ∀ u : World, (zeroValue e).run Tryz.prog u = .ok z u) (s : ByteArray) (hss : s.size ≤ maxLen) :
  ∃ (v0 : Value) (st : Nat) (w1 : World), (Instr.mapEntry t (.map (some mb)) (.string s)).run Tryz.prog w = .ok (.tuple #[v0, goInt st]) w1 ∧ aB [mb] w w1 ∧
   ∀ val : Value, ∃ w2, (Instr.entryStore t (.map (some mb)) (goInt st) val).run Tryz.prog w1 = .ok () w2 ∧ fO w2 mb (cQ bQ L s.data.toList val) ∧ aB [mb] w1 w2 := by
 have hbl := World.ownsMap.lt h
 have hput := fun val => h.put hs hn ht s hss val
 obtain ⟨es, clock, hb, F, hsz, hD⟩ := h
 obtain ⟨v0, st, es1, clock1, hE, -, hS⟩ := WideElems.entry_then_store (WideMaps.string_law Tryz.underlying9) ht hz hb F (WideMaps.keyOf_string_mk Tryz.underlying9 hss)
 have hb1 : (ChangeMaps.setBlock w mb (.map es1 clock1)).heap[mb]? = some (.map es1 clock1) := Kn hb _
 refine ⟨v0, st, _, hE, ⟨rfl, rfl, by simp [ChangeMaps.setBlock], fun k hk hn => Kq hb _ (fun e => hn (by rw [e]; simp))⟩, fun val => ?_⟩
 obtain ⟨es', clock', h1, h2⟩ := hS (ChangeMaps.setBlock w mb (.map es1 clock1)) val hb1
 obtain ⟨w', g1, g2, -⟩ := hput val
 rw [h2] at g1
 simp only [Result.ok.injEq, true_and] at g1
 subst g1
 obtain ⟨es2, clock2, k1, k2, k3, k4⟩ := g2
 rw [Kn hb] at k1
 refine ⟨_, h1, ⟨es2, clock2, by rw [Kn hb1]; exact k1, k2, k3, k4⟩, ⟨rfl, rfl, by simp [ChangeMaps.setBlock], fun k hk hn => Kq hb1 _ (fun e => hn (by rw [e]; simp))⟩⟩
theorem PR (w : World) {bb ab db : Nat} {v : Value} {l : Bs} (cb : w.cell? ⟨bb, 0, none⟩ = some v) (hv : Rd w v l) {a : Nat} (ca : w.cell? ⟨ab, 0, none⟩ = some (.int .i64 a)) (fa : w.frozen? ⟨ab, 0, none⟩ = false) {n : Nat} {rest : Bs} (hl : l.drop a = aN n ++ rest) (hal : a ≤ l.length) (ha : a ≤ 1000000) (hn : n ≤ 32768) :
  Calls Tryz.prog 165 #[.pointer (some ⟨bb, 0, none⟩), .pointer (some ⟨ab, 0, none⟩), .pointer (some ⟨db, 0, none⟩)] w fun r w' => r = .returned (.int .i64 n) ∧ w' = w.setCell ⟨ab, 0, none⟩ (.int .i64 ((a + (aN n).length : Nat))) := by
 have HV := aA hv
 obtain ⟨av, cv, m, hm, hmc, hc63, rfl⟩ := hv.sliceM
 have hp := gX (n := n) (by omega)
 have hg := pR (n := n) (by omega) rest
 generalize (aN n).length = pl at *
 have HG := aA hg
 have HL := aA hl
 have hw1 : IntKind.i64.wrap ((a : Int) + pl) = (a : Int) + pl := fF _ (by omega)
 have e1 : ((a + pl : Nat) : Int) = (a : Int) + pl := by omega
 rw [e1]
 clear hv hm hg hl e1
 go_in
 go_wp2_with (first
  | (refine sZ rfl _ _ rfl HV.out hal rfl rfl ?_; intro a8 c8 m8 hm8 hr8 hb8; rw [HL.out] at hr8; have HR8 := aA hr8; clear hm8 hr8 hb8)
  | fail)
 have hu := pC w HR8.out
 rw [HG.out] at hu
 dsimp only at hu
 refine hu.mono ?_
 rintro r w1 ⟨rfl, rfl⟩
 clear hu
 go_wp2_with fail
 go_ret
 exact ⟨rfl, rfl⟩
structure jZ (w wr : World) (bb ab db : Nat) (v : Value) (a : Nat) : Prop where
 upd : aB [] w wr
 b : ∃ ty, wr.heap[bb]? = some (.cells #[v] ty (0, 0))
 a : ∃ ty, wr.heap[ab]? = some (.cells #[.int .i64 a] ty (0, 0))
 d : ∃ ty, wr.heap[db]? = some (.cells #[.bool false] ty (0, 0))
 lo : w.heap.size ≤ ab
 nab : ab ≠ bb
 nad : ab ≠ db
theorem jZ.next {w wr : World} {bb ab db : Nat} {v : Value} {a : Nat} (h : jZ w wr bb ab db v a) (a' : Nat) : jZ w (wr.setCell ⟨ab, 0, none⟩ (.int .i64 a')) bb ab db v a' := by
 obtain ⟨u, ⟨t1, h1⟩, ⟨t2, h2⟩, ⟨t3, h3⟩, lo, n1, n2⟩ := h
 refine ⟨u.setCellNew lo _ _, ⟨t1, by rw [bJ, aE (Ne.symm n1)]; exact h1⟩, ⟨t2, by rw [bJ, aF rfl, h2]; rfl⟩, ⟨t3, by rw [bJ, aE (Ne.symm n2)]; exact h3⟩, lo, n1, n2⟩
theorem jZ.keep {w wr wr' : World} {bb ab db : Nat} {v : Value} {a : Nat} (h : jZ w wr bb ab db v a) {G : List Nat} (u : aB G wr wr') (hG : ∀ k ∈ G, w.heap.size ≤ k) (n1 : bb ∉ G) (n2 : ab ∉ G) (n3 : db ∉ G) : jZ w wr' bb ab db v a := by
 obtain ⟨u0, ⟨t1, h1⟩, ⟨t2, h2⟩, ⟨t3, h3⟩, lo, q1, q2⟩ := h
 exact ⟨u0.next u (fun k hk hlt => by have := hG k hk; omega), ⟨t1, (u.block _ (aH h1) n1).trans h1⟩, ⟨t2, (u.block _ (aH h2) n2).trans h2⟩, ⟨t3, (u.block _ (aH h3) n3).trans h3⟩, lo, q1, q2⟩
theorem jZ.call {w wr : World} {bb ab db : Nat} {v : Value} {l : Bs} (hv : Rd w v l) {a : Nat} (h : jZ w wr bb ab db v a) {n : Nat} {rest : Bs} (hl : l.drop a = aN n ++ rest) (hal : a ≤ l.length) (ha : a ≤ 1000000) (hn : n ≤ 32768) :
  Calls Tryz.prog 165 #[.pointer (some ⟨bb, 0, none⟩), .pointer (some ⟨ab, 0, none⟩), .pointer (some ⟨db, 0, none⟩)] wr fun r w' => r = .returned (.int .i64 n) ∧ jZ w w' bb ab db v (a + (aN n).length) ∧ aB [ab] wr w' := by
 obtain ⟨t1, h1⟩ := h.b
 obtain ⟨t2, h2⟩ := h.a
 refine (PR wr (aD h1 0) (hv.keep h.upd) (aD h2 0) (aZ h2 0) hl hal ha hn).mono ?_
 rintro r w' ⟨rfl, rfl⟩
 exact ⟨rfl, h.next _, (aB.refl _ _).setCell (by simp) _ _⟩
def jQ (size : Nat) (runs : List aR) (i : Nat) : Nat := (aN size).length + (aN runs.length).length + ((runs.take i).flatMap gS).length
theorem PS (size : Nat) (runs : List aR) (tl : Bs) (i : Nat) : (aN size ++ (aN runs.length ++ (runs.flatMap gS ++ tl))).drop (jQ size runs i) = (runs.drop i).flatMap gS ++ tl := by
 unfold jQ
 rw [← rN, ← rN, kV, kV]
 have e : runs.flatMap gS = (runs.take i).flatMap gS ++ (runs.drop i).flatMap gS := by rw [← vA, kW]
 rw [e, eJ, kV]
theorem PT (size : Nat) {runs : List aR} {i : Nat} {r : aR} (h : runs[i]? = some r) : jQ size runs (i + 1) = jQ size runs i + (aN r.1).length + (aN r.2).length := by
 unfold jQ
 rw [iK, h]
 simp [gS]; omega
theorem Dc (size : Nat) (runs : List aR) (tl : Bs) (i : Nat) : jQ size runs i ≤ (aN size ++ (aN runs.length ++ (runs.flatMap gS ++ tl))).length := by
 have e : runs.flatMap gS = (runs.take i).flatMap gS ++ (runs.drop i).flatMap gS := by rw [← vA, kW]
 simp only [jQ, bD]
 rw [e, bD]
 omega
theorem PU {runs : List aR} {i : Nat} {r : aR} (h : runs[i]? = some r) (tl : Bs) : (runs.drop i).flatMap gS ++ tl = aN r.1 ++ (aN r.2 ++ ((runs.drop (i + 1)).flatMap gS ++ tl)) := by
 obtain ⟨hi, rfl⟩ := eX.1 h
 rw [pP hi, jT]
 simp only [gS, eJ]
theorem PV (w : World) {size : Nat} {runs : List aR} {tl : Bs} {v : Value} (hv : Rd w v (aN size ++ (aN runs.length ++ (runs.flatMap gS ++ tl)))) (hs : size ≤ 32768) (hc : jL runs) (hle : ∀ r ∈ runs, r.1 + r.2 ≤ 512) (hlen : aY runs = gM size) (hsz : (aN size ++ (aN runs.length ++ (runs.flatMap gS ++ tl))).length ≤ 100000) :
  Calls Tryz.prog 135 #[v] w fun r w' => ∃ q rv, r = .returned (.tuple #[.pointer (some ⟨q, 0, none⟩), .int .i64 (jQ size runs runs.length), .int .i64 0]) ∧ iG w' w.heap.size q size rv runs ∧ w.heap.size ≤ q ∧ aB [] w w' := by
 have HV := aA hv
 have hl64 : aY runs ≤ 64 := by rw [hlen]; unfold gM; omega
 have hpos := oT hc
 have hrl : runs.length ≤ 64 := by have := sU hpos; omega
 have HC := aA hc
 have HLe := aA hle
 have HLen := aA hlen
 have HSz := aA fun i => bG (Dc size runs tl i) hsz
 obtain ⟨av, cv, m, -, -, -, rfl⟩ := hv.sliceM
 have HS : Hid (∀ i, i < runs.length → ∃ y, runs[i]? = some y) := aA fun i h => ⟨_, bL h⟩
 have hP0 : jQ size runs 0 = (aN size).length + (aN runs.length).length := by simp [jQ]
 have HP0 := aA hP0
 have HN1 : Hid (∀ (wr : World) (bb ab db : Nat), jZ w wr bb ab db (.slice av m cv) 0 → Calls Tryz.prog 165 #[.pointer (some ⟨bb, 0, none⟩), .pointer (some ⟨ab, 0, none⟩), .pointer (some ⟨db, 0, none⟩)] wr fun r w' => r = .returned (.int .i64 size) ∧ jZ w w' bb ab db (.slice av m cv) (aN size).length ∧ aB [ab] wr w') := aA fun wr bb ab db h => by
  have := h.call hv (n := size) rfl (by omega) (by omega) hs
  rwa [iJ] at this
 have HN2 : Hid (∀ (wr : World) (bb ab db : Nat), jZ w wr bb ab db (.slice av m cv) (aN size).length → Calls Tryz.prog 165 #[.pointer (some ⟨bb, 0, none⟩), .pointer (some ⟨ab, 0, none⟩), .pointer (some ⟨db, 0, none⟩)] wr fun r w' => r = .returned (.int .i64 runs.length) ∧ jZ w w' bb ab db (.slice av m cv) (jQ size runs 0) ∧ aB [ab] wr w') := aA fun wr bb ab db h => by
  have := h.call hv (n := runs.length) kV (by simp) (by have := gX (n := size) (by omega); omega) (by omega)
  rwa [hP0]
 generalize hL : runs.length = L at *
 have HLn := aA hL
 clear hv hc hle hlen hsz hL hpos hP0
 go_in
 go_wp2_with fail
 have hst0 : jZ w (((w.alloc (.cells #[.slice av m cv] 23)).alloc (.cells #[.int .i64 0] 3)).alloc (.cells #[.bool false] 4)) w.heap.size (w.heap.size + 1) (w.heap.size + 1 + 1) (.slice av m cv) 0 :=
  ⟨(((aB.refl [] w).alloc _).alloc _).alloc _, ⟨_, GA _ _ _ _⟩, ⟨_, GB _ _ _ _⟩, ⟨_, GC _ _ _ _⟩, by omega, by omega, by omega⟩
 have hsz0 : (((w.alloc (.cells #[.slice av m cv] 23)).alloc (.cells #[.int .i64 0] 3)).alloc (.cells #[.bool false] 4)).heap.size = w.heap.size + 3 := by simp
 generalize (((w.alloc (.cells #[.slice av m cv] 23)).alloc (.cells #[.int .i64 0] 3)).alloc (.cells #[.bool false] 4)) = w0 at *
 have HSZ0 := aA hsz0
 clear hsz0
 refine (HN1.out w0 _ _ _ hst0).mono ?_
 rintro r w1 ⟨rfl, hst1, hu1⟩
 have HS1 := aA hst1
 have hz1 : w.heap.size + 3 ≤ w1.heap.size := by have := hu1.size; rw [HSZ0.out] at this; exact this
 clear hst0 hst1 hu1 HN1
 go_wp2_with fail
 refine (HN2.out w1 _ _ _ HS1.out).mono ?_
 rintro r w2 ⟨rfl, hst2, hu2⟩
 have HS2 := aA hst2
 have hz2 : w.heap.size + 3 ≤ w2.heap.size := bG hz1 hu2.size
 clear hst2 hu2 HN2
 go_wp2_with fail
 go_loopg [9, 10] L (fun gh v9 v10 wr => ∃ (i : Nat) (a9 : Option Addr) (m9 c9 : Nat), v9 = .slice a9 m9 c9 ∧ v10 = .int .i64 ((L - i : Nat)) ∧ i ≤ L ∧ gh = L - i ∧ Hid (jZ w wr w.heap.size (w.heap.size + 1) (w.heap.size + 1 + 1) (.slice av m cv) (jQ size runs i) ∧ aK cR 148 2 wr (w.heap.size + 3) (.slice a9 m9 c9) (runs.take i)))
 case atStart => exact ⟨0, none, 0, 0, rfl, by go_num, by omega, rfl, aA ⟨HS2.out, aK.nil _ _⟩⟩
 case round =>
  obtain ⟨i, a9, m9, c9, rfl, rfl, hi, rfl, H3⟩ := hrel
  obtain ⟨td, hd⟩ := H3.out.1.d
  have d0 : wr.cell? ⟨w.heap.size + 1 + 1, 0, none⟩ = some (.bool false) := aD hd 0
  have hzr : w.heap.size + 3 ≤ wr.heap.size := by have := aH hd; omega
  clear hd
  by_cases hil : i < L
  ·have hgt : (0 : Int) < ((L - i : Nat) : Int) := by omega
   obtain ⟨y, hy⟩ := HS.out i hil
   have hym := fC hy
   have hyle := HLe.out y hym
   have hD := PS size runs tl i
   rw [PU hy tl, HLn.out] at hD
   have HDr := aA hD
   have hD2 : (aN size ++ (aN L ++ (runs.flatMap gS ++ tl))).drop (jQ size runs i + (aN y.1).length) = aN y.2 ++ ((runs.drop (i + 1)).flatMap gS ++ tl) := by rw [← rN, hD, kV]
   have HDr2 := aA hD2
   have HPs := aA (PT size hy)
   have hpl1 := gX (n := y.1) (by omega)
   have hps := HSz.out i
   have hps1 := HSz.out (i + 1)
   have hple := Dc size runs tl i
   have hple1 := Dc size runs tl (i + 1)
   rw [HLn.out] at hple hple1
   rw [HPs.out] at hple1 hps1
   have HC1 := aA (H3.out.1.call HV.out hD (by omega) (by omega) (by omega))
   have HC2 : Hid (∀ W, jZ w W w.heap.size (w.heap.size + 1) (w.heap.size + 1 + 1) (.slice av m cv) (jQ size runs i + (aN y.1).length) → Calls Tryz.prog 165 #[.pointer (some ⟨w.heap.size, 0, none⟩), .pointer (some ⟨w.heap.size + 1, 0, none⟩), .pointer (some ⟨w.heap.size + 1 + 1, 0, none⟩)] W fun r w' => r = .returned (.int .i64 y.2) ∧ jZ w w' w.heap.size (w.heap.size + 1) (w.heap.size + 1 + 1) (.slice av m cv) (jQ size runs (i + 1)) ∧ aB [w.heap.size + 1] W w') := aA fun W h => by
    have := h.call HV.out hD2 (by omega) (by omega) (by omega)
    rwa [← HPs.out] at this
   have HTk : Hid (runs.take (i + 1) = runs.take i ++ [(y.1, y.2)]) := aA (by rw [iK, hy]; rfl)
   have hprev : i = 0 ∨ ∃ x, runs[i - 1]? = some x ∧ x.1 + x.2 ≠ y.1 ∧ x.1 + x.2 ≤ 512 ∧ 0 < i := by
    rcases Bb i with h | h
    ·exact .inl h
    refine .inr ?_
    have hi1 : i - 1 < runs.length := by rw [HLn.out]; omega
    refine ⟨runs[i - 1], bL hi1, ?_, HLe.out _ (fX hi1), h⟩
    have hcl : jL (runs.take (i + 1)) := EE (runs.drop (i + 1)) _ (by rw [kW]; exact HC.out)
    rw [iK, hy] at hcl
    have hlast : (runs.take i).getLast? = some runs[i - 1] := by
     rw [List.getLast?_eq_getElem?, bX, Bd (by rw [HLn.out]; omega), qE (by omega), bL hi1]
    exact ((vI _ _).1 hcl).2.2 _ hlast
   have hown9 := H3.out.2
   have hm9 : m9 = i := by
    obtain ⟨a, c, h⟩ := hown9.slice
    simp only [fG] at h
    rw [h.2.1, bX, HLn.out]; omega
   have HM9 := aA hm9
   clear hm9
   clear hD hD2 hple hple1 hps hps1 hpl1
   obtain ⟨ya, yb⟩ := y
   dsimp only at *
   go_wp2_with fail
   refine HC1.out.mono ?_
   rintro r w4 ⟨rfl, hst4, hu4⟩
   have HC2' := aA (HC2.out w4 hst4)
   have HU4 := aA hu4
   clear hst4 hu4 HC1 HC2
   go_wp2_with fail
   refine HC2'.out.mono ?_
   rintro r W5 ⟨rfl, hst5, hu5⟩
   have hu45 : aB [w.heap.size + 1] wr W5 := HU4.out.trans hu5
   have H5 := aA (aC hst5 (hown9.upd hu45 (fun k hk e => by have := (hown9.block k e).1; simp at hk; omega)))
   have hs5 : w.heap.size + 3 ≤ W5.heap.size := bG hzr hu45.size
   clear hst5 hu5 hu45 HC2' HU4 d0
   rcases hprev with hi0 | ⟨x, hx, hxne, hxle, hi0⟩
   ·obtain rfl : m9 = 0 := by have := HM9.out; omega
    clear hi0
    clear hown9
    go_wp2_with fail
    go_quiet (fail)
    go_upto_region 12 with (fail)
    have hu7 : aB [] W5 ((W5.alloc (.cells #[.int .i64 ya, .int .i64 yb] 148)).drewN nq) := ((aB.refl [] W5).alloc _).drewN nq
    have b0 : ((W5.alloc (.cells #[.int .i64 ya, .int .i64 yb] 148)).drewN nq).cell? ⟨W5.heap.size, 0, none⟩ = some (.int .i64 ya) := aD (aX W5 _) 0
    have b1 : ((W5.alloc (.cells #[.int .i64 ya, .int .i64 yb] 148)).drewN nq).cell? ⟨W5.heap.size, 1, none⟩ = some (.int .i64 yb) := aD (aX W5 _) 1
    generalize (W5.alloc (.cells #[.int .i64 ya, .int .i64 yb] 148)).drewN nq = w7 at *
    have HU7 := aA hu7
    have hs7 := hu7.size
    have HO7 := aA fun X : Obj => H5.out.2.upd (hu7.alloc X) (by simp)
    clear hu7
    go_wp2_with (first
     | (at_builtin; refine fS TR rfl _ _ rfl (base := w.heap.size + 3) (l := runs.take i) (r := [(ya, yb)]) rfl (HO7.out _) rfl (iS TR (ty := 148) (aX _ _)) (nY _) ?c1 ?c2 ?c3 ?_)
     | fail)
    case c1 => simp; omega
    case c2 => simp; omega
    case c3 => simp; omega
    intro v8 w8 ho8 hg8 hn8
    rw [← HTk.out] at ho8
    have hrow : aB (Value.slice a9 0 c9).ownBlock.toList w7 w8 := by
     have := tI hg8
     exact ⟨this.os, this.output, bG (by simp) this.size, fun k hk hn => by rw [this.block k (by simp; omega) hn, heap_alloc, aE (by omega)]⟩
    have hrb : ∀ k ∈ (Value.slice a9 0 c9).ownBlock.toList, w.heap.size + 3 ≤ k := fun k hk => by
     have e : (Value.slice a9 0 c9).ownBlock = some k := by simpa using hk
     exact (H5.out.2.block k e).1
    have hN8 : jZ w w8 w.heap.size (w.heap.size + 1) (w.heap.size + 1 + 1) (.slice av m cv) (jQ size runs (i + 1)) :=
     (H5.out.1.keep HU7.out (by simp) (by simp) (by simp) (by simp)).keep hrow (fun k hk => by have := hrb k hk; omega) (fun q => by have := hrb _ q; omega) (fun q => by have := hrb _ q; omega) (fun q => by have := hrb _ q; omega)
    have H8 := aA (aC hN8 ho8)
    obtain ⟨a8, c8, m8, -, rfl⟩ := ho8.sliceM
    clear hN8 ho8 hg8 hn8 hrow hrb
    have e1 : ((L - i : Nat) : Int) - 1 = ((L - (i + 1) : Nat) : Int) := by omega
    have E1 := aA e1
    clear e1
    go_wp2_with fail
    go_roundg (L - (i + 1))
    case rel => exact ⟨i + 1, a8, _, _, rfl, by first | (rw [E1.out]) | go_num, by omega, rfl, H8⟩
    case measure => omega
   have hil2 : i - 1 < (runs.take i).length := by rw [bX, HLn.out]; omega
   have hatc := aK.at TR H5.out.2
   have hcap9 := hatc.2.1
   obtain ⟨g9, rfl, hg9, -, hcc⟩ := hatc.2.2.2 (i - 1) hil2
   have hxe : (runs.take i)[i - 1] = x := by
    have h1 : (runs.take i)[i - 1]? = some x := by rw [qE (by omega)]; exact hx
    rw [bL hil2] at h1
    exact mQ h1
   rw [hxe] at hcc
   obtain ⟨xa, xb⟩ := x
   dsimp only at hxne hxle
   have k0 : ∀ X : Obj, (W5.alloc X).cell? ⟨g9, (i - 1) * 2, none⟩ = some (.int .i64 xa) := fun X => eQ ((aB.refl [] W5).alloc X) (hcc 0 _ rfl)
   have k1 : ∀ X : Obj, (W5.alloc X).cell? ⟨g9, (i - 1) * 2 + 1, none⟩ = some (.int .i64 xb) := fun X => eQ ((aB.refl [] W5).alloc X) (hcc 1 _ rfl)
   have hwx : IntKind.i64.wrap ((xa : Int) + xb) = (xa : Int) + xb := fF _ (by omega)
   have hne1 : ¬ (xa : Int) + (xb : Int) = (ya : Int) := by omega
   have hne2 : ((xa : Int) + (xb : Int) == (ya : Int)) = false := by simpa using hne1
   have hm1 : ((m9 : Nat) : Int) - 1 = ((i - 1 : Nat) : Int) := by have := HM9.out; omega
   have hlt0 : (0 : Int) ≤ ((i - 1 : Nat) : Int) := by omega
   have hlt1 : ((i - 1 : Nat) : Int) < (m9 : Int) := by have := HM9.out; omega
   have hm64 : m9 ≤ 64 := by have := HM9.out; omega
   generalize hq : i - 1 = q at *
   have HQ := aA hq
   clear hq hcc hxe hown9 hatc hil2 hx
   go_wp2_with fail
   go_quiet (fail)
   go_upto_region 12 with (fail)
   have hu7 : aB [] W5 ((W5.alloc (.cells #[.int .i64 ya, .int .i64 yb] 148)).drewN nq) := ((aB.refl [] W5).alloc _).drewN nq
   have b0 : ((W5.alloc (.cells #[.int .i64 ya, .int .i64 yb] 148)).drewN nq).cell? ⟨W5.heap.size, 0, none⟩ = some (.int .i64 ya) := aD (aX W5 _) 0
   have b1 : ((W5.alloc (.cells #[.int .i64 ya, .int .i64 yb] 148)).drewN nq).cell? ⟨W5.heap.size, 1, none⟩ = some (.int .i64 yb) := aD (aX W5 _) 1
   generalize (W5.alloc (.cells #[.int .i64 ya, .int .i64 yb] 148)).drewN nq = w7 at *
   have HU7 := aA hu7
   have hs7 := hu7.size
   have HO7 := aA fun X : Obj => H5.out.2.upd (hu7.alloc X) (by simp)
   clear hu7
   go_wp2_with (first
    | (at_builtin; refine fS TR rfl _ _ rfl (base := w.heap.size + 3) (l := runs.take i) (r := [(ya, yb)]) rfl (HO7.out _) rfl (iS TR (ty := 148) (aX _ _)) (nY _) ?c1 ?c2 ?c3 ?_)
    | fail)
   case c1 => simp; omega
   case c2 => simp; omega
   case c3 => simp; omega
   intro v8 w8 ho8 hg8 hn8
   rw [← HTk.out] at ho8
   have hrow : aB (Value.slice (some ⟨g9, 0, none⟩) m9 c9).ownBlock.toList w7 w8 := by
    have := tI hg8
    exact ⟨this.os, this.output, bG (by simp) this.size, fun k hk hn => by rw [this.block k (by simp; omega) hn, heap_alloc, aE (by omega)]⟩
   have hrb : ∀ k ∈ (Value.slice (some ⟨g9, 0, none⟩) m9 c9).ownBlock.toList, w.heap.size + 3 ≤ k := fun k hk => by
    have e : (Value.slice (some ⟨g9, 0, none⟩) m9 c9).ownBlock = some k := by simpa using hk
    exact (H5.out.2.block k e).1
   have hN8 : jZ w w8 w.heap.size (w.heap.size + 1) (w.heap.size + 1 + 1) (.slice av m cv) (jQ size runs (i + 1)) :=
    (H5.out.1.keep HU7.out (by simp) (by simp) (by simp) (by simp)).keep hrow (fun k hk => by have := hrb k hk; omega) (fun q => by have := hrb _ q; omega) (fun q => by have := hrb _ q; omega) (fun q => by have := hrb _ q; omega)
   have H8 := aA (aC hN8 ho8)
   obtain ⟨a8, c8, m8, -, rfl⟩ := ho8.sliceM
   clear hN8 ho8 hg8 hn8 hrow hrb
   have e1 : ((L - i : Nat) : Int) - 1 = ((L - (i + 1) : Nat) : Int) := by omega
   have E1 := aA e1
   clear e1
   go_wp2_with fail
   go_roundg (L - (i + 1))
   case rel => exact ⟨i + 1, a8, _, _, rfl, by first | (rw [E1.out]) | go_num, by omega, rfl, H8⟩
   case measure => omega
  obtain rfl : i = L := by omega
  have hz0 : ((i - i : Nat) : Int) = 0 := by simp
  obtain ⟨tb, hbb⟩ := H3.out.1.b
  obtain ⟨ta, hba⟩ := H3.out.1.a
  obtain ⟨td2, hbd⟩ := H3.out.1.d
  have HBa := aA hba
  have HBd := aA hbd
  have hfull : runs.take i = runs := dY (by rw [HLn.out]; exact aQ _)
  have HFull := aA hfull
  clear hbb hba hbd hfull
  rw [hz0]
  go_wp2_with fail
  refine (FU wr).mono ?_
  rintro r w5 ⟨rfl, hn5, hu5, hs5⟩
  have hown := H3.out.2.upd hu5 (by simp)
  rw [HFull.out] at hown
  have HX := aA (GY w5 (base := wr.heap.size) (q := wr.heap.size) (size := 0) hn5 (by omega) (by omega) ⟨by simp, by simp [aY], by simp⟩ size (by omega) (aK.rd TR hown) ⟨oT HC.out, HLe.out, by rw [HLn.out]; omega⟩ (by rw [HLen.out, iJ]; simp [gM]) (by simp [aY]))
  have HU5 := aA hu5
  have hba5 := (hu5.block _ (aH HBa.out) (by simp)).trans HBa.out
  have hbd5 := (hu5.block _ (aH HBd.out) (by simp)).trans HBd.out
  have d5 : w5.cell? ⟨w.heap.size + 1 + 1, 0, none⟩ = some (.bool false) := aD hbd5 0
  have HBa5 := aA hba5
  have hsr : w.heap.size + 3 ≤ wr.heap.size := hzr
  have HNd := aA hn5
  clear hn5 hu5 hown hba5 hbd5
  go_wp2_with fail
  refine HX.out.mono ?_
  rintro r w6 ⟨rfl, rv6, hn6, hu6, hb6⟩
  have hlt1 := aH HBa5.out
  have a6 : w6.cell? ⟨w.heap.size + 1, 0, none⟩ = some (.int .i64 (jQ size runs i)) := eH hu6 (by simp; omega) (aD HBa5.out 0)
  have H6 := aA (aC hn6 (aC ((H3.out.1.upd.trans HU5.out).next hu6 (fun k hk hlt => by simp at hk; omega)) hb6))
  clear hn6 hu6 hb6 HX d5 d0
  go_wp2_with fail
  go_quiet (fail)
  go_wp2_with fail
  go_ret3
  have hu9 : aB [] w6 (w6.drewN nq) := (aB.refl [] w6).drewN nq
  have hfc : List.foldl gR [] runs = runs := KT runs [] HC.out
  have hn := H6.out.1
  rw [hfc, iJ] at hn
  exact ⟨wr.heap.size, rv6, rfl, ⟨hn.1, (hn.2.upd hu9 (by simp)).base (by omega)⟩, by omega, H6.out.2.1.drewN nq⟩
end Go.Proofs.YtgpefiacbipfpaaGreatDoor
namespace Go.Proofs.YtgpefiacbipfpaaGreatDoor
def lF (fs : aG) (i : Nat) : Bs := (fs.drop i).flatMap oU ++ List.replicate (8192 - (qL fs).length) 0
theorem Dd (fs : aG) : dT fs = kZ ++ (aN fs.length ++ lF fs 0) := by
 simp [dT, qL, lF]
theorem PW {fs : aG} {i : Nat} {p : Bs × bO} (h : fs[i]? = some p) : lF fs i = aN p.1.length ++ (p.1 ++ (jY p.2 ++ lF fs (i + 1))) := by
 obtain ⟨hi, rfl⟩ := eX.1 h
 unfold lF
 rw [pP hi, jT]
 simp only [oU, eJ]
theorem Iv (f : bO) (tl : Bs) : jY f ++ tl = aN f.data.length ++ (aN f.runs.length ++ (f.runs.flatMap gS ++ tl)) := by simp [jY]
theorem PX (f : bO) : (jY f).length = jQ f.data.length f.runs f.runs.length := by
 unfold jY jQ
 rw [rL, bD, bD]
theorem Iw {room : Nat} {fs : aG} (h : dC room fs) (hr : room ≤ 512) (i : Nat) : (lF fs i).length ≤ 8192 := by
 have h1 := h.dir_len hr
 rw [Dd] at h1
 have h2 : (lF fs i).length ≤ (lF fs 0).length := by
  unfold lF
  rw [bD, bD]
  have : ((fs.drop i).flatMap oU).length ≤ ((fs.drop 0).flatMap oU).length := by
   rw [tW]
   conv => rhs; rw [← kW i fs]
   rw [vA, bD]
   omega
  omega
 rw [bD, bD] at h1
 omega
theorem PY (l : aG) (p : Bs × bO) (k : Bs) : bF (l ++ [p]) k = match bF l k with | some x => some x | none => if p.1 = k then some p.2 else none := by
 induction l with
 | nil => simp [gD, zG]
 | cons q l ih =>
  rw [List.cons_append, gD, gD, ih]
  by_cases e : q.1 = k
  ·simp [e]
  simp [e]
theorem PZ {l : aG} {p : Bs × bO} (h : cP bQ (l ++ [p])) : bF l p.1 = none ∧ cQ bQ l p.1 p.2 = l ++ [p] := by
 have hl : cP bQ l := (List.pairwise_append.1 h).1
 have hn : bF l p.1 = none := uA.2 fun q hq e => by
  have := (List.pairwise_append.1 h).2.2 q hq p (by simp)
  rw [e] at this
  have h0 := dD.irrefl p.1
  rw [h0] at this
  cases this
 refine ⟨hn, wW dD (sT dD hl _ _) h fun k => ?_⟩
 rw [pS dD hl, PY]
 by_cases e : p.1 = k
 ·subst e; rw [aF rfl, hn, aF rfl]
 rw [aE e, aE e]
 cases bF l k <;> rfl
theorem De {fs : aG} {i : Nat} {p : Bs × bO} (h : fs[i]? = some p) : fs.take (i + 1) = fs.take i ++ [p] := by
 rw [iK, h]; rfl
theorem Df {fs : aG} (h : cP bQ fs) (i : Nat) : cP bQ (fs.take i) := List.Pairwise.sublist (List.take_sublist ..) h
theorem Qa {room : Nat} {fs : aG} {i : Nat} {p : Bs × bO} (h : fs[i]? = some p) : fT (cY room (fs.take i)) p.2.runs = cY room (fs.take (i + 1)) := by
 refine CX (by rw [rC, gO]) fun b hb => ?_
 have h1 := As (cY room (fs.take i)) p.2.runs b
 rw [dI, dI, sG _ hb] at h1
 have hl : (fT (cY room (fs.take i)) p.2.runs)[b]? = some ((fT (cY room (fs.take i)) p.2.runs)[b]'(by rw [rC, gO]; exact hb)) := bL _
 rw [hl] at h1 ⊢
 simp only [tT] at h1
 rw [h1]
 congr 1
 rw [Bool.eq_iff_iff]
 simp only [Bool.or_eq_true, decide_eq_true_eq]
 rw [De h]
 unfold bH
 rw [vA, bK]
 simp [bO.blks]
theorem Qb (room : Nat) : cY room [] = List.replicate room false := by
 refine JX.2 ⟨gO _ _, fun b hb => ?_⟩
 obtain ⟨x, -, rfl⟩ := cV.1 hb
 simp [bH]
theorem Qc {room : Nat} {fs : aG} (h : dC room fs) {i k ii : Nat} {p : Bs × bO} {r : aR} (hp : fs[i]? = some p) (hr : p.2.runs[k]? = some r) (hi : ii < r.2) :
  r.1 + ii < room ∧ (fT (cY room (fs.take i)) (p.2.runs.take k ++ [(r.1, ii)]))[r.1 + ii]? = some false := by
 have hpm := fC hp
 have hrm := fC hr
 have hle := (h.ok p hpm).le r hrm
 have hlt : r.1 + ii < room := by omega
 refine ⟨hlt, ?_⟩
 have h1 := As (cY room (fs.take i)) (p.2.runs.take k ++ [(r.1, ii)]) (r.1 + ii)
 rw [dI, dI, sG _ hlt] at h1
 have hl : (fT (cY room (fs.take i)) (p.2.runs.take k ++ [(r.1, ii)]))[r.1 + ii]? = some ((fT (cY room (fs.take i)) (p.2.runs.take k ++ [(r.1, ii)]))[r.1 + ii]'(by rw [rC, gO]; exact hlt)) := bL _
 rw [hl] at h1 ⊢
 simp only [tT] at h1
 rw [h1]
 have hnd := h.nodup
 have e0 : fs = fs.take i ++ p :: fs.drop (i + 1) := by
  obtain ⟨hi, rfl⟩ := eX.1 hp
  rw [← pP hi, kW]
 have hb : r.1 + ii ∈ p.2.blks := zF.2 ⟨r, hrm, by omega, by omega⟩
 have hA : r.1 + ii ∉ bH (fs.take i) := fun q => by
  rw [e0] at hnd
  unfold bH at hnd q
  rw [vA, jT, kO] at hnd
  exact hnd.2.2 _ q _ (iL _ hb) rfl
 have hB : r.1 + ii ∉ bY (p.2.runs.take k ++ [(r.1, ii)]) := fun q => by
  have hnp := Az hnd hpm
  have e1 : p.2.runs = p.2.runs.take k ++ r :: p.2.runs.drop (k + 1) := by
   obtain ⟨hi, e⟩ := eX.1 hr
   rw [← e, ← pP hi, kW]
  unfold bO.blks at hnp
  rw [e1, mU, rW, kO] at hnp
  rw [mU, bK, mV] at q
  rcases q with q | q
  ·exact hnp.2.2 _ q _ (iL _ (List.mem_range'.2 ⟨ii, by omega, by omega⟩)) rfl
  obtain ⟨j, hj, e⟩ := List.mem_range'.1 q
  simp at e
  omega
 simp [hA, hB]
theorem Iy (room : Nat) : aY (dZ (dG (List.replicate room false) (List.replicate room false)) room 0) = room := by
 rw [← mH, vJ]
 unfold lO
 rw [wN.2, yM, yW]
 intro b hb
 obtain ⟨j, hj, rfl⟩ := List.mem_range'.1 hb
 have hj' : 0 + 1 * j < room := by omega
 unfold dG
 rw [dI, Ki, aF hj']
 rfl
theorem Qd (room : Nat) : fT (List.replicate room false) (cL (dZ (dG (List.replicate room false) (List.replicate room false)) room 0) room) = List.replicate room true := by
 have hex : bY (cL (dZ (dG (List.replicate room false) (List.replicate room false)) room 0) room) = bY (dZ (dG (List.replicate room false) (List.replicate room false)) room 0) := by
  rw [vK, dY (by rw [mH, Iy]; exact aQ _)]
 apply wK
 intro b
 by_cases hb : b < room
 ·have h1 := As (List.replicate room false) (cL (dZ (dG (List.replicate room false) (List.replicate room false)) room 0) room) b
  have hlen : b < (fT (List.replicate room false) (cL (dZ (dG (List.replicate room false) (List.replicate room false)) room 0) room)).length := by rw [rC, pN]; exact hb
  rw [dI, bL hlen, tT] at h1
  rw [bL hlen, h1, hex, vJ, Ki, aF hb]
  have hm : b ∈ lO (dG (List.replicate room false) (List.replicate room false)) room 0 := EG.2 ⟨hb, by
   unfold dG
   rw [dI, Ki, aF hb]; rfl⟩
  simp [hm]
 rw [gG (by rw [rC, pN]; omega), gG (by rw [pN]; omega)]
def nQ (room : Nat) (fs : aG) (i : Nat) : List Bool := (List.range room).map fun b => if b < i then decide (b ∈ bH fs) else true
theorem AC (room : Nat) (fs : aG) (i : Nat) : (nQ room fs i).length = room := by simp [nQ]
theorem Qe (room : Nat) (fs : aG) : nQ room fs 0 = List.replicate room true := by
 refine JX.2 ⟨AC _ _ _, fun b hb => ?_⟩
 obtain ⟨x, -, rfl⟩ := cV.1 hb
 simp
theorem Qf (room : Nat) (fs : aG) : nQ room fs room = cY room fs := by
 unfold nQ cY
 refine uZ fun b hb => ?_
 rw [aF (yL.1 hb)]
theorem Qg {room : Nat} {fs : aG} {i : Nat} (h : i ∈ bH fs) : nQ room fs (i + 1) = nQ room fs i := by
 unfold nQ
 refine uZ fun b _ => ?_
 by_cases e : b = i
 ·subst e; simp [h]
 by_cases q : b < i
 ·rw [aF (by omega), aF q]
 rw [aE (by omega), aE q]
theorem Qh {room : Nat} {fs : aG} {i : Nat} (h : i ∉ bH fs) : kK (nQ room fs i) [(i, 1)] = nQ room fs (i + 1) := by
 have e : bY [(i, 1)] = [i] := by rw [mV]; rfl
 unfold kK
 rw [e, uY, List.foldl_nil]
 apply wK
 intro b
 unfold nQ
 rw [DM]
 by_cases hb : b < room
 ·by_cases q : i = b
  ·subst q
   simp [hb, h]
  rw [aE q]
  simp only [lL, List.getElem?_range hb, yP]
  congr 1
  by_cases q2 : b < i
  ·rw [aF q2, aF (by omega)]
  rw [aE q2, aE (by omega)]
 by_cases q : i = b
 ·subst q; simp [hb]
 simp [hb, q]
theorem Qi {room : Nat} {fs : aG} {i : Nat} (h : i < room) : (nQ room fs i)[i]? = some true := by
 unfold nQ
 simp [h]
open Go.RowKit Go.Maps
theorem Iz {w : World} {base g c n : Nat} {l : List Bool} (h : eV w base (.slice (some ⟨g, 0, none⟩) n c) l) {i : Nat} {b : Bool} (hi : l[i]? = some b) : w.cell? ⟨g, i, none⟩ = some (.bool b) ∧ w.frozen? ⟨g, i, none⟩ = false := by
 obtain ⟨hl, rfl⟩ := eX.1 hi
 obtain ⟨h1, h2⟩ := h
 rcases h2 with ⟨h2, -⟩ | ⟨g', cap, cur, hv, hg, hh, r1, r2, r3, r4⟩
 ·cases h2
 cases hv
 have hf : ∀ l : List Bool, aP cB l = l.map Value.bool := fun l => by
  induction l with
  | nil => rfl
  | cons x l ih => simp only [aP, jT, dR] at ih ⊢; rw [ih]; rfl
 refine ⟨?_, aZ hh i⟩
 rw [aD hh]
 rw [hf] at r4
 have h3 : (cur.toList.take l.length)[i]? = (l.map Value.bool)[i]? := by rw [← r4, jI]
 rw [qE hl, AZ, lL, bL hl] at h3
 exact h3
theorem dL.putG {w w' : World} {mf : Nat} {fs : aG} {A : Bs → Nat} {R : Bs → Value} {FM G : List Nat} (h : dL w mf fs A R FM) (hs : cP bQ fs) {nm : Bs} {f : bO} {a : Nat} {rv : Value} (hm : fO w' mf (cQ bQ (dW fs A) nm (sE a))) (u : aB (mf :: G) w w') (hG : ∀ i ∈ FM, i ∉ G)
  (hn : iG w' 0 a f.data.length rv f.runs) (ha : w.heap.size ≤ a) (hr : ∀ g, rv.ownBlock = some g → w.heap.size ≤ g) : dL w' mf (cQ bQ fs nm f) (fP A nm a) (fP R nm rv) (a :: (rv.ownBlock.toList ++ FM)) := by
 have hmem : ∀ p ∈ cQ bQ fs nm f, (p = (nm, f)) ∨ (p ∈ fs ∧ p.1 ≠ nm) := fun p hp => uD hs hp
 have e1 : fP A nm a nm = a := by simp [fP]
 have e2 : fP R nm rv nm = rv := by simp [fP]
 have o1 : ∀ {k}, k ≠ nm → fP A nm a k = A k := fun hk => by simp [fP, hk]
 have o2 : ∀ {k}, k ≠ nm → fP R nm rv k = R k := fun hk => by simp [fP, hk]
 refine ⟨by rw [Ij hs]; exact hm, fun p hp => ?_, by simp [h.mem], fun p hp => ?_, fun p hp g hg => ?_, fun p hp q hq hne => ?_, fun p hp q hq hne g hg => ?_, fun i hi => ?_⟩
 ·rcases hmem p hp with rfl | ⟨hp, hk⟩
  ·rw [e1, e2]; exact hn
  rw [o1 hk, o2 hk]
  have hnd := h.node p hp
  obtain ⟨es, clock, hb, -⟩ := h.map
  refine hnd.upd u (fun q => ?_) (fun g hg q => ?_)
  ·rcases aJ.1 q with q | q
   ·rw [q] at hnd
    have := hnd.1
    rw [hb] at this
    cases this
   exact hG _ (h.memA p hp) q
  rcases aJ.1 q with q | q
  ·rw [q] at hg
   exact qW hnd.2 hb hg
  exact hG _ (h.memR p hp g hg) q
 ·rcases hmem p hp with rfl | ⟨hp, hk⟩
  ·rw [e1]; simp
  rw [o1 hk]; simp [h.memA p hp]
 ·rcases hmem p hp with rfl | ⟨hp, hk⟩
  ·rw [e2] at hg; simp [hg]
  rw [o2 hk] at hg; simp [h.memR p hp g hg]
 ·rcases hmem p hp with rfl | ⟨hp, hk⟩
  ·rcases hmem q hq with rfl | ⟨hq, hk2⟩
   ·exact absurd rfl hne
   rw [e1, o1 hk2]; intro e; have := h.lt _ (h.memA q hq); omega
  rcases hmem q hq with rfl | ⟨hq, hk2⟩
  ·rw [e1, o1 hk]; intro e; have := h.lt _ (h.memA p hp); omega
  rw [o1 hk, o1 hk2]; exact h.apA p hp q hq hne
 ·rcases hmem p hp with rfl | ⟨hp, hk⟩
  ·rcases hmem q hq with rfl | ⟨hq, hk2⟩
   ·exact absurd rfl hne
   rw [e2] at hg; rw [o2 hk2]; intro e; have := h.lt _ (h.memR q hq g e); have := hr g hg; omega
  rw [o2 hk] at hg
  rcases hmem q hq with rfl | ⟨hq, hk2⟩
  ·rw [e2]; intro e; have := h.lt _ (h.memR p hp g hg); have := hr g e; omega
  rw [o2 hk2]; exact h.apR p hp q hq hne g hg
 simp only [aJ, bK, mR] at hi
 rcases hi with rfl | hi | hi
 ·exact aH hn.1
 ·exact (hn.2.block i hi).2
 exact dN (h.lt i hi) u.size
theorem Qj {w : World} {B a n : Nat} {ty : TypeId} {fz : Nat × Nat} (h : w.heap[B]? = some (.cells #[.int .i64 a, .int .i64 n] ty fz)) : eA cR 2 w (.slice (some ⟨B, 0, none⟩) 1 1) [(a, n)] := by
 refine ⟨⟨some ⟨B, 0, none⟩, 1, rfl, aQ _, by unfold maxLen; omega, fun i hi => ?_⟩, fun n c e => by cases e⟩
 obtain rfl : i = 0 := by simp at hi; exact hi
 refine ⟨B, 0, rfl, fun j u hu => ?_⟩
 have h0 := aD h 0
 have h1 := aD h 1
 simp only [bA, bB, bS] at h0 h1
 match j with
 | 0 => simp [cR] at hu; subst hu; simpa using h0
 | 1 => simp [cR] at hu; subst hu; simpa using h1
 | j + 2 => simp [cR] at hu
structure IA (w : World) (mf ub room : Nat) (fs : aG) (i : Nat) (A : Bs → Nat) (R : Bs → Value) (FM : List Nat) (wr : World) : Prop where
 fil : dL wr mf (fs.take i) A R FM
 sub : ∀ a ∈ FM, a = mf ∨ ub < a
 use : eV wr ub (.slice (some ⟨ub, 0, none⟩) room room) (cY room (fs.take i))
 upd : aB [mf] w wr
 lt : ub < wr.heap.size
 ge : w.heap.size ≤ ub
end Go.Proofs.YtgpefiacbipfpaaGreatDoor
