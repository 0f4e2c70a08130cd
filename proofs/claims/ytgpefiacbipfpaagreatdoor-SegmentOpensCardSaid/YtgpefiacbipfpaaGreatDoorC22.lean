/- Blocks are given back: Give. -/
import Derived.Shelf.SlIter.Nil
import Derived.Shelf.SlIterI.Nil
import Derived.Shelf.SortM.Plain
import Derived.Shelf.SortM.SortNone
import Derived.Deep.DeepCutAuto
import Derived.Test.YtgpefiacbipfpaaGreatDoorC21
set_option maxRecDepth 100000
set_option maxHeartbeats 4000000
namespace Go.Proofs.YtgpefiacbipfpaaGreatDoor
open Go.RowKit Go.Maps
def kK (l : List Bool) (rs : List aR) : List Bool := (bY rs).foldl (fun l i => l.set i false) l
theorem Hp (l : List Bool) (rs : List aR) : (kK l rs).length = l.length := by
 unfold kK
 generalize bY rs = L
 induction L generalizing l with
 | nil => rfl
 | cons i L ih => rw [uY, ih]; simp
theorem Hq (l : List Bool) (rs : List aR) (i : Nat) : (kK l rs)[i]? = if i ∈ bY rs then l[i]?.map (fun _ => false) else l[i]? := by
 unfold kK
 generalize bY rs = L
 induction L generalizing l with
 | nil => simp
 | cons j L ih =>
  rw [uY, ih]
  by_cases h : i = j
  ·subst h
   by_cases hl : i < l.length
   ·simp [hl]
   simp [hl]
  have h' : j ≠ i := fun e => h e.symm
  simp [h, h']
theorem OB (l : List Bool) (rs : List aR) (a : Nat) : kK l (rs ++ [(a, 0)]) = kK l rs := by
 unfold kK; rw [mU, mV]; simp
theorem OC (l : List Bool) (rs : List aR) (a i : Nat) : kK l (rs ++ [(a, i + 1)]) = (kK l (rs ++ [(a, i)])).set (a + i) false := by
 unfold kK
 rw [mU, mU, mV, mV]
 simp only
 rw [List.range'_concat, ← eJ, AT]
 simp
theorem OD {rs : List aR} {t a b i : Nat} (ht : rs[t]? = some (a, b)) (hi : i < b) (hnd : (bY rs).Nodup) : a + i ∉ bY (rs.take t ++ [(a, i)]) ∧ a + i ∈ bY rs := by
 have hsp : rs = rs.take t ++ (a, b) :: rs.drop (t + 1) := by
  obtain ⟨hl, he⟩ := eX.1 ht
  rw [← he, List.getElem_cons_drop, kW]
 have hm : a + i ∈ List.range' a b := by rw [AW]; omega
 constructor
 ·rw [mU, mV, bK]
  rintro (h | h)
  ·rw [hsp, mU, rW] at hnd
   exact (kO.1 hnd).2.2 _ h _ (iL _ hm) rfl
  simp only [AW] at h; omega
 rw [hsp, mU, rW]
 exact fM _ (iL _ hm)
theorem Hr (w : World) {q base : Nat} {nv lv v : Value} {now last : List Bool} {rs : List aR} (h : fJ w base q nv lv now last) (hm0 : 0 < now.length) (hm : now.length ≤ 512) (hv : eA cR 2 w v rs) (hlr : rs.length ≤ 1000) (hin : ∀ r ∈ rs, 1 ≤ r.2 ∧ r.1 + r.2 ≤ now.length) (hnd : (bY rs).Nodup) (huse : ∀ b ∈ bY rs, now[b]? = some true) :
  Calls Tryz.prog 136 #[.pointer (some ⟨q, 0, none⟩), v] w fun e w' => e = .returned (.int .i64 0) ∧ ∃ nv', fJ w' base q nv' lv (kK now rs) last ∧ aB [q] w w' ∧ ∀ g, nv'.ownBlock = some g → w.heap.size ≤ g := by
 have HM := aA h
 have hq := aH h.box
 have HV := aA hv
 have c0 := aD h.box 0
 simp only [bA, bB] at c0
 have HC := aA (zL w (aK.rd TB h.now) (by omega))
 obtain ⟨av, cv, rfl, hvl1, hvl2, -⟩ := hv.slice
 obtain ⟨L, hL⟩ : ∃ L, L = rs.length := ⟨_, rfl⟩
 have HL := aA hL
 have hLb : (L : Int) ≤ 1000 := by omega
 rw [← hL] at HV ⊢
 clear h hv hL hvl1 hvl2 hlr
 go_in
 go_wp2_with fail
 refine HC.out.mono ?_
 rintro e w1 ⟨v1, rfl, ho, hu⟩
 obtain ⟨g, c1, rfl, hgb, -, -, -⟩ := eV.row ho hm0
 have H1 := aA (aC ho hu)
 clear ho hu HC
 obtain ⟨m, hmm⟩ : ∃ m, m = now.length := ⟨_, rfl⟩
 rw [← hmm] at H1 ⊢
 have HMM := aA hmm
 have hm5 : (m : Int) ≤ 512 := by omega
 clear hmm hm hm0
 go_wp2_with fail
 go_loopg [18] L (fun gh v18 wr => ∃ t : Nat, v18 = .int .i64 t ∧ t ≤ L ∧ gh = L - t ∧ Hid (eV wr w.heap.size (.slice (some ⟨g, 0, none⟩) m c1) (kK now (rs.take t)) ∧ aB [] w wr))
 case atStart => exact ⟨0, rfl, dH _, rfl, aA ⟨by rw [wQ]; exact H1.out.1, H1.out.2⟩⟩
 case round =>
  obtain ⟨t, rfl, ht, rfl, HR⟩ := hrel
  generalize wr = wo at *
  by_cases htL : t < L
  ·have htL' : (t : Int) < (L : Int) := by omega
   obtain ⟨⟨a, b⟩, hab⟩ : ∃ r, rs[t]? = some r := ⟨_, bL (by rw [← HL.out]; exact htL)⟩
   obtain ⟨hb1, hab2⟩ : 1 ≤ b ∧ a + b ≤ now.length := hin (a, b) (fC hab)
   obtain ⟨bv, ov, rfl, d0, d1⟩ := eA.runs (HV.out.keep TR HR.out.2) hab
   have HAB := aA hab
   have hab3 : a + b ≤ m := by rw [HMM.out]; exact hab2
   have f1 : ¬ (b : Int) < 1 := by omega
   have f2 : ¬ (a : Int) < 0 := by omega
   have f3 : ¬ (m : Int) ≤ (a : Int) := by omega
   have f4 : ¬ (m : Int) - (a : Int) < (b : Int) := by omega
   have fw : IntKind.i64.wrap ((m : Int) - (a : Int)) = (m : Int) - (a : Int) := fF _ (by omega)
   clear hab hab2
   have hR0 : ∀ o, aB [] w (wo.alloc o) := fun o => HR.out.2.alloc o
   go_wp2_with fail
   have HX := aA (aX wo (.cells #[.int .i64 a, .int .i64 b] 148 (0, 0)))
   have HO := aA (aC (HR.out.1.upd ((aB.refl [] wo).alloc (.cells #[.int .i64 a, .int .i64 b] 148 (0, 0))) (by simp)) (hR0 (.cells #[.int .i64 a, .int .i64 b] 148 (0, 0))))
   clear hR0 d0 d1
   generalize wo.alloc (.cells #[.int .i64 a, .int .i64 b] 148 (0, 0)) = W2 at *
   go_loopg [49] b (fun gh2 v49 wi => ∃ i : Nat, v49 = .int .i64 i ∧ i ≤ b ∧ gh2 = b - i ∧ Hid (eV wi w.heap.size (.slice (some ⟨g, 0, none⟩) m c1) (kK now (rs.take t ++ [(a, i)])) ∧ aB [] w wi ∧ wi.heap[wo.heap.size]? = some (.cells #[.int .i64 a, .int .i64 b] 148 (0, 0))))
   case atStart => exact ⟨0, rfl, dH _, rfl, aA ⟨by rw [OB]; exact HO.out.1, HO.out.2, HX.out⟩⟩
   case round =>
    clear HX HO
    obtain ⟨i, rfl, hi, rfl, HI⟩ := hrel
    by_cases hib : i < b
    ·have hib' : (i : Int) < (b : Int) := by omega
     have e0 := aD HI.out.2.2 0
     simp only [bA, bB] at e0
     obtain ⟨j, hj⟩ : ∃ j, j = a + i := ⟨_, rfl⟩
     have hwr : IntKind.i64.wrap ((a : Int) + (i : Int)) = (j : Int) := by rw [fF _ (by omega)]; omega
     have hj5 : (j : Int) < (m : Int) := by omega
     have hj6 : j < m := by omega
     obtain ⟨hn1, hn2⟩ := OD HAB.out hib hnd
     rw [← hj] at hn1 hn2
     have hget : (kK now (rs.take t ++ [(a, i)]))[j]? = some true := by rw [Hq, aE hn1]; exact huse j hn2
     obtain ⟨b', o', hbo, eg⟩ := eA.bool (aK.rd TB HI.out.1) hget
     simp only [fY, yX] at hbo
     obtain ⟨rfl, rfl, -⟩ := hbo
     rw [iJ] at eg
     obtain ⟨cur, hcur⟩ := CR HI.out.1 g rfl
     have fg := aZ hcur j
     have HJ := aA hj
     have HCU := aA hcur
     clear hn1 hn2 hget hj hcur
     go_wp2_with fail
     go_roundg (b - (i + 1))
     case measure => omega
     case rel =>
      refine ⟨i + 1, by simp, by omega, rfl, aA ⟨?_, HI.out.2.1.setCellNew hgb _ _, ?_⟩⟩
      ·rw [OC, ← HJ.out]
       exact CQ HI.out.1 j (by rw [Hp, ← HMM.out]; exact hj6) false
      rw [bJ, aE (fun e => by
       have := HCU.out
       rw [← e, HI.out.2.2] at this
       simp at this)]
      exact HI.out.2.2
    obtain rfl : i = b := by omega
    have hib' : ¬ (i : Int) < (i : Int) := by omega
    go_wp2_with fail
    go_roundg (L - (t + 1))
    case measure => omega
    case rel =>
     refine ⟨t + 1, by simp, by omega, rfl, aA ⟨?_, HI.out.2.1⟩⟩
     rw [iK, HAB.out]
     exact HI.out.1
  obtain rfl : t = L := by omega
  have htL' : ¬ (t : Int) < (t : Int) := by omega
  have hb0 : wo.heap[q]? = some (vR nv lv) := (HR.out.2.block q hq (by simp)).trans HM.out.box
  have HB0 := aA hb0
  have k0 := aD hb0 0
  have g0 := aZ hb0 0
  simp only [bA, bB] at k0
  clear hb0
  go_wp2_with fail
  go_ret
  have hU : aB [q] wo (wo.setCell ⟨q, 0, none⟩ (.slice (some ⟨g, 0, none⟩) m c1)) := (aB.refl _ _).setCell (by simp) _ _
  have htk : rs.take t = rs := by rw [HL.out, rL]
  have hlast := HM.out.last
  refine ⟨rfl, .slice (some ⟨g, 0, none⟩) m c1, ⟨MC HB0.out _, ?_, (hlast.upd HR.out.2 (by simp)).upd hU (fun j hj e => ?_), ?_, HM.out.ne2, bG HM.out.fit (bG HR.out.2.size hU.size), ?_⟩, (HR.out.2.mono (by simp)).trans hU, ?_⟩
  ·have h1 := HR.out.1
   rw [htk] at h1
   exact (h1.upd hU (fun j hj e => by simp [Value.ownBlock] at hj e; omega)).base HM.out.fit
  ·exact HM.out.ne2 j e (aM.1 hj)
  ·intro g' e; simp [Value.ownBlock] at e; omega
  ·intro g' e e2
   have := (hlast.block _ e2).2
   simp [Value.ownBlock] at e; omega
  intro g' e; simp [Value.ownBlock] at e; omega
open Go.Sort Go.Shelf
def Hs : Go.Shelf.Ren := ⟨fun | 7 => 122 | 10 => 158 | n => n, fun | 23 => 117 | 26 => 3 | 3 => 116 | 28 => 183 | 0 => 0 | 27 => 182 | 33 => 204 | 4 => 4 | n => n, fun | n => n⟩
theorem Ht : Go.Proofs.SlLaysZI.n7 Tryz.prog Hs := {
 mixed := by kernel_rfl
 f7 := ⟨Tryz.f122.name, by decide, Tryz.func122.trans (bM some (by kernel_rfl))⟩
 f10 := ⟨Tryz.f158.name, by decide, Tryz.func158.trans (bM some (by kernel_rfl))⟩
 t0 := Tryz.underlying0
 a0 := Tryz.isAgg0
 z0 := Tryz.sizeOf0
 v0 := Tryz.zeroValue0
 t4 := Tryz.underlying4
 a4 := Tryz.isAgg4
 z4 := Tryz.sizeOf4
 v4 := Tryz.zeroValue4
 t23 := Tryz.underlying117
 a23 := Tryz.isAgg117
 z23 := Tryz.sizeOf117
 v23 := Tryz.zeroValue117
 t26 := Tryz.underlying3
 a26 := Tryz.isAgg3
 z26 := Tryz.sizeOf3
 v26 := Tryz.zeroValue3
 t27 := Tryz.underlying182
 a27 := Tryz.isAgg182
 z27 := Tryz.sizeOf182
 v27 := Tryz.zeroValue182
 t28 := Tryz.underlying183
 a28 := Tryz.isAgg183
 z28 := Tryz.sizeOf183
 v28 := Tryz.zeroValue183
 t33 := Tryz.underlying204
 a33 := Tryz.isAgg204
 z33 := Tryz.sizeOf204
 v33 := Tryz.zeroValue204 }
def Hu : Go.Shelf.Ren := ⟨fun | 6 => 121 | 8 => 156 | 9 => 157 | 11 => 170 | 13 => 168 | 12 => 171 | 23 => 183 | 24 => 184 | 14 => 189 | 15 => 190 | 16 => 191 | 17 => 192 | 18 => 193 | 19 => 194 | 20 => 195 | 21 => 196 | 22 => 197 | 25 => 208 | 26 => 199 | 27 => 200 | 28 => 209 | 29 => 210 | 30 => 211 | 31 => 215 | n => n, fun | 26 => 3 | 28 => 183 | 24 => 31 | 0 => 0 | 3 => 3 | 37 => 210 | 48 => 73 | 50 => 71 | 4 => 4 | 40 => 235 | 39 => 234 | 45 => 240 | 5 => 5 | 9 => 9 | 51 => 254 | 55 => 258 | 57 => 265 | 58 => 266 | 33 => 204 | n => n, fun | n => n⟩
theorem OE : Go.Proofs.SlLaysZI.n6 Tryz.prog Hu := {
 mixed := by kernel_rfl
 f6 := ⟨Tryz.f121.name, by decide, Tryz.func121.trans (bM some (by kernel_rfl))⟩
 f8 := ⟨Tryz.f156.name, by decide, Tryz.func156.trans (bM some (by kernel_rfl))⟩
 f11 := ⟨Tryz.f170.name, by decide, Tryz.func170.trans (bM some (by kernel_rfl))⟩
 t0 := Tryz.underlying0
 a0 := Tryz.isAgg0
 z0 := Tryz.sizeOf0
 v0 := Tryz.zeroValue0
 t24 := Tryz.underlying31
 a24 := Tryz.isAgg31
 z24 := Tryz.sizeOf31
 v24 := Tryz.zeroValue31
 t26 := Tryz.underlying3
 a26 := Tryz.isAgg3
 z26 := Tryz.sizeOf3
 v26 := Tryz.zeroValue3
 t28 := Tryz.underlying183
 a28 := Tryz.isAgg183
 z28 := Tryz.sizeOf183
 v28 := Tryz.zeroValue183
 i26 := by kernel_rfl }
def OF : Go.Shelf.Ren := ⟨fun | 5 => 157 | 8 => 168 | 7 => 171 | 19 => 183 | 20 => 184 | 10 => 189 | 11 => 190 | 12 => 191 | 13 => 192 | 14 => 193 | 15 => 194 | 16 => 195 | 17 => 196 | 18 => 197 | 30 => 208 | 31 => 199 | 32 => 200 | 33 => 209 | 34 => 210 | 35 => 211 | 40 => 215 | n => n, fun | 23 => 31 | 25 => 3 | 3 => 3 | 32 => 210 | 22 => 31 | 0 => 0 | 44 => 73 | 46 => 71 | 4 => 4 | 36 => 235 | 35 => 234 | 41 => 240 | 5 => 5 | 9 => 9 | 53 => 254 | 57 => 258 | 63 => 265 | 64 => 266 | n => n, fun | n => n⟩
theorem Hv : Go.Proofs.SlLaysM.n5 Tryz.prog OF := {
 mixed := by kernel_rfl
 f5 := ⟨Tryz.f157.name, by decide, Tryz.func157.trans (bM some (by kernel_rfl))⟩
 f7 := ⟨Tryz.f171.name, by decide, Tryz.func171.trans (bM some (by kernel_rfl))⟩
 f8 := Tryz.func168.trans (bM some (by kernel_rfl))
 f10 := ⟨Tryz.f189.name, by decide, Tryz.func189.trans (bM some (by kernel_rfl))⟩
 f11 := ⟨Tryz.f190.name, by decide, Tryz.func190.trans (bM some (by kernel_rfl))⟩
 f12 := ⟨Tryz.f191.name, by decide, Tryz.func191.trans (bM some (by kernel_rfl))⟩
 f13 := ⟨Tryz.f192.name, by decide, Tryz.func192.trans (bM some (by kernel_rfl))⟩
 f14 := ⟨Tryz.f193.name, by decide, Tryz.func193.trans (bM some (by kernel_rfl))⟩
 f15 := ⟨Tryz.f194.name, by decide, Tryz.func194.trans (bM some (by kernel_rfl))⟩
 f16 := ⟨Tryz.f195.name, by decide, Tryz.func195.trans (bM some (by kernel_rfl))⟩
 f17 := ⟨Tryz.f196.name, by decide, Tryz.func196.trans (bM some (by kernel_rfl))⟩
 f18 := ⟨Tryz.f197.name, by decide, Tryz.func197.trans (bM some (by kernel_rfl))⟩
 f19 := Tryz.func183.trans (bM some (by kernel_rfl))
 f20 := Tryz.func184.trans (bM some (by kernel_rfl))
 f30 := ⟨Tryz.f208.name, by decide, Tryz.func208.trans (bM some (by kernel_rfl))⟩
 f31 := Tryz.func199.trans (bM some (by kernel_rfl))
 f32 := Tryz.func200.trans (bM some (by kernel_rfl))
 f33 := ⟨Tryz.f209.name, by decide, Tryz.func209.trans (bM some (by kernel_rfl))⟩
 f34 := ⟨Tryz.f210.name, by decide, Tryz.func210.trans (bM some (by kernel_rfl))⟩
 f35 := ⟨Tryz.f211.name, by decide, Tryz.func211.trans (bM some (by kernel_rfl))⟩
 f40 := ⟨Tryz.f215.name, by decide, Tryz.func215.trans (bM some (by kernel_rfl))⟩
 t0 := Tryz.underlying0
 a0 := Tryz.isAgg0
 z0 := Tryz.sizeOf0
 v0 := Tryz.zeroValue0
 t3 := Tryz.underlying3
 a3 := Tryz.isAgg3
 z3 := Tryz.sizeOf3
 v3 := Tryz.zeroValue3
 t4 := Tryz.underlying4
 a4 := Tryz.isAgg4
 z4 := Tryz.sizeOf4
 v4 := Tryz.zeroValue4
 t5 := Tryz.underlying5
 a5 := Tryz.isAgg5
 z5 := Tryz.sizeOf5
 v5 := Tryz.zeroValue5
 t9 := Tryz.underlying9
 a9 := Tryz.isAgg9
 z9 := Tryz.sizeOf9
 v9 := Tryz.zeroValue9
 t22 := Tryz.underlying31
 a22 := Tryz.isAgg31
 z22 := Tryz.sizeOf31
 v22 := Tryz.zeroValue31
 t23 := Tryz.underlying31
 a23 := Tryz.isAgg31
 z23 := Tryz.sizeOf31
 v23 := Tryz.zeroValue31
 t25 := Tryz.underlying3
 a25 := Tryz.isAgg3
 z25 := Tryz.sizeOf3
 v25 := Tryz.zeroValue3
 t32 := Tryz.underlying210
 a32 := Tryz.isAgg210
 z32 := Tryz.sizeOf210
 v32 := Tryz.zeroValue210
 t35 := Tryz.underlying234
 a35 := Tryz.isAgg234
 z35 := Tryz.sizeOf234
 v35 := Tryz.zeroValue234
 t36 := Tryz.underlying235
 a36 := Tryz.isAgg235
 z36 := Tryz.sizeOf235
 v36 := Tryz.zeroValue235
 t41 := Tryz.underlying240
 a41 := Tryz.isAgg240
 z41 := Tryz.sizeOf240
 v41 := Tryz.zeroValue240
 t44 := Tryz.underlying73
 a44 := Tryz.isAgg73
 z44 := Tryz.sizeOf73
 v44 := Tryz.zeroValue73
 t46 := Tryz.underlying71
 a46 := Tryz.isAgg71
 z46 := Tryz.sizeOf71
 v46 := Tryz.zeroValue71
 t53 := Tryz.underlying254
 a53 := Tryz.isAgg254
 z53 := Tryz.sizeOf254
 v53 := Tryz.zeroValue254
 t57 := Tryz.underlying258
 a57 := Tryz.isAgg258
 z57 := Tryz.sizeOf258
 v57 := Tryz.zeroValue258
 t63 := Tryz.underlying265
 a63 := Tryz.isAgg265
 z63 := Tryz.sizeOf265
 v63 := Tryz.zeroValue265
 t64 := Tryz.underlying266
 a64 := Tryz.isAgg266
 z64 := Tryz.sizeOf266
 v64 := Tryz.zeroValue266 }
def CS : Go.Shelf.Ren := ⟨fun | 7 => 97 | 10 => 146 | n => n, fun | 23 => 82 | 26 => 9 | 3 => 76 | 28 => 162 | 0 => 0 | 27 => 161 | 33 => 75 | 4 => 4 | n => n, fun | n => n⟩
theorem CT : Go.Proofs.SlLaysZ.n7 Tryz.prog CS := {
 mixed := by kernel_rfl
 f7 := ⟨Tryz.f97.name, by decide, Tryz.func97.trans (bM some (by kernel_rfl))⟩
 f10 := ⟨Tryz.f146.name, by decide, Tryz.func146.trans (bM some (by kernel_rfl))⟩
 t0 := Tryz.underlying0
 a0 := Tryz.isAgg0
 z0 := Tryz.sizeOf0
 v0 := Tryz.zeroValue0
 t4 := Tryz.underlying4
 a4 := Tryz.isAgg4
 z4 := Tryz.sizeOf4
 v4 := Tryz.zeroValue4
 t23 := Tryz.underlying82
 a23 := Tryz.isAgg82
 z23 := Tryz.sizeOf82
 v23 := Tryz.zeroValue82
 t26 := Tryz.underlying9
 a26 := Tryz.isAgg9
 z26 := Tryz.sizeOf9
 v26 := Tryz.zeroValue9
 t27 := Tryz.underlying161
 a27 := Tryz.isAgg161
 z27 := Tryz.sizeOf161
 v27 := Tryz.zeroValue161
 t28 := Tryz.underlying162
 a28 := Tryz.isAgg162
 z28 := Tryz.sizeOf162
 v28 := Tryz.zeroValue162
 t33 := Tryz.underlying75
 a33 := Tryz.isAgg75
 z33 := Tryz.sizeOf75
 v33 := Tryz.zeroValue75 }
def Hw : Go.Shelf.Ren := ⟨fun | 6 => 96 | 8 => 144 | 9 => 145 | 11 => 166 | 13 => 168 | 12 => 167 | 23 => 183 | 24 => 184 | 14 => 174 | 15 => 175 | 16 => 176 | 17 => 177 | 18 => 178 | 19 => 179 | 20 => 180 | 21 => 181 | 22 => 182 | 25 => 198 | 26 => 199 | 27 => 200 | 28 => 201 | 29 => 202 | 30 => 203 | 31 => 212 | n => n, fun | 26 => 9 | 28 => 162 | 24 => 134 | 0 => 0 | 3 => 3 | 37 => 210 | 48 => 73 | 50 => 71 | 4 => 4 | 40 => 235 | 39 => 234 | 45 => 240 | 5 => 5 | 9 => 9 | 51 => 254 | 55 => 258 | 57 => 265 | 58 => 266 | 33 => 75 | n => n, fun | n => n⟩
theorem Hy : Go.Proofs.SlLaysZ.n6 Tryz.prog Hw := {
 mixed := by kernel_rfl
 f6 := ⟨Tryz.f96.name, by decide, Tryz.func96.trans (bM some (by kernel_rfl))⟩
 f8 := ⟨Tryz.f144.name, by decide, Tryz.func144.trans (bM some (by kernel_rfl))⟩
 f11 := ⟨Tryz.f166.name, by decide, Tryz.func166.trans (bM some (by kernel_rfl))⟩
 t0 := Tryz.underlying0
 a0 := Tryz.isAgg0
 z0 := Tryz.sizeOf0
 v0 := Tryz.zeroValue0
 t24 := Tryz.underlying134
 a24 := Tryz.isAgg134
 z24 := Tryz.sizeOf134
 v24 := Tryz.zeroValue134
 t26 := Tryz.underlying9
 a26 := Tryz.isAgg9
 z26 := Tryz.sizeOf9
 v26 := Tryz.zeroValue9
 t28 := Tryz.underlying162
 a28 := Tryz.isAgg162
 z28 := Tryz.sizeOf162
 v28 := Tryz.zeroValue162
 i26 := by kernel_rfl }
def OG : Go.Shelf.Ren := ⟨fun | 6 => 145 | 8 => 168 | 9 => 167 | 19 => 183 | 20 => 184 | 21 => 174 | 22 => 175 | 23 => 176 | 24 => 177 | 25 => 178 | 26 => 179 | 27 => 180 | 28 => 181 | 29 => 182 | 36 => 198 | 31 => 199 | 32 => 200 | 37 => 201 | 38 => 202 | 39 => 203 | 41 => 212 | n => n, fun | 27 => 134 | 29 => 9 | 3 => 3 | 32 => 210 | 26 => 134 | 0 => 0 | 44 => 73 | 46 => 71 | 4 => 4 | 36 => 235 | 35 => 234 | 41 => 240 | 5 => 5 | 9 => 9 | 53 => 254 | 57 => 258 | 63 => 265 | 64 => 266 | n => n, fun | n => n⟩
theorem Hz : Go.Proofs.SlLaysM.n6 Tryz.prog OG := {
 mixed := by kernel_rfl
 f6 := ⟨Tryz.f145.name, by decide, Tryz.func145.trans (bM some (by kernel_rfl))⟩
 f8 := Tryz.func168.trans (bM some (by kernel_rfl))
 f9 := ⟨Tryz.f167.name, by decide, Tryz.func167.trans (bM some (by kernel_rfl))⟩
 f19 := Tryz.func183.trans (bM some (by kernel_rfl))
 f20 := Tryz.func184.trans (bM some (by kernel_rfl))
 f21 := ⟨Tryz.f174.name, by decide, Tryz.func174.trans (bM some (by kernel_rfl))⟩
 f22 := ⟨Tryz.f175.name, by decide, Tryz.func175.trans (bM some (by kernel_rfl))⟩
 f23 := ⟨Tryz.f176.name, by decide, Tryz.func176.trans (bM some (by kernel_rfl))⟩
 f24 := ⟨Tryz.f177.name, by decide, Tryz.func177.trans (bM some (by kernel_rfl))⟩
 f25 := ⟨Tryz.f178.name, by decide, Tryz.func178.trans (bM some (by kernel_rfl))⟩
 f26 := ⟨Tryz.f179.name, by decide, Tryz.func179.trans (bM some (by kernel_rfl))⟩
 f27 := ⟨Tryz.f180.name, by decide, Tryz.func180.trans (bM some (by kernel_rfl))⟩
 f28 := ⟨Tryz.f181.name, by decide, Tryz.func181.trans (bM some (by kernel_rfl))⟩
 f29 := ⟨Tryz.f182.name, by decide, Tryz.func182.trans (bM some (by kernel_rfl))⟩
 f31 := Tryz.func199.trans (bM some (by kernel_rfl))
 f32 := Tryz.func200.trans (bM some (by kernel_rfl))
 f36 := ⟨Tryz.f198.name, by decide, Tryz.func198.trans (bM some (by kernel_rfl))⟩
 f37 := ⟨Tryz.f201.name, by decide, Tryz.func201.trans (bM some (by kernel_rfl))⟩
 f38 := ⟨Tryz.f202.name, by decide, Tryz.func202.trans (bM some (by kernel_rfl))⟩
 f39 := ⟨Tryz.f203.name, by decide, Tryz.func203.trans (bM some (by kernel_rfl))⟩
 f41 := ⟨Tryz.f212.name, by decide, Tryz.func212.trans (bM some (by kernel_rfl))⟩
 t0 := Tryz.underlying0
 a0 := Tryz.isAgg0
 z0 := Tryz.sizeOf0
 v0 := Tryz.zeroValue0
 t3 := Tryz.underlying3
 a3 := Tryz.isAgg3
 z3 := Tryz.sizeOf3
 v3 := Tryz.zeroValue3
 t4 := Tryz.underlying4
 a4 := Tryz.isAgg4
 z4 := Tryz.sizeOf4
 v4 := Tryz.zeroValue4
 t5 := Tryz.underlying5
 a5 := Tryz.isAgg5
 z5 := Tryz.sizeOf5
 v5 := Tryz.zeroValue5
 t9 := Tryz.underlying9
 a9 := Tryz.isAgg9
 z9 := Tryz.sizeOf9
 v9 := Tryz.zeroValue9
 t26 := Tryz.underlying134
 a26 := Tryz.isAgg134
 z26 := Tryz.sizeOf134
 v26 := Tryz.zeroValue134
 t27 := Tryz.underlying134
 a27 := Tryz.isAgg134
 z27 := Tryz.sizeOf134
 v27 := Tryz.zeroValue134
 t29 := Tryz.underlying9
 a29 := Tryz.isAgg9
 z29 := Tryz.sizeOf9
 v29 := Tryz.zeroValue9
 t32 := Tryz.underlying210
 a32 := Tryz.isAgg210
 z32 := Tryz.sizeOf210
 v32 := Tryz.zeroValue210
 t35 := Tryz.underlying234
 a35 := Tryz.isAgg234
 z35 := Tryz.sizeOf234
 v35 := Tryz.zeroValue234
 t36 := Tryz.underlying235
 a36 := Tryz.isAgg235
 z36 := Tryz.sizeOf235
 v36 := Tryz.zeroValue235
 t41 := Tryz.underlying240
 a41 := Tryz.isAgg240
 z41 := Tryz.sizeOf240
 v41 := Tryz.zeroValue240
 t44 := Tryz.underlying73
 a44 := Tryz.isAgg73
 z44 := Tryz.sizeOf73
 v44 := Tryz.zeroValue73
 t46 := Tryz.underlying71
 a46 := Tryz.isAgg71
 z46 := Tryz.sizeOf71
 v46 := Tryz.zeroValue71
 t53 := Tryz.underlying254
 a53 := Tryz.isAgg254
 z53 := Tryz.sizeOf254
 v53 := Tryz.zeroValue254
 t57 := Tryz.underlying258
 a57 := Tryz.isAgg258
 z57 := Tryz.sizeOf258
 v57 := Tryz.zeroValue258
 t63 := Tryz.underlying265
 a63 := Tryz.isAgg265
 z63 := Tryz.sizeOf265
 v63 := Tryz.zeroValue265
 t64 := Tryz.underlying266
 a64 := Tryz.isAgg266
 z64 := Tryz.sizeOf266
 v64 := Tryz.zeroValue266 }
theorem OH (mb : Option Nat) (W : World) : Calls Tryz.prog 122 #[.map mb] W fun e w' => e = .returned (.func (.func 158) #[] #[.pointer (some ⟨W.heap.size, 0, none⟩)]) ∧ w' = W.alloc (.cells #[.map mb] 117) :=
 jJ.1 (AnyZI.keys_in Ht Fence.wide 5 trivial rfl mb W)
theorem OI (m : Nat) : AnyZI.SortsIn Tryz.prog Hu Fence.wide m :=
 ⟨fun blk off cap ss W hH hblk hsz => jJ.2 (AnyM.slices_Sort_int Hv blk off cap ss W hH hblk hsz),
  fun p cap W => jJ.2 (AnyM.slices_Sort_int_none Hv p cap W)⟩
theorem OJ (L : List (Nat × Value)) : intKeys (nA L) = mK L := by
 simp only [nA, intKeys, mK, pQ]
 rfl
theorem OK {L : List (Nat × Value)} (h : cP kE L) : (mK L).Pairwise fun a b => decide (a ≤ b) = true := by
 unfold mK
 rw [wP]
 refine List.Pairwise.imp ?_ h
 intro a b hab
 simp only [kE, decide_eq_true_eq] at hab ⊢
 omega
theorem OL {ss : List Int} {L : List (Nat × Value)} (h : cP kE L) (hp : ss.Perm (mK L)) : ss.mergeSort (fun x y => decide (x ≤ y)) = mK L := by
 refine Kg (le := fun a b => decide (a ≤ b) = true) (fun a b _ _ h1 h2 => ?_) ?_ (OK h) ((List.mergeSort_perm _ _).trans hp)
 ·simp only [decide_eq_true_eq] at h1 h2
  omega
 exact List.pairwise_mergeSort (fun a b c h1 h2 => by simp only [decide_eq_true_eq] at *; omega) (fun a b => by simp only [Bool.or_eq_true, decide_eq_true_eq]; omega) ss
theorem OM (w : World) {b : Nat} {L : List (Nat × Value)} (hown : lS w b L) (hs : cP kE L) (hl : L.length ≤ 1000000) :
  Calls Tryz.prog 121 #[.func (.func 158) #[] #[.pointer (some ⟨w.heap.size, 0, none⟩)]] (w.alloc (.cells #[.map (some b)] 117)) fun e w' => ∃ v, e = .returned v ∧ Cb w' (w.heap.size + 1) v (mK L) ∧ aB [] (w.alloc (.cells #[.map (some b)] 117)) w' := by
 have hbl := hown.lt
 have hsz : Maps.size (nA L) = L.length := by rw [xF, vN]
 have hseq : SeqGives Fence.wide 2 Tryz.prog 158 #[.pointer (some ⟨w.heap.size, 0, none⟩)] encZ (fun ss => ss.Perm (intKeys (nA L))) (Maps.size (nA L)) (w.alloc (.cells #[.map (some b)] 117)) :=
  AnyZI.keys_gives (ρ := Hs) { Ht with } Fence.wide _ trivial rfl (by omega) w.heap.size b L.length (nA L) _ (by simp) (by simp) (by
   obtain ⟨es, clock, hb, Ft, hs, hD⟩ := hown
   exact ⟨es, clock, (Below.heap_alloc _ _ b hbl).trans hb, Ft, hs, hD⟩)
 have cS := AnyZI.sorted_in OE Fence.wide 5 trivial trivial trivial trivial rfl (by omega) (OI _) (enters_of Tryz.func157 (by kernel_rfl) rfl) 158 #[.pointer (some ⟨w.heap.size, 0, none⟩)] trivial (enters_of Tryz.func158 (by kernel_rfl) rfl) _ _ (by rw [hsz]; unfold maxLen; omega) (by rw [hsz]; omega) _ hseq
 refine (jJ.1 cS).mono ?_
 rintro e w' ⟨v, ss, rfl, hS, hrow, hnil, hb⟩
 rw [OJ] at hS
 have e1 := OL hs hS
 have e2 : ss.length = (mK L).length := hS.length_eq
 refine ⟨v, rfl, ?_, ?_⟩
 ·have e3 : (ss.mergeSort (fun x y => decide (x ≤ y))).map encZ = aP cZ (mK L) := by rw [e1, FE]
  rw [e3, e2] at hrow
  have e4 : (w.alloc (.cells #[.map (some b)] 117)).heap.size = w.heap.size + 1 := by simp
  rw [e4] at hrow
  exact hrow
 exact ⟨hb.os, hb.output, hb.size, fun k hk _ => hb.block k (by exact hk)⟩
theorem ON (w : World) (p : Nat) (D : aI) (sb mb : Nat) (L : List (Nat × Value)) (ops : Int) (h : gK w p D sb mb L ops) : Calls Tryz.prog 64 #[.pointer (some ⟨p, 0, none⟩)] w (FF w (mK L)) := by
 have c1 := aD h.box 1
 simp only [bA, bB, bS] at c1
 have hLn := h.len
 have hn2 := h.n2
 have HS := aA (OM w h.map h.srt (by omega))
 clear h
 go_in
 go_wp2_with fail
 refine (OH _ _).mono ?_
 rintro e w1 ⟨rfl, rfl⟩
 go_wp2_with fail
 refine HS.out.mono ?_
 rintro e w2 ⟨v, rfl, hv, hu⟩
 have HV := aA (aC hv hu)
 clear hv hu
 go_wp2_with fail
 go_ret
 exact ⟨v, rfl, HV.out.1.base (tQ _), ((aB.refl [] w).alloc _).trans HV.out.2⟩
theorem OO (w : World) {p : Nat} {D : aI} {F : List Nat} (h : bN w p D F) (hwr : D.wr ≤ 137438953472) {pv : Value} {picks : List Int} (hp : uJ w pv picks) (hpk : ∀ x ∈ picks, -9223372036854775808 ≤ x ∧ x ≤ 9223372036854775807) (hpF : picks ≠ [] → ∀ b, pv.ownBlock = some b → b ∉ F) :
  Calls Tryz.prog 22 #[.pointer (some ⟨p, 0, none⟩), pv] w (FH w p D F) := Mc ON w h hwr hp hpk hpF
theorem CU (mb : Option Nat) (W : World) : Calls Tryz.prog 97 #[.map mb] W fun e w' => e = .returned (.func (.func 146) #[] #[.pointer (some ⟨W.heap.size, 0, none⟩)]) ∧ w' = W.alloc (.cells #[.map mb] 82) :=
 jJ.1 (AnyZ.keys_in CT Fence.wide 5 trivial rfl mb W)
theorem Ia (m : Nat) : AnyZ.SortsIn Tryz.prog Hw Fence.wide m :=
 ⟨fun blk off cap ss W hH hblk hsz => jJ.2 (AnyM.slices_Sort_string Hz blk off cap ss W hH hblk hsz),
  fun p cap W => jJ.2 (AnyM.slices_Sort_string_none Hz p cap W)⟩
def cT (s : Bs) : List Value := [.string ⟨s.toArray⟩]
abbrev gV (w : World) (base : Nat) (v : Value) (l : List Bs) : Prop := aK cT 9 1 w base v l
theorem OP (l : List Bs) : aP cT l = l.map encStr := by
 induction l with
 | nil => rfl
 | cons x l ih => rw [dR, ← ih]; rfl
def lZ (L : List (Bs × Value)) : List Bs := L.map (·.1)
theorem OQ (L : List (Bs × Value)) : strKeys (gL Lit.string L) = lZ L := by
 simp only [gL, strKeys, lZ, pQ]
 rfl
theorem sF : ∀ a b : Bs, Op.bytesLess a b = true ↔ a < b
 | [], [] => by simp [Op.bytesLess]
 | [], b :: y => by simp [Op.bytesLess]
 | a :: x, [] => by simp [Op.bytesLess]
 | a :: x, b :: y => by
  rw [List.cons_lt_cons_iff, ← sF x y]
  simp [Op.bytesLess]
theorem OR {L : List (Bs × Value)} (h : cP bQ L) : (lZ L).Pairwise fun a b => decide (a ≤ b) = true := by
 unfold lZ
 rw [wP]
 refine List.Pairwise.imp ?_ h
 intro a b hab
 simp only [decide_eq_true_eq]
 intro hlt
 have := (sF _ _).2 hlt
 have h2 := dD.asymm hab
 rw [show bQ b.1 a.1 = true from this] at h2
 cases h2
theorem OS {a b : Bs} (h1 : a ≤ b) (h2 : b ≤ a) : a = b := by
 rcases dD.total a b with h | h | h
 ·exact h
 ·exact absurd ((sF _ _).1 h) h2
 exact absurd ((sF _ _).1 h) h1
theorem OT {a b c : Bs} (h1 : a ≤ b) (h2 : b ≤ c) : a ≤ c := by
 intro h
 rcases dD.total a b with e | e | e
 ·subst e; exact h2 h
 ·exact h2 ((sF _ _).1 (dD.trans _ _ _ ((sF _ _).2 h) e))
 exact h1 ((sF _ _).1 e)
theorem OU (a b : Bs) : a ≤ b ∨ b ≤ a := by
 by_cases h : a ≤ b
 ·exact .inl h
 refine .inr fun g => ?_
 have h1 : b < a := Classical.not_not.1 h
 have := dD.asymm ((sF _ _).2 h1)
 rw [show bQ a b = true from (sF _ _).2 g] at this
 cases this
theorem OV {ss : List Bs} {L : List (Bs × Value)} (h : cP bQ L) (hp : ss.Perm (lZ L)) : ss.mergeSort (fun x y => decide (x ≤ y)) = lZ L := by
 refine Kg (le := fun a b => decide (a ≤ b) = true) (fun a b _ _ h1 h2 => ?_) ?_ (OR h) ((List.mergeSort_perm _ _).trans hp)
 ·simp only [decide_eq_true_eq] at h1 h2
  exact OS h1 h2
 exact List.pairwise_mergeSort (fun a b c h1 h2 => by simp only [decide_eq_true_eq] at *; exact OT h1 h2) (fun a b => by simp only [Bool.or_eq_true, decide_eq_true_eq]; exact OU a b) ss
theorem Ib (w : World) {b : Nat} {L : List (Bs × Value)} (hown : fO w b L) (hs : cP bQ L) (hl : L.length ≤ 1000000) :
  Calls Tryz.prog 96 #[.func (.func 146) #[] #[.pointer (some ⟨w.heap.size, 0, none⟩)]] (w.alloc (.cells #[.map (some b)] 82)) fun e w' => ∃ v, e = .returned v ∧ gV w' (w.heap.size + 1) v (lZ L) ∧ aB [] (w.alloc (.cells #[.map (some b)] 82)) w' := by
 have hbl := hown.lt
 have hsz : Maps.size (gL Lit.string L) = L.length := by rw [vN]
 have hseq : SeqGives Fence.wide 2 Tryz.prog 146 #[.pointer (some ⟨w.heap.size, 0, none⟩)] encStr (fun ss => ss.Perm (strKeys (gL Lit.string L))) (Maps.size (gL Lit.string L)) (w.alloc (.cells #[.map (some b)] 82)) :=
  AnyZ.keys_gives (ρ := CS) { CT with } Fence.wide _ trivial rfl (by omega) w.heap.size b L.length (gL Lit.string L) _ (by simp) (by simp) (by
   obtain ⟨es, clock, hb, Ft, hs, hD⟩ := hown
   exact ⟨es, clock, (Below.heap_alloc _ _ b hbl).trans hb, Ft, hs, hD⟩)
 have cS := AnyZ.sorted_in Hy Fence.wide 5 trivial trivial trivial trivial rfl (by omega) (Ia _) (enters_of Tryz.func145 (by kernel_rfl) rfl) 146 #[.pointer (some ⟨w.heap.size, 0, none⟩)] trivial (enters_of Tryz.func146 (by kernel_rfl) rfl) _ _ (by rw [hsz]; unfold maxLen; omega) (by rw [hsz]; omega) _ hseq
 refine (jJ.1 cS).mono ?_
 rintro e w' ⟨v, ss, rfl, hS, hrow, hnil, hb⟩
 rw [OQ] at hS
 have e1 := OV hs hS
 have e2 : ss.length = (lZ L).length := hS.length_eq
 refine ⟨v, rfl, ?_, ?_⟩
 ·have e3 : (ss.mergeSort (fun x y => decide (x ≤ y))).map encStr = aP cT (lZ L) := by rw [e1, OP]
  rw [e3, e2] at hrow
  have e4 : (w.alloc (.cells #[.map (some b)] 82)).heap.size = w.heap.size + 1 := by simp
  rw [e4] at hrow
  exact hrow
 exact ⟨hb.os, hb.output, hb.size, fun k hk _ => hb.block k (by exact hk)⟩
end Go.Proofs.YtgpefiacbipfpaaGreatDoor
namespace Go.Proofs.YtgpefiacbipfpaaGreatDoor
open Go.RowKit Go.Maps
theorem Ic : fA cT 1 16 134 9 where
 len := fun _ => rfl
 pos := by omega
 und := Tryz.underlying134
 info := by
  obtain ⟨i, h, h1, h2, h3⟩ := kD (show (Tryz.prog.info? 9).map (fun i => (i.zero, i.size, i.bytes)) = some (some (.string ⟨#[]⟩), 1, 16) by kernel_rfl)
  exact ⟨i, _, h, h1, h2, h3, rfl⟩
def nJ (fs : aG) (i : Nat) : Bs := kZ ++ aN fs.length ++ (fs.take i).flatMap oU
theorem Ie {fs : aG} {i : Nat} {p : Bs × bO} (h : fs[i]? = some p) : nJ fs (i + 1) = (nJ fs i ++ (aN p.1.length ++ p.1)) ++ jY p.2 := by
 unfold nJ
 rw [iK, h]
 simp [oU]
theorem OW (fs : aG) : nJ fs fs.length = qL fs := by unfold nJ qL; rw [rL]
theorem Au {room : Nat} {fs : aG} (h : dC room fs) (hr : room ≤ 512) (i : Nat) : (nJ fs i).length ≤ 8000 := by
 refine bG ?_ (h.raw_len hr)
 unfold nJ qL
 simp only [bD]
 have : ((fs.take i).flatMap oU).length ≤ (fs.flatMap oU).length := by
  conv => rhs; rw [← kW i fs, vA, bD]
  omega
 omega
theorem mY.small {room : Nat} {f : bO} (h : mY room f) (hr : room ≤ 512) : pF f.runs 1000 := by
 have h1 := sU (oT h.canon)
 have h2 : aY f.runs ≤ 64 := by rw [h.len]; have := h.most; unfold bP; omega
 exact ⟨fun x hx => by have := h.le x hx; omega, by omega, by omega⟩
theorem If (w : World) {room mf : Nat} {fs : aG} {A : Bs → Nat} {R : Bs → Value} {FM : List Nat} (h : dL w mf fs A R FM) (hok : dC room fs) (hr : room ≤ 512) :
  Calls Tryz.prog 49 #[.map (some mf)] w fun e w' => ∃ v, e = .returned v ∧ Ow w' w.heap.size v (dT fs) ∧ aB [] w w' := by
 have H := aA h
 have hL : (dW fs A).length = fs.length := by simp [dW]
 have HK := aA fun (X : World) (B : Nat) (ty : TypeId) (fz : Nat × Nat) (hB : X.heap[B]? = some (.cells #[.int .u8 102, .int .u8 105, .int .u8 108, .int .u8 101, .int .u8 115] ty fz)) => nX X (show Rd X (.slice (some ⟨B, 0, none⟩) 5 5) kZ from tC (l := kZ) hB (by decide)) fs.length (by have := hok.few; omega) (by decide)
 have HM := aA fun (X : World) (u : aB [] w X) => (show fO X mf (dW fs A) from mJ h.map u (by simp))
 have hn64 := hok.few
 have hsz : Maps.size (gL Lit.string (dW fs A)) = fs.length := by rw [vN, hL]
 have hcv : IntKind.u64.wrap ((fs.length : Nat) : Int) = (fs.length : Int) := by rw [nU]; omega
 obtain ⟨L, hLL⟩ : ∃ L, L = fs.length := ⟨_, rfl⟩
 have HLL := aA hLL
 rw [← hLL] at hsz hcv hn64 HK
 have hLb : (L : Int) ≤ 64 := by omega
 clear h hL hLL
 have hcvt := fun W : World => Go.Lib.run_convert_bytes_const W 23 5 #[.int .u8 102, .int .u8 105, .int .u8 108, .int .u8 101, .int .u8 115] 5 5 T8.und Tryz.underlying5
 have hu1 : aB [] w (w.alloc (.cells #[.int .u8 102, .int .u8 105, .int .u8 108, .int .u8 101, .int .u8 115] 5 (5, 6))) := (aB.refl [] w).alloc _
 have hb1 := aX w (.cells #[.int .u8 102, .int .u8 105, .int .u8 108, .int .u8 101, .int .u8 115] 5 (5, 6))
 go_in
 have hlen := World.ownsMap.len (HM.out _ hu1) Tryz.underlying82 3
 rw [hsz] at hlen
 go_wp2_with fail
 generalize w.alloc (.cells #[.int .u8 102, .int .u8 105, .int .u8 108, .int .u8 101, .int .u8 115] 5 (5, 6)) = w1 at *
 refine (HK.out _ _ _ _ hb1).mono ?_
 rintro e w2 ⟨v2, rfl, ho2, hu2⟩
 obtain ⟨a2, c2, m2, hm2, rfl⟩ := ho2.sliceM
 have hU2 := hu1.trans hu2
 have HKS := CU (some mf) w2
 have HSS := Ib w2 (HM.out w2 hU2) (qZ hok.srt A) (by simp [dW]; have := hok.few; omega)
 have H2 := aA (aC (ho2.base hu1.size) hU2)
 clear ho2 hu1 hu2 hU2 hb1 hcvt hm2 hlen
 go_wp2_with fail
 refine HKS.mono ?_
 rintro e w3 ⟨rfl, rfl⟩
 go_wp2_with fail
 refine HSS.mono ?_
 rintro e w4 ⟨v4, rfl, ho4, hu4⟩
 have hnl : (lZ (dW fs A)).length = L := by rw [HLL.out]; simp [lZ, dW]
 have hU4 : aB [] w w4 := (H2.out.2.alloc _).trans hu4
 obtain ⟨a4, c4, m4, hm4, rfl⟩ := ho4.sliceM
 rw [hnl] at hm4
 rw [hm4] at ho4 ⊢
 clear hm4
 have HROW := aA ho4
 have H4 := aA (aC (H2.out.1.upd (((aB.refl [] w2).alloc _).trans hu4) (by simp)) hU4)
 clear ho4 hu4 hU4 hnl HKS HSS
 go_wp2_with fail
 go_loopg [3, 16] L (fun gh v3 v16 wr => ∃ (i : Nat) (a3 : Option Addr) (m3 c3 : Nat), v3 = .slice a3 m3 c3 ∧ v16 = .int .i64 i ∧ i ≤ L ∧ gh = L - i ∧ Hid (Ow wr w.heap.size (.slice a3 m3 c3) (nJ fs i) ∧ aB [] w wr ∧ aB [] w4 wr))
 case atStart => exact ⟨0, a2, m2, c2, rfl, rfl, dH _, rfl, aA ⟨by have := H4.out.1; rw [HLL.out] at this; simpa [nJ] using this, H4.out.2, aB.refl _ _⟩⟩
 case round =>
  obtain ⟨i, a3, m3, c3, rfl, rfl, hi, rfl, HR⟩ := hrel
  by_cases hiL : i < L
  ·have hiL' : (i : Int) < (L : Int) := by omega
   obtain ⟨p, hp⟩ : ∃ p, fs[i]? = some p := ⟨_, bL (by rw [← HLL.out]; exact hiL)⟩
   obtain ⟨gn, rfl, dn⟩ : ∃ gn, a4 = some ⟨gn, 0, none⟩ ∧ wr.cell? ⟨gn, i, none⟩ = some (.string ⟨p.1.toArray⟩) := by
    obtain ⟨-, -, -, hat⟩ := aK.at Ic (HROW.out.upd HR.out.2.2 (by simp))
    obtain ⟨gn, e1, -, -, hc⟩ := hat i (by simp [lZ, dW]; rw [← HLL.out]; exact hiL)
    refine ⟨gn, e1, ?_⟩
    have h5 := hc 0 (.string ⟨p.1.toArray⟩) (by
     have : (lZ (dW fs A))[i]? = some p.1 := by simp [lZ, dW, hp]
     obtain ⟨_, h6⟩ := eX.1 this
     rw [h6]; rfl)
    simpa using h5
   have hpm : p ∈ fs := fC hp
   have hnm := hok.name p hpm
   have HPT := aA fun (X : World) (u : aB [] wr X) => Ll X ((aK.rd T8 (HR.out.1.upd u (by simp))).b) ⟨p.1.toArray⟩ (by show p.1.toArray.size ≤ _; simp; omega) (by have := Au hok hr i; omega)
   have hmap := H.out.map
   have HLK := aA fun (X : World) (u : aB [] wr X) => fO.look (HM.out X (HR.out.2.1.trans u)) Tryz.underlying82 (z := .pointer none) (by kernel_rfl) ⟨p.1.toArray⟩ (by show p.1.toArray.size ≤ _; unfold maxLen; simp; omega)
   have HBY := aA fun (X : World) (u : aB [] wr X) => Oj X ((H.out.node p hpm).upd (HR.out.2.1.trans u) (by simp) (by simp)) (hok.ok p hpm).most ((hok.ok p hpm).small hr)
   have hga : (bF (dW fs A) p.1).getD (.pointer none) = sE (A p.1) := by
    rw [rA, mW dD hok.srt hpm]; rfl
   rw [show (⟨p.1.toArray⟩ : ByteArray).data.toList = p.1 by simp, hga] at HLK
   have hl0 := HLK.out wr.drew (aB.refl [] wr).drew
   have HPP := aA hp
   have hle := Au hok hr i
   have hfl : (jY p.2).length ≤ 10000 := by
    have h1 := Au hok hr (i + 1)
    rw [Ie hp] at h1
    simp only [bD] at h1
    omega
   have hpl : (aN (⟨p.1.toArray⟩ : ByteArray).size).length ≤ 10 := gX (by show p.1.toArray.size < _; simp; omega)
   have HFL := aA (show (nJ fs i ++ (aN (⟨p.1.toArray⟩ : ByteArray).size ++ p.1)).length ≤ 9000 ∧ (jY p.2).length ≤ 10000 by
    refine ⟨?_, hfl⟩
    simp only [bD]
    omega)
   clear hp hmap hga hle hfl hnm hpl
   go_wp2_with fail
   go_region_held3 (fun _ => True)
    (trivial)
    (first
     | (go_at_call 98; (with_reducible refine (HPT.out _ ?_).mono ?_); (exact (aB.refl [] wr).drew); rintro e w6 ⟨v6, rfl, ho6, hu6⟩; obtain ⟨a6, c6, m6, hm6, rfl⟩ := ho6.sliceM; have hv6 : aB [] wr w6 := (aB.refl [] wr).drew.trans hu6; have HO6 := aA ho6; have hl6 := HLK.out w6 hv6; clear hm6)
     | (go_at_call 99; (with_reducible refine (HBY.out _ hv6).mono ?_); rintro e w7 ⟨v7, rfl, ho7, hu7⟩; obtain ⟨a7, c7, m7, hm7, rfl⟩ := ho7.sliceM; have HM7 := aA hm7; have HO7 := aA ho7; clear hm7)
     | (refine lA T8 (by rfl) _ _ (by rfl) (base := wr.drew.heap.size) (v := .slice a6 m6 c6) (A := a7) (c := c7) (r := jY p.2) (by rfl) (HO6.out.upd hu7 (by simp)) (by rw [HM7.out]; rfl) (Ow.rd HO7.out).src (lQ _) ?_ ?_ ?_ ?_; (have := HFL.out; omega); (have := HFL.out; omega); (exact (hv6.trans hu7).size); intro v8 w8 ho8 hg8 _; obtain ⟨a8, c8, m8, hm8, rfl⟩ := ho8.sliceM; have hv8 : aB [] wr w8 := (hv6.trans hu7).grown hg8 (fun g hg => (HO6.out.block g hg).1); have HO8 := aA ho8; clear hm8))
   all_goals
    go_wp2_with fail
    go_roundg (L - (i + 1))
    case measure => omega
    case rel =>
     refine ⟨i + 1, a8, m8, c8, rfl, by simp, by omega, rfl, aA ⟨?_, HR.out.2.1.trans hv8, HR.out.2.2.trans hv8⟩⟩
     rw [Ie HPP.out]
     have h1 := HO8.out.base (b := w.heap.size) HR.out.2.1.size
     exact h1
  obtain rfl : i = L := by omega
  have hiL' : ¬ (i : Int) < (i : Int) := by omega
  have hle := Au hok hr i
  obtain ⟨ga, e1, -⟩ : ∃ m, m3 = m ∧ True := ⟨m3, rfl, trivial⟩
  have hm3 : m3 = (nJ fs i).length := by
   obtain ⟨h1, -⟩ := aK.at T8 HR.out.1
   exact h1
  obtain ⟨k, hk⟩ : ∃ k, k = 8192 - m3 := ⟨_, rfl⟩
  have hsub : IntKind.i64.wrap (8192 - (m3 : Int)) = (k : Int) := by rw [fF _ (by omega)]; omega
  have HM3 := aA (aC hm3 (aC hk hle))
  clear hm3 hk hle e1
  go_wp2_with (refine zX rfl _ _ rfl (l := nJ fs i) (k := k) rfl HR.out.1 (by simp [nJ, kZ]) rfl (by have := HM3.out; omega) HR.out.2.1.size ?_)
  intro v8 w8 ho8 hg8 _
  obtain ⟨a8, c8, m8, hm8, rfl⟩ := ho8.sliceM
  have hu8 : aB [] w w8 := HR.out.2.1.grown hg8 (fun g hg => (HR.out.1.block g hg).1)
  have HO8 := aA ho8
  clear hm8 ho8 hg8
  go_wp2_with fail
  go_ret
  refine ⟨_, rfl, ?_, hu8⟩
  have h1 := HO8.out
  have e1 : nJ fs i ++ List.replicate k 0 = dT fs := by
   unfold dT
   rw [HM3.out.2.1, HM3.out.1, HLL.out, OW]
  rw [e1] at h1
  exact h1
abbrev eW (j c q mf ml : Nat) (va : Value) (dead : Bool) : Obj := .cells #[.pointer (some ⟨j, 0, none⟩), .pointer (some ⟨c, 0, none⟩), .pointer (some ⟨q, 0, none⟩), .map (some mf), .map (some ml), va, .bool dead] 84 (0, 0)
theorem Av {w : World} {v j c q mf ml : Nat} {va : Value} {dead : Bool} (h : w.heap[v]? = some (eW j c q mf ml va dead)) (b : Bool) : (w.setCell ⟨v, 6, none⟩ (.bool b)).heap[v]? = some (eW j c q mf ml va b) := by
 rw [bJ, aF rfl, h]; rfl
def OX (w : World) (v j p n k c q mf ml : Nat) (va : Value) (dead ld gone : Bool) (r : Ending) (w' : World) : Prop :=
 r = .returned (.int .i64 (if (dead || gone) = true then 2 else 0)) ∧ w'.heap[v]? = some (eW j c q mf ml va (dead || gone)) ∧ bZ w' j p n k (if dead = true then ld else gone) ∧ aB [v, j] w w'
theorem CV (w : World) {v j p n k c q mf ml : Nat} {va : Value} {dead ld : Bool} (h : w.heap[v]? = some (eW j c q mf ml va dead)) (hl : bZ w j p n k ld) {D : aI} {F : List Nat} (hd : bN w p D F) (hn : n ≤ 512) (hvj : v ≠ j) :
  Calls Tryz.prog 37 #[.pointer (some ⟨v, 0, none⟩)] w (OX w v j p n k c q mf ml va dead ld (ld || D.down)) := by
 have c0 := aD h 0
 have c6 := aD h 6
 simp only [bA, bB, bS] at c0 c6
 have HB := aA h
 have HL := aA hl
 have hvl := aH h
 have HJ := aA (Mu w hl hd hn (-1) (by simp [jD]; split <;> omega))
 clear h hl hd
 generalize hg : (ld || D.down) = gone at *
 clear hg
 cases dead
 ·cases gone
  ·have e1 : jD false (-1) n false = 42 := by simp [jD]
   rw [e1] at HJ
   go_in
   go_wp2_with fail
   refine HJ.out.mono ?_
   rintro r w1 ⟨rfl, hl1, hu1⟩
   have hb1 := (hu1.block v hvl (by simp; exact hvj)).trans HB.out
   have H1 := aA (aC hl1 (aC hu1 hb1))
   clear hl1 hu1 hb1
   go_wp2_with fail
   go_ret
   exact ⟨rfl, H1.out.2.2, H1.out.1, H1.out.2.1.mono (by simp)⟩
  have e1 : jD true (-1) n false = 2 := by simp [jD]
  rw [e1] at HJ
  go_in
  go_wp2_with fail
  refine HJ.out.mono ?_
  rintro r w1 ⟨rfl, hl1, hu1⟩
  have hb1 := (hu1.block v hvl (by simp; exact hvj)).trans HB.out
  have H1 := aA (aC hl1 (aC hu1 hb1))
  have d6 := aD hb1 6
  have f6 := aZ hb1 6
  simp only [bA, bB, bS] at d6
  clear hl1 hu1 hb1
  go_wp2_with fail
  go_ret
  exact ⟨rfl, Av H1.out.2.2 _, H1.out.1.upd ((aB.refl [v] _).setCell (by simp) _ _) (by simp; exact fun e => hvj e.symm), (H1.out.2.1.mono (by simp)).setCell (by simp) _ _⟩
 go_in
 go_wp2_with fail
 go_ret
 exact ⟨rfl, HB.out, HL.out, aB.refl _ _⟩
theorem Aw (w : World) {v j c q mf ml : Nat} {va : Value} {dead : Bool} (h : w.heap[v]? = some (eW j c q mf ml va dead)) (e : Nat) :
  Calls Tryz.prog 47 #[.pointer (some ⟨v, 0, none⟩), .int .i64 e] w fun r w' => r = .returned (.int .i64 e) ∧ w'.heap[v]? = some (eW j c q mf ml va (dead || decide (e = 2))) ∧ aB [v] w w' := by
 have c6 := aD h 6
 have f6 := aZ h 6
 simp only [bA, bB, bS] at c6
 have HB := aA h
 clear h
 cases dead
 ·by_cases he : e = 2
  ·subst he
   go_in
   go_wp2_with fail
   go_ret
   exact ⟨rfl, Av HB.out _, (aB.refl _ _).setCell (by simp) _ _⟩
  have he' : ((e : Int) == 2) = false := by simp; omega
  have hed : decide (e = 2) = false := by simp [he]
  rw [hed]
  have HE := aA he
  clear he hed
  go_in
  go_wp2_with fail
  go_ret
  exact ⟨rfl, by rw [Av HB.out]; rfl, (aB.refl _ _).setCell (by simp) _ _⟩
 go_in
 go_wp2_with fail
 go_ret
 exact ⟨rfl, Av HB.out _, (aB.refl _ _).setCell (by simp) _ _⟩
end Go.Proofs.YtgpefiacbipfpaaGreatDoor
