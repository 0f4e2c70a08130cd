/- Blocks are given back: Give. slices.Sorted and maps.Keys: the library's contracts at this program (laid in plain words by the kit's tool). A directory as bytes, laid. -/
import Derived.Shelf.SlIter.Nil
import Derived.Shelf.SlIterI.Nil
import Derived.Shelf.SortM.Plain
import Derived.Shelf.SortM.SortNone
import Derived.Deep.DeepCutAuto
import Derived.Test.YteepgehjkcahiaaGreatC24
import Derived.Test.YteepgehjkcahiaaGreatC20
import Derived.Test.YteepgehjkcahiaaGreatC10
import Derived.Test.YteepgehjkcahiaaGreatC21
namespace Go.Proofs.YteepgehjkcahiaaGreat
open Go.RowKit Go.Maps
def clearL (l : List Bool) (rs : List Run) : List Bool := (expand rs).foldl (fun l i => l.set i false) l
theorem clearL_len (l : List Bool) (rs : List Run) : (clearL l rs).length = l.length := by
 unfold clearL
 generalize expand rs = L
 induction L generalizing l with
 | nil => rfl
 | cons i L ih => rw [List.foldl_cons, ih]; simp
theorem clearL_get (l : List Bool) (rs : List Run) (i : Nat) : (clearL l rs)[i]? = if i ∈ expand rs then l[i]?.map (fun _ => false) else l[i]? := by
 unfold clearL
 generalize expand rs = L
 induction L generalizing l with
 | nil => simp
 | cons j L ih =>
  rw [List.foldl_cons, ih]
  by_cases h : i = j
  ·subst h
   by_cases hl : i < l.length
   ·simp [hl]
   ·simp [hl]
  ·have h' : j ≠ i := fun e => h e.symm
   simp [h, h']
theorem clearL_zero (l : List Bool) (rs : List Run) (a : Nat) : clearL l (rs ++ [(a, 0)]) = clearL l rs := by
 unfold clearL; rw [expand_app, expand_one]; simp
theorem clearL_succ (l : List Bool) (rs : List Run) (a i : Nat) : clearL l (rs ++ [(a, i + 1)]) = (clearL l (rs ++ [(a, i)])).set (a + i) false := by
 unfold clearL
 rw [expand_app, expand_app, expand_one, expand_one]
 simp only
 rw [List.range'_concat, ← List.append_assoc, List.foldl_append]
 simp
theorem next_not {rs : List Run} {t a b i : Nat} (ht : rs[t]? = some (a, b)) (hi : i < b) (hnd : (expand rs).Nodup) : a + i ∉ expand (rs.take t ++ [(a, i)]) ∧ a + i ∈ expand rs := by
 have hsp : rs = rs.take t ++ (a, b) :: rs.drop (t + 1) := by
  obtain ⟨hl, he⟩ := List.getElem?_eq_some_iff.1 ht
  rw [← he, List.getElem_cons_drop, List.take_append_drop]
 have hm : a + i ∈ List.range' a b := by rw [List.mem_range'_1]; omega
 constructor
 ·rw [expand_app, expand_one, List.mem_append]
  rintro (h | h)
  ·rw [hsp, expand_app, expand_cons] at hnd
   exact (List.nodup_append.1 hnd).2.2 _ h _ (List.mem_append_left _ hm) rfl
  ·simp only [List.mem_range'_1] at h; omega
 ·rw [hsp, expand_app, expand_cons]
  exact List.mem_append_right _ (List.mem_append_left _ hm)
set_option maxRecDepth 100000 in
set_option maxHeartbeats 4000000 in
theorem agive_ok (w : World) {q base : Nat} {nv lv v : Value} {now last : List Bool} {rs : List Run} (h : MapR w base q nv lv now last) (hm0 : 0 < now.length) (hm : now.length ≤ 512) (hv : RdG cR 2 w v rs) (hlr : rs.length ≤ 1000) (hin : ∀ r ∈ rs, 1 ≤ r.2 ∧ r.1 + r.2 ≤ now.length) (hnd : (expand rs).Nodup) (huse : ∀ b ∈ expand rs, now[b]? = some true) :
  Calls Tryz.prog 59 #[.pointer (some ⟨q, 0, none⟩), v] w fun e w' => e = .returned (.int .i64 0) ∧ ∃ nv', MapR w' base q nv' lv (clearL now rs) last ∧ Upd [q] w w' ∧ ∀ g, nv'.ownBlock = some g → w.heap.size ≤ g := by
 have HM := Lib.hid h
 have hq := lt_of_blk h.box
 have HV := Lib.hid hv
 have c0 := cell_blk h.box 0
 simp only [List.getElem?_toArray, List.getElem?_cons_zero] at c0
 have HC := Lib.hid (cloneB_ok w (OwnG.rd TB h.now) (by omega))
 obtain ⟨av, cv, rfl, hvl1, hvl2, -⟩ := hv.slice
 obtain ⟨L, hL⟩ : ∃ L, L = rs.length := ⟨_, rfl⟩
 have HL := Lib.hid hL
 have hLb : (L : Int) ≤ 1000 := by omega
 rw [← hL] at HV ⊢
 clear h hv hL hvl1 hvl2 hlr
 go_enter Tryz.func59, Tryz.ntmps59
 go_wp2_with fail
 refine HC.out.mono ?_
 rintro e w1 ⟨v1, rfl, ho, hu⟩
 obtain ⟨g, c1, rfl, hgb, -, -, -⟩ := OwB.row ho hm0
 have H1 := Lib.hid (And.intro ho hu)
 clear ho hu HC
 obtain ⟨m, hmm⟩ : ∃ m, m = now.length := ⟨_, rfl⟩
 rw [← hmm] at H1 ⊢
 have HMM := Lib.hid hmm
 have hm5 : (m : Int) ≤ 512 := by omega
 clear hmm hm hm0
 go_wp2_with fail
 go_loopg [18] L (fun gh v18 wr => ∃ t : Nat, v18 = .int .i64 t ∧ t ≤ L ∧ gh = L - t ∧ Hid (OwB wr w.heap.size (.slice (some ⟨g, 0, none⟩) m c1) (clearL now (rs.take t)) ∧ Upd [] w wr))
 case atStart => exact ⟨0, rfl, Nat.zero_le _, rfl, Lib.hid ⟨by rw [List.take_zero]; exact H1.out.1, H1.out.2⟩⟩
 case round =>
  obtain ⟨t, rfl, ht, rfl, HR⟩ := hrel
  generalize wr = wo at *
  by_cases htL : t < L
  ·have htL' : (t : Int) < (L : Int) := by omega
   obtain ⟨⟨a, b⟩, hab⟩ : ∃ r, rs[t]? = some r := ⟨_, List.getElem?_eq_getElem (by rw [← HL.out]; exact htL)⟩
   obtain ⟨hb1, hab2⟩ : 1 ≤ b ∧ a + b ≤ now.length := hin (a, b) (List.mem_of_getElem? hab)
   obtain ⟨bv, ov, rfl, d0, d1⟩ := RdG.runs (HV.out.keep TR HR.out.2) hab
   have HAB := Lib.hid hab
   have hab3 : a + b ≤ m := by rw [HMM.out]; exact hab2
   have f1 : ¬ (b : Int) < 1 := by omega
   have f2 : ¬ (a : Int) < 0 := by omega
   have f3 : ¬ (m : Int) ≤ (a : Int) := by omega
   have f4 : ¬ (m : Int) - (a : Int) < (b : Int) := by omega
   have fw : IntKind.i64.wrap ((m : Int) - (a : Int)) = (m : Int) - (a : Int) := IntWalk.i64_in _ (by omega)
   clear hab hab2
   have hR0 : ∀ o, Upd [] w (wo.alloc o) := fun o => HR.out.2.alloc o
   go_wp2_with fail
   have HX := Lib.hid (heap_top wo (.cells #[.int .i64 a, .int .i64 b] 129 (0, 0)))
   have HO := Lib.hid (And.intro (HR.out.1.upd ((Upd.refl [] wo).alloc (.cells #[.int .i64 a, .int .i64 b] 129 (0, 0))) (by simp)) (hR0 (.cells #[.int .i64 a, .int .i64 b] 129 (0, 0))))
   clear hR0 d0 d1
   generalize wo.alloc (.cells #[.int .i64 a, .int .i64 b] 129 (0, 0)) = W2 at *
   go_loopg [49] b (fun gh2 v49 wi => ∃ i : Nat, v49 = .int .i64 i ∧ i ≤ b ∧ gh2 = b - i ∧ Hid (OwB wi w.heap.size (.slice (some ⟨g, 0, none⟩) m c1) (clearL now (rs.take t ++ [(a, i)])) ∧ Upd [] w wi ∧ wi.heap[wo.heap.size]? = some (.cells #[.int .i64 a, .int .i64 b] 129 (0, 0))))
   case atStart => exact ⟨0, rfl, Nat.zero_le _, rfl, Lib.hid ⟨by rw [clearL_zero]; exact HO.out.1, HO.out.2, HX.out⟩⟩
   case round =>
    clear HX HO
    obtain ⟨i, rfl, hi, rfl, HI⟩ := hrel
    by_cases hib : i < b
    ·have hib' : (i : Int) < (b : Int) := by omega
     have e0 := cell_blk HI.out.2.2 0
     simp only [List.getElem?_toArray, List.getElem?_cons_zero] at e0
     obtain ⟨j, hj⟩ : ∃ j, j = a + i := ⟨_, rfl⟩
     have hwr : IntKind.i64.wrap ((a : Int) + (i : Int)) = (j : Int) := by rw [IntWalk.i64_in _ (by omega)]; omega
     have hj5 : (j : Int) < (m : Int) := by omega
     have hj6 : j < m := by omega
     obtain ⟨hn1, hn2⟩ := next_not HAB.out hib hnd
     rw [← hj] at hn1 hn2
     have hget : (clearL now (rs.take t ++ [(a, i)]))[j]? = some true := by rw [clearL_get, if_neg hn1]; exact huse j hn2
     obtain ⟨b', o', hbo, eg⟩ := RdG.bool (OwnG.rd TB HI.out.1) hget
     simp only [Option.some.injEq, Addr.mk.injEq] at hbo
     obtain ⟨rfl, rfl, -⟩ := hbo
     rw [Nat.zero_add] at eg
     obtain ⟨cur, hcur⟩ := own_cells HI.out.1 g rfl
     have fg := frozen_blk hcur j
     have HJ := Lib.hid hj
     have HCU := Lib.hid hcur
     clear hn1 hn2 hget hj hcur
     go_wp2_with fail
     go_roundg (b - (i + 1))
     case measure => omega
     case rel =>
      refine ⟨i + 1, by simp, by omega, rfl, Lib.hid ⟨?_, HI.out.2.1.setCellNew hgb _ _, ?_⟩⟩
      ·rw [clearL_succ, ← HJ.out]
       exact OwnB_set HI.out.1 j (by rw [clearL_len, ← HMM.out]; exact hj6) false
      ·rw [heap_setCell, if_neg (fun e => by
        have := HCU.out
        rw [← e, HI.out.2.2] at this
        simp at this)]
       exact HI.out.2.2
    ·obtain rfl : i = b := by omega
     have hib' : ¬ (i : Int) < (i : Int) := by omega
     go_wp2_with fail
     go_roundg (L - (t + 1))
     case measure => omega
     case rel =>
      refine ⟨t + 1, by simp, by omega, rfl, Lib.hid ⟨?_, HI.out.2.1⟩⟩
      rw [List.take_add_one, HAB.out]
      exact HI.out.1
  ·obtain rfl : t = L := by omega
   have htL' : ¬ (t : Int) < (t : Int) := by omega
   have hb0 : wo.heap[q]? = some (boxA nv lv) := (HR.out.2.block q hq (by simp)).trans HM.out.box
   have HB0 := Lib.hid hb0
   have k0 := cell_blk hb0 0
   have g0 := frozen_blk hb0 0
   simp only [List.getElem?_toArray, List.getElem?_cons_zero] at k0
   clear hb0
   go_wp2_with fail
   go_ret
   have hU : Upd [q] wo (wo.setCell ⟨q, 0, none⟩ (.slice (some ⟨g, 0, none⟩) m c1)) := (Upd.refl _ _).setCell (by simp) _ _
   have htk : rs.take t = rs := by rw [HL.out, List.take_length]
   have hlast := HM.out.last
   refine ⟨rfl, .slice (some ⟨g, 0, none⟩) m c1, ⟨boxA_now HB0.out _, ?_, (hlast.upd HR.out.2 (by simp)).upd hU (fun j hj e => ?_), ?_, HM.out.ne2, Nat.le_trans HM.out.fit (Nat.le_trans HR.out.2.size hU.size), ?_⟩, (HR.out.2.mono (by simp)).trans hU, ?_⟩
   ·have h1 := HR.out.1
    rw [htk] at h1
    exact (h1.upd hU (fun j hj e => by simp [Value.ownBlock] at hj e; omega)).base HM.out.fit
   ·exact HM.out.ne2 j e (List.mem_singleton.1 hj)
   ·intro g' e; simp [Value.ownBlock] at e; omega
   ·intro g' e e2
    have := (hlast.block _ e2).2
    simp [Value.ownBlock] at e; omega
   ·intro g' e; simp [Value.ownBlock] at e; omega
end Go.Proofs.YteepgehjkcahiaaGreat

namespace Go.Proofs.YteepgehjkcahiaaGreat
open Go.RowKit Go.Maps Go.Sort Go.Shelf
def keysI_ren : Go.Shelf.Ren := ⟨fun | 7 => 107 | 10 => 139 | n => n, fun | 23 => 101 | 26 => 3 | 3 => 100 | 28 => 157 | 0 => 0 | 27 => 156 | 33 => 179 | 4 => 4 | n => n, fun | n => n⟩
theorem keysI : Go.Proofs.SlLaysZI.n7 Tryz.prog keysI_ren := {
 mixed := by kernel_rfl
 f7 := ⟨Tryz.f107.name, by decide, Tryz.func107.trans (congrArg some (by kernel_rfl))⟩
 f10 := ⟨Tryz.f139.name, by decide, Tryz.func139.trans (congrArg some (by kernel_rfl))⟩
 t0 := Tryz.underlying0
 a0 := Tryz.isAgg0
 z0 := Tryz.sizeOf0
 v0 := Tryz.zeroValue0
 t4 := Tryz.underlying4
 a4 := Tryz.isAgg4
 z4 := Tryz.sizeOf4
 v4 := Tryz.zeroValue4
 t23 := Tryz.underlying101
 a23 := Tryz.isAgg101
 z23 := Tryz.sizeOf101
 v23 := Tryz.zeroValue101
 t26 := Tryz.underlying3
 a26 := Tryz.isAgg3
 z26 := Tryz.sizeOf3
 v26 := Tryz.zeroValue3
 t27 := Tryz.underlying156
 a27 := Tryz.isAgg156
 z27 := Tryz.sizeOf156
 v27 := Tryz.zeroValue156
 t28 := Tryz.underlying157
 a28 := Tryz.isAgg157
 z28 := Tryz.sizeOf157
 v28 := Tryz.zeroValue157
 t33 := Tryz.underlying179
 a33 := Tryz.isAgg179
 z33 := Tryz.sizeOf179
 v33 := Tryz.zeroValue179 }
def sortedI_ren : Go.Shelf.Ren := ⟨fun | 6 => 106 | 8 => 137 | 9 => 138 | 11 => 150 | 13 => 147 | 12 => 151 | 23 => 164 | 24 => 165 | 14 => 166 | 15 => 167 | 16 => 168 | 17 => 169 | 18 => 170 | 19 => 171 | 20 => 172 | 21 => 173 | 22 => 174 | 25 => 181 | 26 => 176 | 27 => 177 | 28 => 182 | 29 => 183 | 30 => 184 | 31 => 186 | n => n, fun | 26 => 3 | 28 => 157 | 24 => 22 | 0 => 0 | 3 => 3 | 37 => 184 | 48 => 188 | 50 => 140 | 4 => 4 | 40 => 215 | 39 => 214 | 45 => 220 | 5 => 5 | 9 => 9 | 51 => 230 | 55 => 234 | 57 => 238 | 58 => 239 | 33 => 179 | n => n, fun | n => n⟩
theorem sortedI : Go.Proofs.SlLaysZI.n6 Tryz.prog sortedI_ren := {
 mixed := by kernel_rfl
 f6 := ⟨Tryz.f106.name, by decide, Tryz.func106.trans (congrArg some (by kernel_rfl))⟩
 f8 := ⟨Tryz.f137.name, by decide, Tryz.func137.trans (congrArg some (by kernel_rfl))⟩
 f11 := ⟨Tryz.f150.name, by decide, Tryz.func150.trans (congrArg some (by kernel_rfl))⟩
 t0 := Tryz.underlying0
 a0 := Tryz.isAgg0
 z0 := Tryz.sizeOf0
 v0 := Tryz.zeroValue0
 t24 := Tryz.underlying22
 a24 := Tryz.isAgg22
 z24 := Tryz.sizeOf22
 v24 := Tryz.zeroValue22
 t26 := Tryz.underlying3
 a26 := Tryz.isAgg3
 z26 := Tryz.sizeOf3
 v26 := Tryz.zeroValue3
 t28 := Tryz.underlying157
 a28 := Tryz.isAgg157
 z28 := Tryz.sizeOf157
 v28 := Tryz.zeroValue157
 i26 := by kernel_rfl }
def sortI_ren : Go.Shelf.Ren := ⟨fun | 5 => 138 | 8 => 147 | 7 => 151 | 19 => 164 | 20 => 165 | 10 => 166 | 11 => 167 | 12 => 168 | 13 => 169 | 14 => 170 | 15 => 171 | 16 => 172 | 17 => 173 | 18 => 174 | 30 => 181 | 31 => 176 | 32 => 177 | 33 => 182 | 34 => 183 | 35 => 184 | 40 => 186 | n => n, fun | 23 => 22 | 25 => 3 | 3 => 3 | 32 => 184 | 22 => 22 | 0 => 0 | 44 => 188 | 46 => 140 | 4 => 4 | 36 => 215 | 35 => 214 | 41 => 220 | 5 => 5 | 9 => 9 | 53 => 230 | 57 => 234 | 63 => 238 | 64 => 239 | n => n, fun | n => n⟩
theorem sortI : Go.Proofs.SlLaysM.n5 Tryz.prog sortI_ren := {
 mixed := by kernel_rfl
 f5 := ⟨Tryz.f138.name, by decide, Tryz.func138.trans (congrArg some (by kernel_rfl))⟩
 f7 := ⟨Tryz.f151.name, by decide, Tryz.func151.trans (congrArg some (by kernel_rfl))⟩
 f8 := Tryz.func147.trans (congrArg some (by kernel_rfl))
 f10 := ⟨Tryz.f166.name, by decide, Tryz.func166.trans (congrArg some (by kernel_rfl))⟩
 f11 := ⟨Tryz.f167.name, by decide, Tryz.func167.trans (congrArg some (by kernel_rfl))⟩
 f12 := ⟨Tryz.f168.name, by decide, Tryz.func168.trans (congrArg some (by kernel_rfl))⟩
 f13 := ⟨Tryz.f169.name, by decide, Tryz.func169.trans (congrArg some (by kernel_rfl))⟩
 f14 := ⟨Tryz.f170.name, by decide, Tryz.func170.trans (congrArg some (by kernel_rfl))⟩
 f15 := ⟨Tryz.f171.name, by decide, Tryz.func171.trans (congrArg some (by kernel_rfl))⟩
 f16 := ⟨Tryz.f172.name, by decide, Tryz.func172.trans (congrArg some (by kernel_rfl))⟩
 f17 := ⟨Tryz.f173.name, by decide, Tryz.func173.trans (congrArg some (by kernel_rfl))⟩
 f18 := ⟨Tryz.f174.name, by decide, Tryz.func174.trans (congrArg some (by kernel_rfl))⟩
 f19 := Tryz.func164.trans (congrArg some (by kernel_rfl))
 f20 := Tryz.func165.trans (congrArg some (by kernel_rfl))
 f30 := ⟨Tryz.f181.name, by decide, Tryz.func181.trans (congrArg some (by kernel_rfl))⟩
 f31 := Tryz.func176.trans (congrArg some (by kernel_rfl))
 f32 := Tryz.func177.trans (congrArg some (by kernel_rfl))
 f33 := ⟨Tryz.f182.name, by decide, Tryz.func182.trans (congrArg some (by kernel_rfl))⟩
 f34 := ⟨Tryz.f183.name, by decide, Tryz.func183.trans (congrArg some (by kernel_rfl))⟩
 f35 := ⟨Tryz.f184.name, by decide, Tryz.func184.trans (congrArg some (by kernel_rfl))⟩
 f40 := ⟨Tryz.f186.name, by decide, Tryz.func186.trans (congrArg some (by kernel_rfl))⟩
 t0 := Tryz.underlying0
 a0 := Tryz.isAgg0
 z0 := Tryz.sizeOf0
 v0 := Tryz.zeroValue0
 t3 := Tryz.underlying3
 a3 := Tryz.isAgg3
 z3 := Tryz.sizeOf3
 v3 := Tryz.zeroValue3
 t4 := Tryz.underlying4
 a4 := Tryz.isAgg4
 z4 := Tryz.sizeOf4
 v4 := Tryz.zeroValue4
 t5 := Tryz.underlying5
 a5 := Tryz.isAgg5
 z5 := Tryz.sizeOf5
 v5 := Tryz.zeroValue5
 t9 := Tryz.underlying9
 a9 := Tryz.isAgg9
 z9 := Tryz.sizeOf9
 v9 := Tryz.zeroValue9
 t22 := Tryz.underlying22
 a22 := Tryz.isAgg22
 z22 := Tryz.sizeOf22
 v22 := Tryz.zeroValue22
 t23 := Tryz.underlying22
 a23 := Tryz.isAgg22
 z23 := Tryz.sizeOf22
 v23 := Tryz.zeroValue22
 t25 := Tryz.underlying3
 a25 := Tryz.isAgg3
 z25 := Tryz.sizeOf3
 v25 := Tryz.zeroValue3
 t32 := Tryz.underlying184
 a32 := Tryz.isAgg184
 z32 := Tryz.sizeOf184
 v32 := Tryz.zeroValue184
 t35 := Tryz.underlying214
 a35 := Tryz.isAgg214
 z35 := Tryz.sizeOf214
 v35 := Tryz.zeroValue214
 t36 := Tryz.underlying215
 a36 := Tryz.isAgg215
 z36 := Tryz.sizeOf215
 v36 := Tryz.zeroValue215
 t41 := Tryz.underlying220
 a41 := Tryz.isAgg220
 z41 := Tryz.sizeOf220
 v41 := Tryz.zeroValue220
 t44 := Tryz.underlying188
 a44 := Tryz.isAgg188
 z44 := Tryz.sizeOf188
 v44 := Tryz.zeroValue188
 t46 := Tryz.underlying140
 a46 := Tryz.isAgg140
 z46 := Tryz.sizeOf140
 v46 := Tryz.zeroValue140
 t53 := Tryz.underlying230
 a53 := Tryz.isAgg230
 z53 := Tryz.sizeOf230
 v53 := Tryz.zeroValue230
 t57 := Tryz.underlying234
 a57 := Tryz.isAgg234
 z57 := Tryz.sizeOf234
 v57 := Tryz.zeroValue234
 t63 := Tryz.underlying238
 a63 := Tryz.isAgg238
 z63 := Tryz.sizeOf238
 v63 := Tryz.zeroValue238
 t64 := Tryz.underlying239
 a64 := Tryz.isAgg239
 z64 := Tryz.sizeOf239
 v64 := Tryz.zeroValue239 }
def keysS_ren : Go.Shelf.Ren := ⟨fun | 7 => 69 | 10 => 119 | n => n, fun | 23 => 77 | 26 => 9 | 3 => 71 | 28 => 113 | 0 => 0 | 27 => 112 | 33 => 70 | 4 => 4 | n => n, fun | n => n⟩
theorem keysS : Go.Proofs.SlLaysZ.n7 Tryz.prog keysS_ren := {
 mixed := by kernel_rfl
 f7 := ⟨Tryz.f69.name, by decide, Tryz.func69.trans (congrArg some (by kernel_rfl))⟩
 f10 := ⟨Tryz.f119.name, by decide, Tryz.func119.trans (congrArg some (by kernel_rfl))⟩
 t0 := Tryz.underlying0
 a0 := Tryz.isAgg0
 z0 := Tryz.sizeOf0
 v0 := Tryz.zeroValue0
 t4 := Tryz.underlying4
 a4 := Tryz.isAgg4
 z4 := Tryz.sizeOf4
 v4 := Tryz.zeroValue4
 t23 := Tryz.underlying77
 a23 := Tryz.isAgg77
 z23 := Tryz.sizeOf77
 v23 := Tryz.zeroValue77
 t26 := Tryz.underlying9
 a26 := Tryz.isAgg9
 z26 := Tryz.sizeOf9
 v26 := Tryz.zeroValue9
 t27 := Tryz.underlying112
 a27 := Tryz.isAgg112
 z27 := Tryz.sizeOf112
 v27 := Tryz.zeroValue112
 t28 := Tryz.underlying113
 a28 := Tryz.isAgg113
 z28 := Tryz.sizeOf113
 v28 := Tryz.zeroValue113
 t33 := Tryz.underlying70
 a33 := Tryz.isAgg70
 z33 := Tryz.sizeOf70
 v33 := Tryz.zeroValue70 }
def sortedS_ren : Go.Shelf.Ren := ⟨fun | 6 => 68 | 8 => 117 | 9 => 118 | 11 => 145 | 13 => 147 | 12 => 146 | 23 => 164 | 24 => 165 | 14 => 155 | 15 => 156 | 16 => 157 | 17 => 158 | 18 => 159 | 19 => 160 | 20 => 161 | 21 => 162 | 22 => 163 | 25 => 175 | 26 => 176 | 27 => 177 | 28 => 178 | 29 => 179 | 30 => 180 | 31 => 185 | n => n, fun | 26 => 9 | 28 => 113 | 24 => 51 | 0 => 0 | 3 => 3 | 37 => 184 | 48 => 188 | 50 => 140 | 4 => 4 | 40 => 215 | 39 => 214 | 45 => 220 | 5 => 5 | 9 => 9 | 51 => 230 | 55 => 234 | 57 => 238 | 58 => 239 | 33 => 70 | n => n, fun | n => n⟩
theorem sortedS : Go.Proofs.SlLaysZ.n6 Tryz.prog sortedS_ren := {
 mixed := by kernel_rfl
 f6 := ⟨Tryz.f68.name, by decide, Tryz.func68.trans (congrArg some (by kernel_rfl))⟩
 f8 := ⟨Tryz.f117.name, by decide, Tryz.func117.trans (congrArg some (by kernel_rfl))⟩
 f11 := ⟨Tryz.f145.name, by decide, Tryz.func145.trans (congrArg some (by kernel_rfl))⟩
 t0 := Tryz.underlying0
 a0 := Tryz.isAgg0
 z0 := Tryz.sizeOf0
 v0 := Tryz.zeroValue0
 t24 := Tryz.underlying51
 a24 := Tryz.isAgg51
 z24 := Tryz.sizeOf51
 v24 := Tryz.zeroValue51
 t26 := Tryz.underlying9
 a26 := Tryz.isAgg9
 z26 := Tryz.sizeOf9
 v26 := Tryz.zeroValue9
 t28 := Tryz.underlying113
 a28 := Tryz.isAgg113
 z28 := Tryz.sizeOf113
 v28 := Tryz.zeroValue113
 i26 := by kernel_rfl }
def sortS_ren : Go.Shelf.Ren := ⟨fun | 6 => 118 | 8 => 147 | 9 => 146 | 19 => 164 | 20 => 165 | 21 => 155 | 22 => 156 | 23 => 157 | 24 => 158 | 25 => 159 | 26 => 160 | 27 => 161 | 28 => 162 | 29 => 163 | 36 => 175 | 31 => 176 | 32 => 177 | 37 => 178 | 38 => 179 | 39 => 180 | 41 => 185 | n => n, fun | 27 => 51 | 29 => 9 | 3 => 3 | 32 => 184 | 26 => 51 | 0 => 0 | 44 => 188 | 46 => 140 | 4 => 4 | 36 => 215 | 35 => 214 | 41 => 220 | 5 => 5 | 9 => 9 | 53 => 230 | 57 => 234 | 63 => 238 | 64 => 239 | n => n, fun | n => n⟩
theorem sortS : Go.Proofs.SlLaysM.n6 Tryz.prog sortS_ren := {
 mixed := by kernel_rfl
 f6 := ⟨Tryz.f118.name, by decide, Tryz.func118.trans (congrArg some (by kernel_rfl))⟩
 f8 := Tryz.func147.trans (congrArg some (by kernel_rfl))
 f9 := ⟨Tryz.f146.name, by decide, Tryz.func146.trans (congrArg some (by kernel_rfl))⟩
 f19 := Tryz.func164.trans (congrArg some (by kernel_rfl))
 f20 := Tryz.func165.trans (congrArg some (by kernel_rfl))
 f21 := ⟨Tryz.f155.name, by decide, Tryz.func155.trans (congrArg some (by kernel_rfl))⟩
 f22 := ⟨Tryz.f156.name, by decide, Tryz.func156.trans (congrArg some (by kernel_rfl))⟩
 f23 := ⟨Tryz.f157.name, by decide, Tryz.func157.trans (congrArg some (by kernel_rfl))⟩
 f24 := ⟨Tryz.f158.name, by decide, Tryz.func158.trans (congrArg some (by kernel_rfl))⟩
 f25 := ⟨Tryz.f159.name, by decide, Tryz.func159.trans (congrArg some (by kernel_rfl))⟩
 f26 := ⟨Tryz.f160.name, by decide, Tryz.func160.trans (congrArg some (by kernel_rfl))⟩
 f27 := ⟨Tryz.f161.name, by decide, Tryz.func161.trans (congrArg some (by kernel_rfl))⟩
 f28 := ⟨Tryz.f162.name, by decide, Tryz.func162.trans (congrArg some (by kernel_rfl))⟩
 f29 := ⟨Tryz.f163.name, by decide, Tryz.func163.trans (congrArg some (by kernel_rfl))⟩
 f31 := Tryz.func176.trans (congrArg some (by kernel_rfl))
 f32 := Tryz.func177.trans (congrArg some (by kernel_rfl))
 f36 := ⟨Tryz.f175.name, by decide, Tryz.func175.trans (congrArg some (by kernel_rfl))⟩
 f37 := ⟨Tryz.f178.name, by decide, Tryz.func178.trans (congrArg some (by kernel_rfl))⟩
 f38 := ⟨Tryz.f179.name, by decide, Tryz.func179.trans (congrArg some (by kernel_rfl))⟩
 f39 := ⟨Tryz.f180.name, by decide, Tryz.func180.trans (congrArg some (by kernel_rfl))⟩
 f41 := ⟨Tryz.f185.name, by decide, Tryz.func185.trans (congrArg some (by kernel_rfl))⟩
 t0 := Tryz.underlying0
 a0 := Tryz.isAgg0
 z0 := Tryz.sizeOf0
 v0 := Tryz.zeroValue0
 t3 := Tryz.underlying3
 a3 := Tryz.isAgg3
 z3 := Tryz.sizeOf3
 v3 := Tryz.zeroValue3
 t4 := Tryz.underlying4
 a4 := Tryz.isAgg4
 z4 := Tryz.sizeOf4
 v4 := Tryz.zeroValue4
 t5 := Tryz.underlying5
 a5 := Tryz.isAgg5
 z5 := Tryz.sizeOf5
 v5 := Tryz.zeroValue5
 t9 := Tryz.underlying9
 a9 := Tryz.isAgg9
 z9 := Tryz.sizeOf9
 v9 := Tryz.zeroValue9
 t26 := Tryz.underlying51
 a26 := Tryz.isAgg51
 z26 := Tryz.sizeOf51
 v26 := Tryz.zeroValue51
 t27 := Tryz.underlying51
 a27 := Tryz.isAgg51
 z27 := Tryz.sizeOf51
 v27 := Tryz.zeroValue51
 t29 := Tryz.underlying9
 a29 := Tryz.isAgg9
 z29 := Tryz.sizeOf9
 v29 := Tryz.zeroValue9
 t32 := Tryz.underlying184
 a32 := Tryz.isAgg184
 z32 := Tryz.sizeOf184
 v32 := Tryz.zeroValue184
 t35 := Tryz.underlying214
 a35 := Tryz.isAgg214
 z35 := Tryz.sizeOf214
 v35 := Tryz.zeroValue214
 t36 := Tryz.underlying215
 a36 := Tryz.isAgg215
 z36 := Tryz.sizeOf215
 v36 := Tryz.zeroValue215
 t41 := Tryz.underlying220
 a41 := Tryz.isAgg220
 z41 := Tryz.sizeOf220
 v41 := Tryz.zeroValue220
 t44 := Tryz.underlying188
 a44 := Tryz.isAgg188
 z44 := Tryz.sizeOf188
 v44 := Tryz.zeroValue188
 t46 := Tryz.underlying140
 a46 := Tryz.isAgg140
 z46 := Tryz.sizeOf140
 v46 := Tryz.zeroValue140
 t53 := Tryz.underlying230
 a53 := Tryz.isAgg230
 z53 := Tryz.sizeOf230
 v53 := Tryz.zeroValue230
 t57 := Tryz.underlying234
 a57 := Tryz.isAgg234
 z57 := Tryz.sizeOf234
 v57 := Tryz.zeroValue234
 t63 := Tryz.underlying238
 a63 := Tryz.isAgg238
 z63 := Tryz.sizeOf238
 v63 := Tryz.zeroValue238
 t64 := Tryz.underlying239
 a64 := Tryz.isAgg239
 z64 := Tryz.sizeOf239
 v64 := Tryz.zeroValue239 }
theorem keysI_ok (mb : Option Nat) (W : World) : Calls Tryz.prog 107 #[.map mb] W fun e w' => e = .returned (.func (.func 139) #[] #[.pointer (some ⟨W.heap.size, 0, none⟩)]) ∧ w' = W.alloc (.cells #[.map mb] 101) :=
 callsIn_wide.1 (AnyZI.keys_in keysI Fence.wide 5 trivial rfl mb W)
theorem sortsI (m : Nat) : AnyZI.SortsIn Tryz.prog sortedI_ren Fence.wide m :=
 ⟨fun blk off cap ss W hH hblk hsz => callsIn_wide.2 (AnyM.slices_Sort_int sortI blk off cap ss W hH hblk hsz),
  fun p cap W => callsIn_wide.2 (AnyM.slices_Sort_int_none sortI p cap W)⟩
theorem intKeys_dataI (L : List (Nat × Value)) : intKeys (dataI L) = keysL L := by
 simp only [dataI, intKeys, keysL, List.map_map]
 rfl
theorem keysL_srt {L : List (Nat × Value)} (h : Srt ltI L) : (keysL L).Pairwise fun a b => decide (a ≤ b) = true := by
 unfold keysL
 rw [List.pairwise_map]
 refine List.Pairwise.imp ?_ h
 intro a b hab
 simp only [ltI, decide_eq_true_eq] at hab ⊢
 omega
theorem sortI_eq {ss : List Int} {L : List (Nat × Value)} (h : Srt ltI L) (hp : ss.Perm (keysL L)) : ss.mergeSort (fun x y => decide (x ≤ y)) = keysL L := by
 refine List.Perm.eq_of_pairwise (le := fun a b => decide (a ≤ b) = true) (fun a b _ _ h1 h2 => ?_) ?_ (keysL_srt h) ((List.mergeSort_perm _ _).trans hp)
 ·simp only [decide_eq_true_eq] at h1 h2
  omega
 ·exact List.pairwise_mergeSort (fun a b c h1 h2 => by simp only [decide_eq_true_eq] at *; omega) (fun a b => by simp only [Bool.or_eq_true, decide_eq_true_eq]; omega) ss
set_option maxHeartbeats 1000000 in
theorem sortedI_ok (w : World) {b : Nat} {L : List (Nat × Value)} (hown : MapI w b L) (hs : Srt ltI L) (hl : L.length ≤ 1000000) :
  Calls Tryz.prog 106 #[.func (.func 139) #[] #[.pointer (some ⟨w.heap.size, 0, none⟩)]] (w.alloc (.cells #[.map (some b)] 101)) fun e w' => ∃ v, e = .returned v ∧ OwZ w' (w.heap.size + 1) v (keysL L) ∧ Upd [] (w.alloc (.cells #[.map (some b)] 101)) w' := by
 have hbl := hown.lt
 have hsz : Maps.size (dataI L) = L.length := by rw [dataI_eq, size_dataA]
 have hseq : SeqGives Fence.wide 2 Tryz.prog 139 #[.pointer (some ⟨w.heap.size, 0, none⟩)] encZ (fun ss => ss.Perm (intKeys (dataI L))) (Maps.size (dataI L)) (w.alloc (.cells #[.map (some b)] 101)) :=
  AnyZI.keys_gives (ρ := keysI_ren) { keysI with } Fence.wide _ trivial rfl (by omega) w.heap.size b L.length (dataI L) _ (by simp) (by simp) (by
   obtain ⟨es, clock, hb, Ft, hs, hD⟩ := hown
   exact ⟨es, clock, (Below.heap_alloc _ _ b hbl).trans hb, Ft, hs, hD⟩)
 have cS := AnyZI.sorted_in sortedI Fence.wide 5 trivial trivial trivial trivial rfl (by omega) (sortsI _) (enters_of Tryz.func138 (by kernel_rfl) rfl) 139 #[.pointer (some ⟨w.heap.size, 0, none⟩)] trivial (enters_of Tryz.func139 (by kernel_rfl) rfl) _ _ (by rw [hsz]; unfold maxLen; omega) (by rw [hsz]; omega) _ hseq
 refine (callsIn_wide.1 cS).mono ?_
 rintro e w' ⟨v, ss, rfl, hS, hrow, hnil, hb⟩
 rw [intKeys_dataI] at hS
 have e1 := sortI_eq hs hS
 have e2 : ss.length = (keysL L).length := hS.length_eq
 refine ⟨v, rfl, ?_, ?_⟩
 ·have e3 : (ss.mergeSort (fun x y => decide (x ≤ y))).map encZ = flatG cZ (keysL L) := by rw [e1, flatZ]
  rw [e3, e2] at hrow
  have e4 : (w.alloc (.cells #[.map (some b)] 101)).heap.size = w.heap.size + 1 := by simp
  rw [e4] at hrow
  exact hrow
 ·exact ⟨hb.os, hb.output, hb.size, fun k hk _ => hb.block k (by exact hk)⟩
set_option maxRecDepth 100000 in
theorem pend_ok (w : World) (p : Nat) (D : Dev) (sb mb : Nat) (L : List (Nat × Value)) (ops : Int) (h : DevR w p D sb mb L ops) : Calls Tryz.prog 61 #[.pointer (some ⟨p, 0, none⟩)] w (PendPost w (keysL L)) := by
 have c1 := cell_blk h.box 1
 simp only [List.getElem?_toArray, List.getElem?_cons_zero, List.getElem?_cons_succ] at c1
 have hLn := h.len
 have hn2 := h.n2
 have HS := Lib.hid (sortedI_ok w h.map h.srt (by omega))
 clear h
 go_enter Tryz.func61, Tryz.ntmps61
 go_wp2_with fail
 refine (keysI_ok _ _).mono ?_
 rintro e w1 ⟨rfl, rfl⟩
 go_wp2_with fail
 refine HS.out.mono ?_
 rintro e w2 ⟨v, rfl, hv, hu⟩
 have HV := Lib.hid (And.intro hv hu)
 clear hv hu
 go_wp2_with fail
 go_ret
 exact ⟨v, rfl, HV.out.1.base (Nat.le_succ _), ((Upd.refl [] w).alloc _).trans HV.out.2⟩
theorem crash_ok (w : World) {p : Nat} {D : Dev} {F : List Nat} (h : DevAt w p D F) (hwr : D.wr ≤ 137438953472) {pv : Value} {picks : List Int} (hp : RdZ w pv picks) (hpk : ∀ x ∈ picks, -9223372036854775808 ≤ x ∧ x ≤ 9223372036854775807) (hpF : picks ≠ [] → ∀ b, pv.ownBlock = some b → b ∉ F) :
  Calls Tryz.prog 22 #[.pointer (some ⟨p, 0, none⟩), pv] w (CrashPost w p D F) := crash_of pend_ok w h hwr hp hpk hpF
theorem keysS_ok (mb : Option Nat) (W : World) : Calls Tryz.prog 69 #[.map mb] W fun e w' => e = .returned (.func (.func 119) #[] #[.pointer (some ⟨W.heap.size, 0, none⟩)]) ∧ w' = W.alloc (.cells #[.map mb] 77) :=
 callsIn_wide.1 (AnyZ.keys_in keysS Fence.wide 5 trivial rfl mb W)
theorem sortsS (m : Nat) : AnyZ.SortsIn Tryz.prog sortedS_ren Fence.wide m :=
 ⟨fun blk off cap ss W hH hblk hsz => callsIn_wide.2 (AnyM.slices_Sort_string sortS blk off cap ss W hH hblk hsz),
  fun p cap W => callsIn_wide.2 (AnyM.slices_Sort_string_none sortS p cap W)⟩
def cT (s : Bs) : List Value := [.string ⟨s.toArray⟩]
abbrev OwT (w : World) (base : Nat) (v : Value) (l : List Bs) : Prop := OwnG cT 9 1 w base v l
theorem flatT (l : List Bs) : flatG cT l = l.map encStr := by
 induction l with
 | nil => rfl
 | cons x l ih => rw [List.map_cons, ← ih]; rfl
def namesL (L : List (Bs × Value)) : List Bs := L.map (·.1)
theorem strKeys_dataA (L : List (Bs × Value)) : strKeys (dataA Lit.string L) = namesL L := by
 simp only [dataA, strKeys, namesL, List.map_map]
 rfl
theorem bytesLess_lt : ∀ a b : Bs, Op.bytesLess a b = true ↔ a < b
 | [], [] => by simp [Op.bytesLess]
 | [], b :: y => by simp [Op.bytesLess]
 | a :: x, [] => by simp [Op.bytesLess]
 | a :: x, b :: y => by
  rw [List.cons_lt_cons_iff, ← bytesLess_lt x y]
  simp [Op.bytesLess]
theorem namesL_srt {L : List (Bs × Value)} (h : Srt ltN L) : (namesL L).Pairwise fun a b => decide (a ≤ b) = true := by
 unfold namesL
 rw [List.pairwise_map]
 refine List.Pairwise.imp ?_ h
 intro a b hab
 simp only [decide_eq_true_eq]
 intro hlt
 have := (bytesLess_lt _ _).2 hlt
 have h2 := ordN.asymm hab
 rw [show ltN b.1 a.1 = true from this] at h2
 cases h2
theorem le_antisymm_B {a b : Bs} (h1 : a ≤ b) (h2 : b ≤ a) : a = b := by
 rcases ordN.total a b with h | h | h
 ·exact h
 ·exact absurd ((bytesLess_lt _ _).1 h) h2
 ·exact absurd ((bytesLess_lt _ _).1 h) h1
theorem le_trans_B {a b c : Bs} (h1 : a ≤ b) (h2 : b ≤ c) : a ≤ c := by
 intro h
 rcases ordN.total a b with e | e | e
 ·subst e; exact h2 h
 ·exact h2 ((bytesLess_lt _ _).1 (ordN.trans _ _ _ ((bytesLess_lt _ _).2 h) e))
 ·exact h1 ((bytesLess_lt _ _).1 e)
theorem le_total_B (a b : Bs) : a ≤ b ∨ b ≤ a := by
 by_cases h : a ≤ b
 ·exact .inl h
 ·refine .inr fun g => ?_
  have h1 : b < a := Classical.not_not.1 h
  have := ordN.asymm ((bytesLess_lt _ _).2 h1)
  rw [show ltN a b = true from (bytesLess_lt _ _).2 g] at this
  cases this
theorem sortS_eq {ss : List Bs} {L : List (Bs × Value)} (h : Srt ltN L) (hp : ss.Perm (namesL L)) : ss.mergeSort (fun x y => decide (x ≤ y)) = namesL L := by
 refine List.Perm.eq_of_pairwise (le := fun a b => decide (a ≤ b) = true) (fun a b _ _ h1 h2 => ?_) ?_ (namesL_srt h) ((List.mergeSort_perm _ _).trans hp)
 ·simp only [decide_eq_true_eq] at h1 h2
  exact le_antisymm_B h1 h2
 ·exact List.pairwise_mergeSort (fun a b c h1 h2 => by simp only [decide_eq_true_eq] at *; exact le_trans_B h1 h2) (fun a b => by simp only [Bool.or_eq_true, decide_eq_true_eq]; exact le_total_B a b) ss
set_option maxHeartbeats 1000000 in
theorem sortedS_ok (w : World) {b : Nat} {L : List (Bs × Value)} (hown : MapS w b L) (hs : Srt ltN L) (hl : L.length ≤ 1000000) :
  Calls Tryz.prog 68 #[.func (.func 119) #[] #[.pointer (some ⟨w.heap.size, 0, none⟩)]] (w.alloc (.cells #[.map (some b)] 77)) fun e w' => ∃ v, e = .returned v ∧ OwT w' (w.heap.size + 1) v (namesL L) ∧ Upd [] (w.alloc (.cells #[.map (some b)] 77)) w' := by
 have hbl := hown.lt
 have hsz : Maps.size (dataA Lit.string L) = L.length := by rw [size_dataA]
 have hseq : SeqGives Fence.wide 2 Tryz.prog 119 #[.pointer (some ⟨w.heap.size, 0, none⟩)] encStr (fun ss => ss.Perm (strKeys (dataA Lit.string L))) (Maps.size (dataA Lit.string L)) (w.alloc (.cells #[.map (some b)] 77)) :=
  AnyZ.keys_gives (ρ := keysS_ren) { keysS with } Fence.wide _ trivial rfl (by omega) w.heap.size b L.length (dataA Lit.string L) _ (by simp) (by simp) (by
   obtain ⟨es, clock, hb, Ft, hs, hD⟩ := hown
   exact ⟨es, clock, (Below.heap_alloc _ _ b hbl).trans hb, Ft, hs, hD⟩)
 have cS := AnyZ.sorted_in sortedS Fence.wide 5 trivial trivial trivial trivial rfl (by omega) (sortsS _) (enters_of Tryz.func118 (by kernel_rfl) rfl) 119 #[.pointer (some ⟨w.heap.size, 0, none⟩)] trivial (enters_of Tryz.func119 (by kernel_rfl) rfl) _ _ (by rw [hsz]; unfold maxLen; omega) (by rw [hsz]; omega) _ hseq
 refine (callsIn_wide.1 cS).mono ?_
 rintro e w' ⟨v, ss, rfl, hS, hrow, hnil, hb⟩
 rw [strKeys_dataA] at hS
 have e1 := sortS_eq hs hS
 have e2 : ss.length = (namesL L).length := hS.length_eq
 refine ⟨v, rfl, ?_, ?_⟩
 ·have e3 : (ss.mergeSort (fun x y => decide (x ≤ y))).map encStr = flatG cT (namesL L) := by rw [e1, flatT]
  rw [e3, e2] at hrow
  have e4 : (w.alloc (.cells #[.map (some b)] 77)).heap.size = w.heap.size + 1 := by simp
  rw [e4] at hrow
  exact hrow
 ·exact ⟨hb.os, hb.output, hb.size, fun k hk _ => hb.block k (by exact hk)⟩
end Go.Proofs.YteepgehjkcahiaaGreat

namespace Go.Proofs.YteepgehjkcahiaaGreat
open Go.RowKit Go.Maps
theorem TT4 : RowT cT 1 16 51 9 where
 len := fun _ => rfl
 pos := by omega
 und := Tryz.underlying51
 info := by
  obtain ⟨i, h, h1, h2, h3⟩ := info_parts (show (Tryz.prog.info? 9).map (fun i => (i.zero, i.size, i.bytes)) = some (some (.string ⟨#[]⟩), 1, 16) by kernel_rfl)
  exact ⟨i, _, h, h1, h2, h3, rfl⟩
def dirAt (fs : Files) (i : Nat) : Bs := magicF ++ putU fs.length ++ (fs.take i).flatMap entB
theorem dirAt_succ {fs : Files} {i : Nat} {p : Bs × Fil} (h : fs[i]? = some p) : dirAt fs (i + 1) = (dirAt fs i ++ (putU p.1.length ++ p.1)) ++ filB p.2 := by
 unfold dirAt
 rw [List.take_add_one, h]
 simp [entB]
theorem dirAt_all (fs : Files) : dirAt fs fs.length = dirRaw fs := by unfold dirAt dirRaw; rw [List.take_length]
theorem dirAt_le {room : Nat} {fs : Files} (h : FilesOk room fs) (hr : room ≤ 512) (i : Nat) : (dirAt fs i).length ≤ 8000 := by
 refine Nat.le_trans ?_ (h.raw_len hr)
 unfold dirAt dirRaw
 simp only [List.length_append]
 have : ((fs.take i).flatMap entB).length ≤ (fs.flatMap entB).length := by
  conv => rhs; rw [← List.take_append_drop i fs, List.flatMap_append, List.length_append]
  omega
 omega
theorem FilOk.small {room : Nat} {f : Fil} (h : FilOk room f) (hr : room ≤ 512) : Small f.runs 1000 := by
 have h1 := runs_few (canon_pos h.canon)
 have h2 : lenR f.runs ≤ 64 := by rw [h.len]; have := h.most; unfold blocksN; omega
 exact ⟨fun x hx => by have := h.le x hx; omega, by omega, by omega⟩
set_option maxRecDepth 100000 in
set_option maxHeartbeats 4000000 in
theorem laid_ok (w : World) {room mf : Nat} {fs : Files} {A : Bs → Nat} {R : Bs → Value} {FM : List Nat} (h : FilR w mf fs A R FM) (hok : FilesOk room fs) (hr : room ≤ 512) :
  Calls Tryz.prog 54 #[.map (some mf)] w fun e w' => ∃ v, e = .returned v ∧ Ow w' w.heap.size v (dirB fs) ∧ Upd [] w w' := by
 have H := Lib.hid h
 have hL : (entsL fs A).length = fs.length := by simp [entsL]
 have HK := Lib.hid fun (X : World) (B : Nat) (ty : TypeId) (fz : Nat × Nat) (hB : X.heap[B]? = some (.cells #[.int .u8 102, .int .u8 105, .int .u8 108, .int .u8 101, .int .u8 115] ty fz)) => putUint_ok X (show Rd X (.slice (some ⟨B, 0, none⟩) 5 5) magicF from rd_new (l := magicF) hB (by decide)) fs.length (by have := hok.few; omega) (by decide)
 have HM := Lib.hid fun (X : World) (u : Upd [] w X) => (show MapS X mf (entsL fs A) from owns_upd h.map u (by simp))
 have hn64 := hok.few
 have hsz : Maps.size (dataA Lit.string (entsL fs A)) = fs.length := by rw [size_dataA, hL]
 have hcv : IntKind.u64.wrap ((fs.length : Nat) : Int) = (fs.length : Int) := by rw [IntKind.wrap_u64]; omega
 obtain ⟨L, hLL⟩ : ∃ L, L = fs.length := ⟨_, rfl⟩
 have HLL := Lib.hid hLL
 rw [← hLL] at hsz hcv hn64 HK
 have hLb : (L : Int) ≤ 64 := by omega
 clear h hL hLL
 have hcvt := fun W : World => Go.Lib.run_convert_bytes_const W 32 5 #[.int .u8 102, .int .u8 105, .int .u8 108, .int .u8 101, .int .u8 115] 5 5 T8.und Tryz.underlying5
 have hu1 : Upd [] w (w.alloc (.cells #[.int .u8 102, .int .u8 105, .int .u8 108, .int .u8 101, .int .u8 115] 5 (5, 6))) := (Upd.refl [] w).alloc _
 have hb1 := heap_top w (.cells #[.int .u8 102, .int .u8 105, .int .u8 108, .int .u8 101, .int .u8 115] 5 (5, 6))
 go_enter Tryz.func54, Tryz.ntmps54
 have hlen := World.ownsMap.len (HM.out _ hu1) Tryz.underlying77 3
 rw [hsz] at hlen
 go_wp2_with fail
 generalize w.alloc (.cells #[.int .u8 102, .int .u8 105, .int .u8 108, .int .u8 101, .int .u8 115] 5 (5, 6)) = w1 at *
 refine (HK.out _ _ _ _ hb1).mono ?_
 rintro e w2 ⟨v2, rfl, ho2, hu2⟩
 obtain ⟨a2, c2, m2, hm2, rfl⟩ := ho2.sliceM
 have hU2 := hu1.trans hu2
 have HKS := keysS_ok (some mf) w2
 have HSS := sortedS_ok w2 (HM.out w2 hU2) (entsL_srt hok.srt A) (by simp [entsL]; have := hok.few; omega)
 have H2 := Lib.hid (And.intro (ho2.base hu1.size) hU2)
 clear ho2 hu1 hu2 hU2 hb1 hcvt hm2 hlen
 go_wp2_with fail
 refine HKS.mono ?_
 rintro e w3 ⟨rfl, rfl⟩
 go_wp2_with fail
 refine HSS.mono ?_
 rintro e w4 ⟨v4, rfl, ho4, hu4⟩
 have hnl : (namesL (entsL fs A)).length = L := by rw [HLL.out]; simp [namesL, entsL]
 have hU4 : Upd [] w w4 := (H2.out.2.alloc _).trans hu4
 obtain ⟨a4, c4, m4, hm4, rfl⟩ := ho4.sliceM
 rw [hnl] at hm4
 rw [hm4] at ho4 ⊢
 clear hm4
 have HROW := Lib.hid ho4
 have H4 := Lib.hid (And.intro (H2.out.1.upd (((Upd.refl [] w2).alloc _).trans hu4) (by simp)) hU4)
 clear ho4 hu4 hU4 hnl HKS HSS
 go_wp2_with fail
 go_loopg [3, 16] L (fun gh v3 v16 wr => ∃ (i : Nat) (a3 : Option Addr) (m3 c3 : Nat), v3 = .slice a3 m3 c3 ∧ v16 = .int .i64 i ∧ i ≤ L ∧ gh = L - i ∧ Hid (Ow wr w.heap.size (.slice a3 m3 c3) (dirAt fs i) ∧ Upd [] w wr ∧ Upd [] w4 wr))
 case atStart => exact ⟨0, a2, m2, c2, rfl, rfl, Nat.zero_le _, rfl, Lib.hid ⟨by have := H4.out.1; rw [HLL.out] at this; simpa [dirAt] using this, H4.out.2, Upd.refl _ _⟩⟩
 case round =>
  obtain ⟨i, a3, m3, c3, rfl, rfl, hi, rfl, HR⟩ := hrel
  by_cases hiL : i < L
  ·have hiL' : (i : Int) < (L : Int) := by omega
   obtain ⟨p, hp⟩ : ∃ p, fs[i]? = some p := ⟨_, List.getElem?_eq_getElem (by rw [← HLL.out]; exact hiL)⟩
   obtain ⟨gn, rfl, dn⟩ : ∃ gn, a4 = some ⟨gn, 0, none⟩ ∧ wr.cell? ⟨gn, i, none⟩ = some (.string ⟨p.1.toArray⟩) := by
    obtain ⟨-, -, -, hat⟩ := OwnG.at TT4 (HROW.out.upd HR.out.2.2 (by simp))
    obtain ⟨gn, e1, -, -, hc⟩ := hat i (by simp [namesL, entsL]; rw [← HLL.out]; exact hiL)
    refine ⟨gn, e1, ?_⟩
    have h5 := hc 0 (.string ⟨p.1.toArray⟩) (by
     have : (namesL (entsL fs A))[i]? = some p.1 := by simp [namesL, entsL, hp]
     obtain ⟨_, h6⟩ := List.getElem?_eq_some_iff.1 this
     rw [h6]; rfl)
    simpa using h5
   have hpm : p ∈ fs := List.mem_of_getElem? hp
   have hnm := hok.name p hpm
   have HPT := Lib.hid fun (X : World) (u : Upd [] wr X) => putText_ok X ((OwnG.rd T8 (HR.out.1.upd u (by simp))).b) ⟨p.1.toArray⟩ (by show p.1.toArray.size ≤ _; simp; omega) (by have := dirAt_le hok hr i; omega)
   have hmap := H.out.map
   have HLK := Lib.hid fun (X : World) (u : Upd [] wr X) => MapS.look (HM.out X (HR.out.2.1.trans u)) Tryz.underlying77 (z := .pointer none) (by kernel_rfl) ⟨p.1.toArray⟩ (by show p.1.toArray.size ≤ _; unfold maxLen; simp; omega)
   have HBY := Lib.hid fun (X : World) (u : Upd [] wr X) => ibytes_ok X ((H.out.node p hpm).upd (HR.out.2.1.trans u) (by simp) (by simp)) (hok.ok p hpm).most ((hok.ok p hpm).small hr)
   have hga : (getA (entsL fs A) p.1).getD (.pointer none) = ptA (A p.1) := by
    rw [getA_ents, getA_of_mem ordN hok.srt hpm]; rfl
   rw [show (⟨p.1.toArray⟩ : ByteArray).data.toList = p.1 by simp, hga] at HLK
   have hl0 := HLK.out wr.drew (Upd.refl [] wr).drew
   have HPP := Lib.hid hp
   have hle := dirAt_le hok hr i
   have hfl : (filB p.2).length ≤ 10000 := by
    have h1 := dirAt_le hok hr (i + 1)
    rw [dirAt_succ hp] at h1
    simp only [List.length_append] at h1
    omega
   have hpl : (putU (⟨p.1.toArray⟩ : ByteArray).size).length ≤ 10 := putU_len64 (by show p.1.toArray.size < _; simp; omega)
   have HFL := Lib.hid (show (dirAt fs i ++ (putU (⟨p.1.toArray⟩ : ByteArray).size ++ p.1)).length ≤ 9000 ∧ (filB p.2).length ≤ 10000 by
    refine ⟨?_, hfl⟩
    simp only [List.length_append]
    omega)
   clear hp hmap hga hle hfl hnm hpl
   go_wp2_with fail
   go_region_held3 (fun _ => True)
    (trivial)
    (first
     | (go_at_call 89; (with_reducible refine (HPT.out _ ?_).mono ?_); (exact (Upd.refl [] wr).drew); rintro e w6 ⟨v6, rfl, ho6, hu6⟩; obtain ⟨a6, c6, m6, hm6, rfl⟩ := ho6.sliceM; have hv6 : Upd [] wr w6 := (Upd.refl [] wr).drew.trans hu6; have HO6 := Lib.hid ho6; have hl6 := HLK.out w6 hv6; clear hm6)
     | (go_at_call 90; (with_reducible refine (HBY.out _ hv6).mono ?_); rintro e w7 ⟨v7, rfl, ho7, hu7⟩; obtain ⟨a7, c7, m7, hm7, rfl⟩ := ho7.sliceM; have HM7 := Lib.hid hm7; have HO7 := Lib.hid ho7; clear hm7)
     | (refine step_append_G T8 (by rfl) _ _ (by rfl) (base := wr.drew.heap.size) (v := .slice a6 m6 c6) (A := a7) (c := c7) (r := filB p.2) (by rfl) (HO6.out.upd hu7 (by simp)) (by rw [HM7.out]; rfl) (Ow.rd HO7.out).src (one8 _) ?_ ?_ ?_ ?_; (have := HFL.out; omega); (have := HFL.out; omega); (exact (hv6.trans hu7).size); intro v8 w8 ho8 hg8 _; obtain ⟨a8, c8, m8, hm8, rfl⟩ := ho8.sliceM; have hv8 : Upd [] wr w8 := (hv6.trans hu7).grown hg8 (fun g hg => (HO6.out.block g hg).1); have HO8 := Lib.hid ho8; clear hm8))
   all_goals
    go_wp2_with fail
    go_roundg (L - (i + 1))
    case measure => omega
    case rel =>
     refine ⟨i + 1, a8, m8, c8, rfl, by simp, by omega, rfl, Lib.hid ⟨?_, HR.out.2.1.trans hv8, HR.out.2.2.trans hv8⟩⟩
     rw [dirAt_succ HPP.out]
     have h1 := HO8.out.base (b := w.heap.size) HR.out.2.1.size
     exact h1
  ·obtain rfl : i = L := by omega
   have hiL' : ¬ (i : Int) < (i : Int) := by omega
   have hle := dirAt_le hok hr i
   obtain ⟨ga, e1, -⟩ : ∃ m, m3 = m ∧ True := ⟨m3, rfl, trivial⟩
   have hm3 : m3 = (dirAt fs i).length := by
    obtain ⟨h1, -⟩ := OwnG.at T8 HR.out.1
    exact h1
   obtain ⟨k, hk⟩ : ∃ k, k = 8192 - m3 := ⟨_, rfl⟩
   have hsub : IntKind.i64.wrap (8192 - (m3 : Int)) = (k : Int) := by rw [IntWalk.i64_in _ (by omega)]; omega
   have HM3 := Lib.hid (And.intro hm3 (And.intro hk hle))
   clear hm3 hk hle e1
   go_wp2_with (refine wpList_append_zeros rfl _ _ rfl (l := dirAt fs i) (k := k) rfl HR.out.1 (by simp [dirAt, magicF]) rfl (by have := HM3.out; omega) HR.out.2.1.size ?_)
   intro v8 w8 ho8 hg8 _
   obtain ⟨a8, c8, m8, hm8, rfl⟩ := ho8.sliceM
   have hu8 : Upd [] w w8 := HR.out.2.1.grown hg8 (fun g hg => (HR.out.1.block g hg).1)
   have HO8 := Lib.hid ho8
   clear hm8 ho8 hg8
   go_wp2_with fail
   go_ret
   refine ⟨_, rfl, ?_, hu8⟩
   have h1 := HO8.out
   have e1 : dirAt fs i ++ List.replicate k 0 = dirB fs := by
    unfold dirB
    rw [HM3.out.2.1, HM3.out.1, HLL.out, dirAt_all]
   rw [e1] at h1
   exact h1
end Go.Proofs.YteepgehjkcahiaaGreat
