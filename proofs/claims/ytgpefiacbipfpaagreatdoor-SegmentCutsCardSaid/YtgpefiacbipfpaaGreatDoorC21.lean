/- Blocks are given back: Give. slices.Sorted and maps.Keys: the library's contracts at this program (laid in plain words by the kit's tool). A directory as bytes, laid. FS in memory; use, named, ended. -/
import Derived.Shelf.SlIter.Nil
import Derived.Shelf.SlIterI.Nil
import Derived.Shelf.SortM.Plain
import Derived.Shelf.SortM.SortNone
import Derived.Deep.DeepCutAuto
import Derived.Test.YtgpefiacbipfpaaGreatDoorC20
import Derived.Test.YtgpefiacbipfpaaGreatDoorC17
import Derived.Test.YtgpefiacbipfpaaGreatDoorC06
import Derived.Test.YtgpefiacbipfpaaGreatDoorC18
import Derived.Test.YtgpefiacbipfpaaGreatDoorC07
namespace Go.Proofs.YtgpefiacbipfpaaGreatDoor
open Go.RowKit Go.Maps
def clearL (l : List Bool) (rs : List Run) : List Bool := (expand rs).foldl (fun l i => l.set i false) l
theorem clearL_len (l : List Bool) (rs : List Run) : (clearL l rs).length = l.length := by
 unfold clearL
 generalize expand rs = L
 induction L generalizing l with
 | nil => rfl
 | cons i L ih => rw [List.foldl_cons, ih]; simp
theorem clearL_get (l : List Bool) (rs : List Run) (i : Nat) : (clearL l rs)[i]? = if i ∈ expand rs then l[i]?.map (fun _ => false) else l[i]? := by
 unfold clearL
 generalize expand rs = L
 induction L generalizing l with
 | nil => simp
 | cons j L ih =>
  rw [List.foldl_cons, ih]
  by_cases h : i = j
  ·subst h
   by_cases hl : i < l.length
   ·simp [hl]
   ·simp [hl]
  ·have h' : j ≠ i := fun e => h e.symm
   simp [h, h']
theorem clearL_zero (l : List Bool) (rs : List Run) (a : Nat) : clearL l (rs ++ [(a, 0)]) = clearL l rs := by
 unfold clearL; rw [expand_app, expand_one]; simp
theorem clearL_succ (l : List Bool) (rs : List Run) (a i : Nat) : clearL l (rs ++ [(a, i + 1)]) = (clearL l (rs ++ [(a, i)])).set (a + i) false := by
 unfold clearL
 rw [expand_app, expand_app, expand_one, expand_one]
 simp only
 rw [List.range'_concat, ← List.append_assoc, List.foldl_append]
 simp
theorem next_not {rs : List Run} {t a b i : Nat} (ht : rs[t]? = some (a, b)) (hi : i < b) (hnd : (expand rs).Nodup) : a + i ∉ expand (rs.take t ++ [(a, i)]) ∧ a + i ∈ expand rs := by
 have hsp : rs = rs.take t ++ (a, b) :: rs.drop (t + 1) := by
  obtain ⟨hl, he⟩ := List.getElem?_eq_some_iff.1 ht
  rw [← he, List.getElem_cons_drop, List.take_append_drop]
 have hm : a + i ∈ List.range' a b := by rw [List.mem_range'_1]; omega
 constructor
 ·rw [expand_app, expand_one, List.mem_append]
  rintro (h | h)
  ·rw [hsp, expand_app, expand_cons] at hnd
   exact (List.nodup_append.1 hnd).2.2 _ h _ (List.mem_append_left _ hm) rfl
  ·simp only [List.mem_range'_1] at h; omega
 ·rw [hsp, expand_app, expand_cons]
  exact List.mem_append_right _ (List.mem_append_left _ hm)
set_option maxRecDepth 100000 in
set_option maxHeartbeats 4000000 in
theorem agive_ok (w : World) {q base : Nat} {nv lv v : Value} {now last : List Bool} {rs : List Run} (h : MapR w base q nv lv now last) (hm0 : 0 < now.length) (hm : now.length ≤ 512) (hv : RdG cR 2 w v rs) (hlr : rs.length ≤ 1000) (hin : ∀ r ∈ rs, 1 ≤ r.2 ∧ r.1 + r.2 ≤ now.length) (hnd : (expand rs).Nodup) (huse : ∀ b ∈ expand rs, now[b]? = some true) :
  Calls Tryz.prog 136 #[.pointer (some ⟨q, 0, none⟩), v] w fun e w' => e = .returned (.int .i64 0) ∧ ∃ nv', MapR w' base q nv' lv (clearL now rs) last ∧ Upd [q] w w' ∧ ∀ g, nv'.ownBlock = some g → w.heap.size ≤ g := by
 have HM := Lib.hid h
 have hq := lt_of_blk h.box
 have HV := Lib.hid hv
 have c0 := cell_blk h.box 0
 simp only [List.getElem?_toArray, List.getElem?_cons_zero] at c0
 have HC := Lib.hid (cloneB_ok w (OwnG.rd TB h.now) (by omega))
 obtain ⟨av, cv, rfl, hvl1, hvl2, -⟩ := hv.slice
 obtain ⟨L, hL⟩ : ∃ L, L = rs.length := ⟨_, rfl⟩
 have HL := Lib.hid hL
 have hLb : (L : Int) ≤ 1000 := by omega
 rw [← hL] at HV ⊢
 clear h hv hL hvl1 hvl2 hlr
 go_enter Tryz.func136, Tryz.ntmps136
 go_wp2_with fail
 refine HC.out.mono ?_
 rintro e w1 ⟨v1, rfl, ho, hu⟩
 obtain ⟨g, c1, rfl, hgb, -, -, -⟩ := OwB.row ho hm0
 have H1 := Lib.hid (And.intro ho hu)
 clear ho hu HC
 obtain ⟨m, hmm⟩ : ∃ m, m = now.length := ⟨_, rfl⟩
 rw [← hmm] at H1 ⊢
 have HMM := Lib.hid hmm
 have hm5 : (m : Int) ≤ 512 := by omega
 clear hmm hm hm0
 go_wp2_with fail
 go_loopg [18] L (fun gh v18 wr => ∃ t : Nat, v18 = .int .i64 t ∧ t ≤ L ∧ gh = L - t ∧ Hid (OwB wr w.heap.size (.slice (some ⟨g, 0, none⟩) m c1) (clearL now (rs.take t)) ∧ Upd [] w wr))
 case atStart => exact ⟨0, rfl, Nat.zero_le _, rfl, Lib.hid ⟨by rw [List.take_zero]; exact H1.out.1, H1.out.2⟩⟩
 case round =>
  obtain ⟨t, rfl, ht, rfl, HR⟩ := hrel
  generalize wr = wo at *
  by_cases htL : t < L
  ·have htL' : (t : Int) < (L : Int) := by omega
   obtain ⟨⟨a, b⟩, hab⟩ : ∃ r, rs[t]? = some r := ⟨_, List.getElem?_eq_getElem (by rw [← HL.out]; exact htL)⟩
   obtain ⟨hb1, hab2⟩ : 1 ≤ b ∧ a + b ≤ now.length := hin (a, b) (List.mem_of_getElem? hab)
   obtain ⟨bv, ov, rfl, d0, d1⟩ := RdG.runs (HV.out.keep TR HR.out.2) hab
   have HAB := Lib.hid hab
   have hab3 : a + b ≤ m := by rw [HMM.out]; exact hab2
   have f1 : ¬ (b : Int) < 1 := by omega
   have f2 : ¬ (a : Int) < 0 := by omega
   have f3 : ¬ (m : Int) ≤ (a : Int) := by omega
   have f4 : ¬ (m : Int) - (a : Int) < (b : Int) := by omega
   have fw : IntKind.i64.wrap ((m : Int) - (a : Int)) = (m : Int) - (a : Int) := IntWalk.i64_in _ (by omega)
   clear hab hab2
   have hR0 : ∀ o, Upd [] w (wo.alloc o) := fun o => HR.out.2.alloc o
   go_wp2_with fail
   have HX := Lib.hid (heap_top wo (.cells #[.int .i64 a, .int .i64 b] 148 (0, 0)))
   have HO := Lib.hid (And.intro (HR.out.1.upd ((Upd.refl [] wo).alloc (.cells #[.int .i64 a, .int .i64 b] 148 (0, 0))) (by simp)) (hR0 (.cells #[.int .i64 a, .int .i64 b] 148 (0, 0))))
   clear hR0 d0 d1
   generalize wo.alloc (.cells #[.int .i64 a, .int .i64 b] 148 (0, 0)) = W2 at *
   go_loopg [49] b (fun gh2 v49 wi => ∃ i : Nat, v49 = .int .i64 i ∧ i ≤ b ∧ gh2 = b - i ∧ Hid (OwB wi w.heap.size (.slice (some ⟨g, 0, none⟩) m c1) (clearL now (rs.take t ++ [(a, i)])) ∧ Upd [] w wi ∧ wi.heap[wo.heap.size]? = some (.cells #[.int .i64 a, .int .i64 b] 148 (0, 0))))
   case atStart => exact ⟨0, rfl, Nat.zero_le _, rfl, Lib.hid ⟨by rw [clearL_zero]; exact HO.out.1, HO.out.2, HX.out⟩⟩
   case round =>
    clear HX HO
    obtain ⟨i, rfl, hi, rfl, HI⟩ := hrel
    by_cases hib : i < b
    ·have hib' : (i : Int) < (b : Int) := by omega
     have e0 := cell_blk HI.out.2.2 0
     simp only [List.getElem?_toArray, List.getElem?_cons_zero] at e0
     obtain ⟨j, hj⟩ : ∃ j, j = a + i := ⟨_, rfl⟩
     have hwr : IntKind.i64.wrap ((a : Int) + (i : Int)) = (j : Int) := by rw [IntWalk.i64_in _ (by omega)]; omega
     have hj5 : (j : Int) < (m : Int) := by omega
     have hj6 : j < m := by omega
     obtain ⟨hn1, hn2⟩ := next_not HAB.out hib hnd
     rw [← hj] at hn1 hn2
     have hget : (clearL now (rs.take t ++ [(a, i)]))[j]? = some true := by rw [clearL_get, if_neg hn1]; exact huse j hn2
     obtain ⟨b', o', hbo, eg⟩ := RdG.bool (OwnG.rd TB HI.out.1) hget
     simp only [Option.some.injEq, Addr.mk.injEq] at hbo
     obtain ⟨rfl, rfl, -⟩ := hbo
     rw [Nat.zero_add] at eg
     obtain ⟨cur, hcur⟩ := own_cells HI.out.1 g rfl
     have fg := frozen_blk hcur j
     have HJ := Lib.hid hj
     have HCU := Lib.hid hcur
     clear hn1 hn2 hget hj hcur
     go_wp2_with fail
     go_roundg (b - (i + 1))
     case measure => omega
     case rel =>
      refine ⟨i + 1, by simp, by omega, rfl, Lib.hid ⟨?_, HI.out.2.1.setCellNew hgb _ _, ?_⟩⟩
      ·rw [clearL_succ, ← HJ.out]
       exact OwnB_set HI.out.1 j (by rw [clearL_len, ← HMM.out]; exact hj6) false
      ·rw [heap_setCell, if_neg (fun e => by
        have := HCU.out
        rw [← e, HI.out.2.2] at this
        simp at this)]
       exact HI.out.2.2
    ·obtain rfl : i = b := by omega
     have hib' : ¬ (i : Int) < (i : Int) := by omega
     go_wp2_with fail
     go_roundg (L - (t + 1))
     case measure => omega
     case rel =>
      refine ⟨t + 1, by simp, by omega, rfl, Lib.hid ⟨?_, HI.out.2.1⟩⟩
      rw [List.take_add_one, HAB.out]
      exact HI.out.1
  ·obtain rfl : t = L := by omega
   have htL' : ¬ (t : Int) < (t : Int) := by omega
   have hb0 : wo.heap[q]? = some (boxA nv lv) := (HR.out.2.block q hq (by simp)).trans HM.out.box
   have HB0 := Lib.hid hb0
   have k0 := cell_blk hb0 0
   have g0 := frozen_blk hb0 0
   simp only [List.getElem?_toArray, List.getElem?_cons_zero] at k0
   clear hb0
   go_wp2_with fail
   go_ret
   have hU : Upd [q] wo (wo.setCell ⟨q, 0, none⟩ (.slice (some ⟨g, 0, none⟩) m c1)) := (Upd.refl _ _).setCell (by simp) _ _
   have htk : rs.take t = rs := by rw [HL.out, List.take_length]
   have hlast := HM.out.last
   refine ⟨rfl, .slice (some ⟨g, 0, none⟩) m c1, ⟨boxA_now HB0.out _, ?_, (hlast.upd HR.out.2 (by simp)).upd hU (fun j hj e => ?_), ?_, HM.out.ne2, Nat.le_trans HM.out.fit (Nat.le_trans HR.out.2.size hU.size), ?_⟩, (HR.out.2.mono (by simp)).trans hU, ?_⟩
   ·have h1 := HR.out.1
    rw [htk] at h1
    exact (h1.upd hU (fun j hj e => by simp [Value.ownBlock] at hj e; omega)).base HM.out.fit
   ·exact HM.out.ne2 j e (List.mem_singleton.1 hj)
   ·intro g' e; simp [Value.ownBlock] at e; omega
   ·intro g' e e2
    have := (hlast.block _ e2).2
    simp [Value.ownBlock] at e; omega
   ·intro g' e; simp [Value.ownBlock] at e; omega
end Go.Proofs.YtgpefiacbipfpaaGreatDoor

namespace Go.Proofs.YtgpefiacbipfpaaGreatDoor
open Go.RowKit Go.Maps Go.Sort Go.Shelf
def keysI_ren : Go.Shelf.Ren := ⟨fun | 7 => 122 | 10 => 158 | n => n, fun | 23 => 117 | 26 => 3 | 3 => 116 | 28 => 183 | 0 => 0 | 27 => 182 | 33 => 204 | 4 => 4 | n => n, fun | n => n⟩
def sortedI_ren : Go.Shelf.Ren := ⟨fun | 6 => 121 | 8 => 156 | 9 => 157 | 11 => 170 | 13 => 168 | 12 => 171 | 23 => 183 | 24 => 184 | 14 => 189 | 15 => 190 | 16 => 191 | 17 => 192 | 18 => 193 | 19 => 194 | 20 => 195 | 21 => 196 | 22 => 197 | 25 => 208 | 26 => 199 | 27 => 200 | 28 => 209 | 29 => 210 | 30 => 211 | 31 => 215 | n => n, fun | 26 => 3 | 28 => 183 | 24 => 31 | 0 => 0 | 3 => 3 | 37 => 210 | 48 => 73 | 50 => 71 | 4 => 4 | 40 => 235 | 39 => 234 | 45 => 240 | 5 => 5 | 9 => 9 | 51 => 254 | 55 => 258 | 57 => 265 | 58 => 266 | 33 => 204 | n => n, fun | n => n⟩
def keysS_ren : Go.Shelf.Ren := ⟨fun | 7 => 97 | 10 => 146 | n => n, fun | 23 => 82 | 26 => 9 | 3 => 76 | 28 => 162 | 0 => 0 | 27 => 161 | 33 => 75 | 4 => 4 | n => n, fun | n => n⟩
theorem keysS : Go.Proofs.SlLaysZ.n7 Tryz.prog keysS_ren := {
 mixed := by kernel_rfl
 f7 := ⟨Tryz.f97.name, by decide, Tryz.func97.trans (congrArg some (by kernel_rfl))⟩
 f10 := ⟨Tryz.f146.name, by decide, Tryz.func146.trans (congrArg some (by kernel_rfl))⟩
 t0 := Tryz.underlying0
 a0 := Tryz.isAgg0
 z0 := Tryz.sizeOf0
 v0 := Tryz.zeroValue0
 t4 := Tryz.underlying4
 a4 := Tryz.isAgg4
 z4 := Tryz.sizeOf4
 v4 := Tryz.zeroValue4
 t23 := Tryz.underlying82
 a23 := Tryz.isAgg82
 z23 := Tryz.sizeOf82
 v23 := Tryz.zeroValue82
 t26 := Tryz.underlying9
 a26 := Tryz.isAgg9
 z26 := Tryz.sizeOf9
 v26 := Tryz.zeroValue9
 t27 := Tryz.underlying161
 a27 := Tryz.isAgg161
 z27 := Tryz.sizeOf161
 v27 := Tryz.zeroValue161
 t28 := Tryz.underlying162
 a28 := Tryz.isAgg162
 z28 := Tryz.sizeOf162
 v28 := Tryz.zeroValue162
 t33 := Tryz.underlying75
 a33 := Tryz.isAgg75
 z33 := Tryz.sizeOf75
 v33 := Tryz.zeroValue75 }
def sortedS_ren : Go.Shelf.Ren := ⟨fun | 6 => 96 | 8 => 144 | 9 => 145 | 11 => 166 | 13 => 168 | 12 => 167 | 23 => 183 | 24 => 184 | 14 => 174 | 15 => 175 | 16 => 176 | 17 => 177 | 18 => 178 | 19 => 179 | 20 => 180 | 21 => 181 | 22 => 182 | 25 => 198 | 26 => 199 | 27 => 200 | 28 => 201 | 29 => 202 | 30 => 203 | 31 => 212 | n => n, fun | 26 => 9 | 28 => 162 | 24 => 134 | 0 => 0 | 3 => 3 | 37 => 210 | 48 => 73 | 50 => 71 | 4 => 4 | 40 => 235 | 39 => 234 | 45 => 240 | 5 => 5 | 9 => 9 | 51 => 254 | 55 => 258 | 57 => 265 | 58 => 266 | 33 => 75 | n => n, fun | n => n⟩
theorem sortedS : Go.Proofs.SlLaysZ.n6 Tryz.prog sortedS_ren := {
 mixed := by kernel_rfl
 f6 := ⟨Tryz.f96.name, by decide, Tryz.func96.trans (congrArg some (by kernel_rfl))⟩
 f8 := ⟨Tryz.f144.name, by decide, Tryz.func144.trans (congrArg some (by kernel_rfl))⟩
 f11 := ⟨Tryz.f166.name, by decide, Tryz.func166.trans (congrArg some (by kernel_rfl))⟩
 t0 := Tryz.underlying0
 a0 := Tryz.isAgg0
 z0 := Tryz.sizeOf0
 v0 := Tryz.zeroValue0
 t24 := Tryz.underlying134
 a24 := Tryz.isAgg134
 z24 := Tryz.sizeOf134
 v24 := Tryz.zeroValue134
 t26 := Tryz.underlying9
 a26 := Tryz.isAgg9
 z26 := Tryz.sizeOf9
 v26 := Tryz.zeroValue9
 t28 := Tryz.underlying162
 a28 := Tryz.isAgg162
 z28 := Tryz.sizeOf162
 v28 := Tryz.zeroValue162
 i26 := by kernel_rfl }
def sortS_ren : Go.Shelf.Ren := ⟨fun | 6 => 145 | 8 => 168 | 9 => 167 | 19 => 183 | 20 => 184 | 21 => 174 | 22 => 175 | 23 => 176 | 24 => 177 | 25 => 178 | 26 => 179 | 27 => 180 | 28 => 181 | 29 => 182 | 36 => 198 | 31 => 199 | 32 => 200 | 37 => 201 | 38 => 202 | 39 => 203 | 41 => 212 | n => n, fun | 27 => 134 | 29 => 9 | 3 => 3 | 32 => 210 | 26 => 134 | 0 => 0 | 44 => 73 | 46 => 71 | 4 => 4 | 36 => 235 | 35 => 234 | 41 => 240 | 5 => 5 | 9 => 9 | 53 => 254 | 57 => 258 | 63 => 265 | 64 => 266 | n => n, fun | n => n⟩
theorem sortS : Go.Proofs.SlLaysM.n6 Tryz.prog sortS_ren := {
 mixed := by kernel_rfl
 f6 := ⟨Tryz.f145.name, by decide, Tryz.func145.trans (congrArg some (by kernel_rfl))⟩
 f8 := Tryz.func168.trans (congrArg some (by kernel_rfl))
 f9 := ⟨Tryz.f167.name, by decide, Tryz.func167.trans (congrArg some (by kernel_rfl))⟩
 f19 := Tryz.func183.trans (congrArg some (by kernel_rfl))
 f20 := Tryz.func184.trans (congrArg some (by kernel_rfl))
 f21 := ⟨Tryz.f174.name, by decide, Tryz.func174.trans (congrArg some (by kernel_rfl))⟩
 f22 := ⟨Tryz.f175.name, by decide, Tryz.func175.trans (congrArg some (by kernel_rfl))⟩
 f23 := ⟨Tryz.f176.name, by decide, Tryz.func176.trans (congrArg some (by kernel_rfl))⟩
 f24 := ⟨Tryz.f177.name, by decide, Tryz.func177.trans (congrArg some (by kernel_rfl))⟩
 f25 := ⟨Tryz.f178.name, by decide, Tryz.func178.trans (congrArg some (by kernel_rfl))⟩
 f26 := ⟨Tryz.f179.name, by decide, Tryz.func179.trans (congrArg some (by kernel_rfl))⟩
 f27 := ⟨Tryz.f180.name, by decide, Tryz.func180.trans (congrArg some (by kernel_rfl))⟩
 f28 := ⟨Tryz.f181.name, by decide, Tryz.func181.trans (congrArg some (by kernel_rfl))⟩
 f29 := ⟨Tryz.f182.name, by decide, Tryz.func182.trans (congrArg some (by kernel_rfl))⟩
 f31 := Tryz.func199.trans (congrArg some (by kernel_rfl))
 f32 := Tryz.func200.trans (congrArg some (by kernel_rfl))
 f36 := ⟨Tryz.f198.name, by decide, Tryz.func198.trans (congrArg some (by kernel_rfl))⟩
 f37 := ⟨Tryz.f201.name, by decide, Tryz.func201.trans (congrArg some (by kernel_rfl))⟩
 f38 := ⟨Tryz.f202.name, by decide, Tryz.func202.trans (congrArg some (by kernel_rfl))⟩
 f39 := ⟨Tryz.f203.name, by decide, Tryz.func203.trans (congrArg some (by kernel_rfl))⟩
 f41 := ⟨Tryz.f212.name, by decide, Tryz.func212.trans (congrArg some (by kernel_rfl))⟩
 t0 := Tryz.underlying0
 a0 := Tryz.isAgg0
 z0 := Tryz.sizeOf0
 v0 := Tryz.zeroValue0
 t3 := Tryz.underlying3
 a3 := Tryz.isAgg3
 z3 := Tryz.sizeOf3
 v3 := Tryz.zeroValue3
 t4 := Tryz.underlying4
 a4 := Tryz.isAgg4
 z4 := Tryz.sizeOf4
 v4 := Tryz.zeroValue4
 t5 := Tryz.underlying5
 a5 := Tryz.isAgg5
 z5 := Tryz.sizeOf5
 v5 := Tryz.zeroValue5
 t9 := Tryz.underlying9
 a9 := Tryz.isAgg9
 z9 := Tryz.sizeOf9
 v9 := Tryz.zeroValue9
 t26 := Tryz.underlying134
 a26 := Tryz.isAgg134
 z26 := Tryz.sizeOf134
 v26 := Tryz.zeroValue134
 t27 := Tryz.underlying134
 a27 := Tryz.isAgg134
 z27 := Tryz.sizeOf134
 v27 := Tryz.zeroValue134
 t29 := Tryz.underlying9
 a29 := Tryz.isAgg9
 z29 := Tryz.sizeOf9
 v29 := Tryz.zeroValue9
 t32 := Tryz.underlying210
 a32 := Tryz.isAgg210
 z32 := Tryz.sizeOf210
 v32 := Tryz.zeroValue210
 t35 := Tryz.underlying234
 a35 := Tryz.isAgg234
 z35 := Tryz.sizeOf234
 v35 := Tryz.zeroValue234
 t36 := Tryz.underlying235
 a36 := Tryz.isAgg235
 z36 := Tryz.sizeOf235
 v36 := Tryz.zeroValue235
 t41 := Tryz.underlying240
 a41 := Tryz.isAgg240
 z41 := Tryz.sizeOf240
 v41 := Tryz.zeroValue240
 t44 := Tryz.underlying73
 a44 := Tryz.isAgg73
 z44 := Tryz.sizeOf73
 v44 := Tryz.zeroValue73
 t46 := Tryz.underlying71
 a46 := Tryz.isAgg71
 z46 := Tryz.sizeOf71
 v46 := Tryz.zeroValue71
 t53 := Tryz.underlying254
 a53 := Tryz.isAgg254
 z53 := Tryz.sizeOf254
 v53 := Tryz.zeroValue254
 t57 := Tryz.underlying258
 a57 := Tryz.isAgg258
 z57 := Tryz.sizeOf258
 v57 := Tryz.zeroValue258
 t63 := Tryz.underlying265
 a63 := Tryz.isAgg265
 z63 := Tryz.sizeOf265
 v63 := Tryz.zeroValue265
 t64 := Tryz.underlying266
 a64 := Tryz.isAgg266
 z64 := Tryz.sizeOf266
 v64 := Tryz.zeroValue266 }
theorem keysS_ok (mb : Option Nat) (W : World) : Calls Tryz.prog 97 #[.map mb] W fun e w' => e = .returned (.func (.func 146) #[] #[.pointer (some ⟨W.heap.size, 0, none⟩)]) ∧ w' = W.alloc (.cells #[.map mb] 82) :=
 callsIn_wide.1 (AnyZ.keys_in keysS Fence.wide 5 trivial rfl mb W)
theorem sortsS (m : Nat) : AnyZ.SortsIn Tryz.prog sortedS_ren Fence.wide m :=
 ⟨fun blk off cap ss W hH hblk hsz => callsIn_wide.2 (AnyM.slices_Sort_string sortS blk off cap ss W hH hblk hsz),
  fun p cap W => callsIn_wide.2 (AnyM.slices_Sort_string_none sortS p cap W)⟩
def cT (s : Bs) : List Value := [.string ⟨s.toArray⟩]
abbrev OwT (w : World) (base : Nat) (v : Value) (l : List Bs) : Prop := OwnG cT 9 1 w base v l
theorem flatT (l : List Bs) : flatG cT l = l.map encStr := by
 induction l with
 | nil => rfl
 | cons x l ih => rw [List.map_cons, ← ih]; rfl
def namesL (L : List (Bs × Value)) : List Bs := L.map (·.1)
theorem strKeys_dataA (L : List (Bs × Value)) : strKeys (dataA Lit.string L) = namesL L := by
 simp only [dataA, strKeys, namesL, List.map_map]
 rfl
theorem bytesLess_lt : ∀ a b : Bs, Op.bytesLess a b = true ↔ a < b
 | [], [] => by simp [Op.bytesLess]
 | [], b :: y => by simp [Op.bytesLess]
 | a :: x, [] => by simp [Op.bytesLess]
 | a :: x, b :: y => by
  rw [List.cons_lt_cons_iff, ← bytesLess_lt x y]
  simp [Op.bytesLess]
theorem namesL_srt {L : List (Bs × Value)} (h : Srt ltN L) : (namesL L).Pairwise fun a b => decide (a ≤ b) = true := by
 unfold namesL
 rw [List.pairwise_map]
 refine List.Pairwise.imp ?_ h
 intro a b hab
 simp only [decide_eq_true_eq]
 intro hlt
 have := (bytesLess_lt _ _).2 hlt
 have h2 := ordN.asymm hab
 rw [show ltN b.1 a.1 = true from this] at h2
 cases h2
theorem le_antisymm_B {a b : Bs} (h1 : a ≤ b) (h2 : b ≤ a) : a = b := by
 rcases ordN.total a b with h | h | h
 ·exact h
 ·exact absurd ((bytesLess_lt _ _).1 h) h2
 ·exact absurd ((bytesLess_lt _ _).1 h) h1
theorem le_trans_B {a b c : Bs} (h1 : a ≤ b) (h2 : b ≤ c) : a ≤ c := by
 intro h
 rcases ordN.total a b with e | e | e
 ·subst e; exact h2 h
 ·exact h2 ((bytesLess_lt _ _).1 (ordN.trans _ _ _ ((bytesLess_lt _ _).2 h) e))
 ·exact h1 ((bytesLess_lt _ _).1 e)
theorem le_total_B (a b : Bs) : a ≤ b ∨ b ≤ a := by
 by_cases h : a ≤ b
 ·exact .inl h
 ·refine .inr fun g => ?_
  have h1 : b < a := Classical.not_not.1 h
  have := ordN.asymm ((bytesLess_lt _ _).2 h1)
  rw [show ltN a b = true from (bytesLess_lt _ _).2 g] at this
  cases this
theorem sortS_eq {ss : List Bs} {L : List (Bs × Value)} (h : Srt ltN L) (hp : ss.Perm (namesL L)) : ss.mergeSort (fun x y => decide (x ≤ y)) = namesL L := by
 refine List.Perm.eq_of_pairwise (le := fun a b => decide (a ≤ b) = true) (fun a b _ _ h1 h2 => ?_) ?_ (namesL_srt h) ((List.mergeSort_perm _ _).trans hp)
 ·simp only [decide_eq_true_eq] at h1 h2
  exact le_antisymm_B h1 h2
 ·exact List.pairwise_mergeSort (fun a b c h1 h2 => by simp only [decide_eq_true_eq] at *; exact le_trans_B h1 h2) (fun a b => by simp only [Bool.or_eq_true, decide_eq_true_eq]; exact le_total_B a b) ss
set_option maxHeartbeats 1000000 in
theorem sortedS_ok (w : World) {b : Nat} {L : List (Bs × Value)} (hown : MapS w b L) (hs : Srt ltN L) (hl : L.length ≤ 1000000) :
  Calls Tryz.prog 96 #[.func (.func 146) #[] #[.pointer (some ⟨w.heap.size, 0, none⟩)]] (w.alloc (.cells #[.map (some b)] 82)) fun e w' => ∃ v, e = .returned v ∧ OwT w' (w.heap.size + 1) v (namesL L) ∧ Upd [] (w.alloc (.cells #[.map (some b)] 82)) w' := by
 have hbl := hown.lt
 have hsz : Maps.size (dataA Lit.string L) = L.length := by rw [size_dataA]
 have hseq : SeqGives Fence.wide 2 Tryz.prog 146 #[.pointer (some ⟨w.heap.size, 0, none⟩)] encStr (fun ss => ss.Perm (strKeys (dataA Lit.string L))) (Maps.size (dataA Lit.string L)) (w.alloc (.cells #[.map (some b)] 82)) :=
  AnyZ.keys_gives (ρ := keysS_ren) { keysS with } Fence.wide _ trivial rfl (by omega) w.heap.size b L.length (dataA Lit.string L) _ (by simp) (by simp) (by
   obtain ⟨es, clock, hb, Ft, hs, hD⟩ := hown
   exact ⟨es, clock, (Below.heap_alloc _ _ b hbl).trans hb, Ft, hs, hD⟩)
 have cS := AnyZ.sorted_in sortedS Fence.wide 5 trivial trivial trivial trivial rfl (by omega) (sortsS _) (enters_of Tryz.func145 (by kernel_rfl) rfl) 146 #[.pointer (some ⟨w.heap.size, 0, none⟩)] trivial (enters_of Tryz.func146 (by kernel_rfl) rfl) _ _ (by rw [hsz]; unfold maxLen; omega) (by rw [hsz]; omega) _ hseq
 refine (callsIn_wide.1 cS).mono ?_
 rintro e w' ⟨v, ss, rfl, hS, hrow, hnil, hb⟩
 rw [strKeys_dataA] at hS
 have e1 := sortS_eq hs hS
 have e2 : ss.length = (namesL L).length := hS.length_eq
 refine ⟨v, rfl, ?_, ?_⟩
 ·have e3 : (ss.mergeSort (fun x y => decide (x ≤ y))).map encStr = flatG cT (namesL L) := by rw [e1, flatT]
  rw [e3, e2] at hrow
  have e4 : (w.alloc (.cells #[.map (some b)] 82)).heap.size = w.heap.size + 1 := by simp
  rw [e4] at hrow
  exact hrow
 ·exact ⟨hb.os, hb.output, hb.size, fun k hk _ => hb.block k (by exact hk)⟩
end Go.Proofs.YtgpefiacbipfpaaGreatDoor

namespace Go.Proofs.YtgpefiacbipfpaaGreatDoor
open Go.RowKit Go.Maps
theorem TT4 : RowT cT 1 16 134 9 where
 len := fun _ => rfl
 pos := by omega
 und := Tryz.underlying134
 info := by
  obtain ⟨i, h, h1, h2, h3⟩ := info_parts (show (Tryz.prog.info? 9).map (fun i => (i.zero, i.size, i.bytes)) = some (some (.string ⟨#[]⟩), 1, 16) by kernel_rfl)
  exact ⟨i, _, h, h1, h2, h3, rfl⟩
def dirAt (fs : Files) (i : Nat) : Bs := magicF ++ putU fs.length ++ (fs.take i).flatMap entB
theorem dirAt_succ {fs : Files} {i : Nat} {p : Bs × Fil} (h : fs[i]? = some p) : dirAt fs (i + 1) = (dirAt fs i ++ (putU p.1.length ++ p.1)) ++ filB p.2 := by
 unfold dirAt
 rw [List.take_add_one, h]
 simp [entB]
theorem dirAt_all (fs : Files) : dirAt fs fs.length = dirRaw fs := by unfold dirAt dirRaw; rw [List.take_length]
theorem dirAt_le {room : Nat} {fs : Files} (h : FilesOk room fs) (hr : room ≤ 512) (i : Nat) : (dirAt fs i).length ≤ 8000 := by
 refine Nat.le_trans ?_ (h.raw_len hr)
 unfold dirAt dirRaw
 simp only [List.length_append]
 have : ((fs.take i).flatMap entB).length ≤ (fs.flatMap entB).length := by
  conv => rhs; rw [← List.take_append_drop i fs, List.flatMap_append, List.length_append]
  omega
 omega
theorem FilOk.small {room : Nat} {f : Fil} (h : FilOk room f) (hr : room ≤ 512) : Small f.runs 1000 := by
 have h1 := runs_few (canon_pos h.canon)
 have h2 : lenR f.runs ≤ 64 := by rw [h.len]; have := h.most; unfold blocksN; omega
 exact ⟨fun x hx => by have := h.le x hx; omega, by omega, by omega⟩
set_option maxRecDepth 100000 in
set_option maxHeartbeats 4000000 in
theorem laid_ok (w : World) {room mf : Nat} {fs : Files} {A : Bs → Nat} {R : Bs → Value} {FM : List Nat} (h : FilR w mf fs A R FM) (hok : FilesOk room fs) (hr : room ≤ 512) :
  Calls Tryz.prog 49 #[.map (some mf)] w fun e w' => ∃ v, e = .returned v ∧ Ow w' w.heap.size v (dirB fs) ∧ Upd [] w w' := by
 have H := Lib.hid h
 have hL : (entsL fs A).length = fs.length := by simp [entsL]
 have HK := Lib.hid fun (X : World) (B : Nat) (ty : TypeId) (fz : Nat × Nat) (hB : X.heap[B]? = some (.cells #[.int .u8 102, .int .u8 105, .int .u8 108, .int .u8 101, .int .u8 115] ty fz)) => putUint_ok X (show Rd X (.slice (some ⟨B, 0, none⟩) 5 5) magicF from rd_new (l := magicF) hB (by decide)) fs.length (by have := hok.few; omega) (by decide)
 have HM := Lib.hid fun (X : World) (u : Upd [] w X) => (show MapS X mf (entsL fs A) from owns_upd h.map u (by simp))
 have hn64 := hok.few
 have hsz : Maps.size (dataA Lit.string (entsL fs A)) = fs.length := by rw [size_dataA, hL]
 have hcv : IntKind.u64.wrap ((fs.length : Nat) : Int) = (fs.length : Int) := by rw [IntKind.wrap_u64]; omega
 obtain ⟨L, hLL⟩ : ∃ L, L = fs.length := ⟨_, rfl⟩
 have HLL := Lib.hid hLL
 rw [← hLL] at hsz hcv hn64 HK
 have hLb : (L : Int) ≤ 64 := by omega
 clear h hL hLL
 have hcvt := fun W : World => Go.Lib.run_convert_bytes_const W 23 5 #[.int .u8 102, .int .u8 105, .int .u8 108, .int .u8 101, .int .u8 115] 5 5 T8.und Tryz.underlying5
 have hu1 : Upd [] w (w.alloc (.cells #[.int .u8 102, .int .u8 105, .int .u8 108, .int .u8 101, .int .u8 115] 5 (5, 6))) := (Upd.refl [] w).alloc _
 have hb1 := heap_top w (.cells #[.int .u8 102, .int .u8 105, .int .u8 108, .int .u8 101, .int .u8 115] 5 (5, 6))
 go_enter Tryz.func49, Tryz.ntmps49
 have hlen := World.ownsMap.len (HM.out _ hu1) Tryz.underlying82 3
 rw [hsz] at hlen
 go_wp2_with fail
 generalize w.alloc (.cells #[.int .u8 102, .int .u8 105, .int .u8 108, .int .u8 101, .int .u8 115] 5 (5, 6)) = w1 at *
 refine (HK.out _ _ _ _ hb1).mono ?_
 rintro e w2 ⟨v2, rfl, ho2, hu2⟩
 obtain ⟨a2, c2, m2, hm2, rfl⟩ := ho2.sliceM
 have hU2 := hu1.trans hu2
 have HKS := keysS_ok (some mf) w2
 have HSS := sortedS_ok w2 (HM.out w2 hU2) (entsL_srt hok.srt A) (by simp [entsL]; have := hok.few; omega)
 have H2 := Lib.hid (And.intro (ho2.base hu1.size) hU2)
 clear ho2 hu1 hu2 hU2 hb1 hcvt hm2 hlen
 go_wp2_with fail
 refine HKS.mono ?_
 rintro e w3 ⟨rfl, rfl⟩
 go_wp2_with fail
 refine HSS.mono ?_
 rintro e w4 ⟨v4, rfl, ho4, hu4⟩
 have hnl : (namesL (entsL fs A)).length = L := by rw [HLL.out]; simp [namesL, entsL]
 have hU4 : Upd [] w w4 := (H2.out.2.alloc _).trans hu4
 obtain ⟨a4, c4, m4, hm4, rfl⟩ := ho4.sliceM
 rw [hnl] at hm4
 rw [hm4] at ho4 ⊢
 clear hm4
 have HROW := Lib.hid ho4
 have H4 := Lib.hid (And.intro (H2.out.1.upd (((Upd.refl [] w2).alloc _).trans hu4) (by simp)) hU4)
 clear ho4 hu4 hU4 hnl HKS HSS
 go_wp2_with fail
 go_loopg [3, 16] L (fun gh v3 v16 wr => ∃ (i : Nat) (a3 : Option Addr) (m3 c3 : Nat), v3 = .slice a3 m3 c3 ∧ v16 = .int .i64 i ∧ i ≤ L ∧ gh = L - i ∧ Hid (Ow wr w.heap.size (.slice a3 m3 c3) (dirAt fs i) ∧ Upd [] w wr ∧ Upd [] w4 wr))
 case atStart => exact ⟨0, a2, m2, c2, rfl, rfl, Nat.zero_le _, rfl, Lib.hid ⟨by have := H4.out.1; rw [HLL.out] at this; simpa [dirAt] using this, H4.out.2, Upd.refl _ _⟩⟩
 case round =>
  obtain ⟨i, a3, m3, c3, rfl, rfl, hi, rfl, HR⟩ := hrel
  by_cases hiL : i < L
  ·have hiL' : (i : Int) < (L : Int) := by omega
   obtain ⟨p, hp⟩ : ∃ p, fs[i]? = some p := ⟨_, List.getElem?_eq_getElem (by rw [← HLL.out]; exact hiL)⟩
   obtain ⟨gn, rfl, dn⟩ : ∃ gn, a4 = some ⟨gn, 0, none⟩ ∧ wr.cell? ⟨gn, i, none⟩ = some (.string ⟨p.1.toArray⟩) := by
    obtain ⟨-, -, -, hat⟩ := OwnG.at TT4 (HROW.out.upd HR.out.2.2 (by simp))
    obtain ⟨gn, e1, -, -, hc⟩ := hat i (by simp [namesL, entsL]; rw [← HLL.out]; exact hiL)
    refine ⟨gn, e1, ?_⟩
    have h5 := hc 0 (.string ⟨p.1.toArray⟩) (by
     have : (namesL (entsL fs A))[i]? = some p.1 := by simp [namesL, entsL, hp]
     obtain ⟨_, h6⟩ := List.getElem?_eq_some_iff.1 this
     rw [h6]; rfl)
    simpa using h5
   have hpm : p ∈ fs := List.mem_of_getElem? hp
   have hnm := hok.name p hpm
   have HPT := Lib.hid fun (X : World) (u : Upd [] wr X) => putText_ok X ((OwnG.rd T8 (HR.out.1.upd u (by simp))).b) ⟨p.1.toArray⟩ (by show p.1.toArray.size ≤ _; simp; omega) (by have := dirAt_le hok hr i; omega)
   have hmap := H.out.map
   have HLK := Lib.hid fun (X : World) (u : Upd [] wr X) => MapS.look (HM.out X (HR.out.2.1.trans u)) Tryz.underlying82 (z := .pointer none) (by kernel_rfl) ⟨p.1.toArray⟩ (by show p.1.toArray.size ≤ _; unfold maxLen; simp; omega)
   have HBY := Lib.hid fun (X : World) (u : Upd [] wr X) => ibytes_ok X ((H.out.node p hpm).upd (HR.out.2.1.trans u) (by simp) (by simp)) (hok.ok p hpm).most ((hok.ok p hpm).small hr)
   have hga : (getA (entsL fs A) p.1).getD (.pointer none) = ptA (A p.1) := by
    rw [getA_ents, getA_of_mem ordN hok.srt hpm]; rfl
   rw [show (⟨p.1.toArray⟩ : ByteArray).data.toList = p.1 by simp, hga] at HLK
   have hl0 := HLK.out wr.drew (Upd.refl [] wr).drew
   have HPP := Lib.hid hp
   have hle := dirAt_le hok hr i
   have hfl : (filB p.2).length ≤ 10000 := by
    have h1 := dirAt_le hok hr (i + 1)
    rw [dirAt_succ hp] at h1
    simp only [List.length_append] at h1
    omega
   have hpl : (putU (⟨p.1.toArray⟩ : ByteArray).size).length ≤ 10 := putU_len64 (by show p.1.toArray.size < _; simp; omega)
   have HFL := Lib.hid (show (dirAt fs i ++ (putU (⟨p.1.toArray⟩ : ByteArray).size ++ p.1)).length ≤ 9000 ∧ (filB p.2).length ≤ 10000 by
    refine ⟨?_, hfl⟩
    simp only [List.length_append]
    omega)
   clear hp hmap hga hle hfl hnm hpl
   go_wp2_with fail
   go_region_held3 (fun _ => True)
    (trivial)
    (first
     | (go_at_call 98; (with_reducible refine (HPT.out _ ?_).mono ?_); (exact (Upd.refl [] wr).drew); rintro e w6 ⟨v6, rfl, ho6, hu6⟩; obtain ⟨a6, c6, m6, hm6, rfl⟩ := ho6.sliceM; have hv6 : Upd [] wr w6 := (Upd.refl [] wr).drew.trans hu6; have HO6 := Lib.hid ho6; have hl6 := HLK.out w6 hv6; clear hm6)
     | (go_at_call 99; (with_reducible refine (HBY.out _ hv6).mono ?_); rintro e w7 ⟨v7, rfl, ho7, hu7⟩; obtain ⟨a7, c7, m7, hm7, rfl⟩ := ho7.sliceM; have HM7 := Lib.hid hm7; have HO7 := Lib.hid ho7; clear hm7)
     | (refine step_append_G T8 (by rfl) _ _ (by rfl) (base := wr.drew.heap.size) (v := .slice a6 m6 c6) (A := a7) (c := c7) (r := filB p.2) (by rfl) (HO6.out.upd hu7 (by simp)) (by rw [HM7.out]; rfl) (Ow.rd HO7.out).src (one8 _) ?_ ?_ ?_ ?_; (have := HFL.out; omega); (have := HFL.out; omega); (exact (hv6.trans hu7).size); intro v8 w8 ho8 hg8 _; obtain ⟨a8, c8, m8, hm8, rfl⟩ := ho8.sliceM; have hv8 : Upd [] wr w8 := (hv6.trans hu7).grown hg8 (fun g hg => (HO6.out.block g hg).1); have HO8 := Lib.hid ho8; clear hm8))
   all_goals
    go_wp2_with fail
    go_roundg (L - (i + 1))
    case measure => omega
    case rel =>
     refine ⟨i + 1, a8, m8, c8, rfl, by simp, by omega, rfl, Lib.hid ⟨?_, HR.out.2.1.trans hv8, HR.out.2.2.trans hv8⟩⟩
     rw [dirAt_succ HPP.out]
     have h1 := HO8.out.base (b := w.heap.size) HR.out.2.1.size
     exact h1
  ·obtain rfl : i = L := by omega
   have hiL' : ¬ (i : Int) < (i : Int) := by omega
   have hle := dirAt_le hok hr i
   obtain ⟨ga, e1, -⟩ : ∃ m, m3 = m ∧ True := ⟨m3, rfl, trivial⟩
   have hm3 : m3 = (dirAt fs i).length := by
    obtain ⟨h1, -⟩ := OwnG.at T8 HR.out.1
    exact h1
   obtain ⟨k, hk⟩ : ∃ k, k = 8192 - m3 := ⟨_, rfl⟩
   have hsub : IntKind.i64.wrap (8192 - (m3 : Int)) = (k : Int) := by rw [IntWalk.i64_in _ (by omega)]; omega
   have HM3 := Lib.hid (And.intro hm3 (And.intro hk hle))
   clear hm3 hk hle e1
   go_wp2_with (refine wpList_append_zeros rfl _ _ rfl (l := dirAt fs i) (k := k) rfl HR.out.1 (by simp [dirAt, magicF]) rfl (by have := HM3.out; omega) HR.out.2.1.size ?_)
   intro v8 w8 ho8 hg8 _
   obtain ⟨a8, c8, m8, hm8, rfl⟩ := ho8.sliceM
   have hu8 : Upd [] w w8 := HR.out.2.1.grown hg8 (fun g hg => (HR.out.1.block g hg).1)
   have HO8 := Lib.hid ho8
   clear hm8 ho8 hg8
   go_wp2_with fail
   go_ret
   refine ⟨_, rfl, ?_, hu8⟩
   have h1 := HO8.out
   have e1 : dirAt fs i ++ List.replicate k 0 = dirB fs := by
    unfold dirB
    rw [HM3.out.2.1, HM3.out.1, HLL.out, dirAt_all]
   rw [e1] at h1
   exact h1
end Go.Proofs.YtgpefiacbipfpaaGreatDoor

namespace Go.Proofs.YtgpefiacbipfpaaGreatDoor
open Go.RowKit Go.Maps
abbrev boxF (j c q mf ml : Nat) (va : Value) (dead : Bool) : Obj := .cells #[.pointer (some ⟨j, 0, none⟩), .pointer (some ⟨c, 0, none⟩), .pointer (some ⟨q, 0, none⟩), .map (some mf), .map (some ml), va, .bool dead] 84 (0, 0)
theorem boxF_dead {w : World} {v j c q mf ml : Nat} {va : Value} {dead : Bool} (h : w.heap[v]? = some (boxF j c q mf ml va dead)) (b : Bool) : (w.setCell ⟨v, 6, none⟩ (.bool b)).heap[v]? = some (boxF j c q mf ml va b) := by
 rw [heap_setCell, if_pos rfl, h]; rfl
def FUsePost (w : World) (v j p n k c q mf ml : Nat) (va : Value) (dead ld gone : Bool) (r : Ending) (w' : World) : Prop :=
 r = .returned (.int .i64 (if (dead || gone) = true then 2 else 0)) ∧ w'.heap[v]? = some (boxF j c q mf ml va (dead || gone)) ∧ LogR w' j p n k (if dead = true then ld else gone) ∧ Upd [v, j] w w'
set_option maxRecDepth 100000 in
set_option maxHeartbeats 2000000 in
theorem fuse_ok' (w : World) {v j p n k c q mf ml : Nat} {va : Value} {dead ld : Bool} (h : w.heap[v]? = some (boxF j c q mf ml va dead)) (hl : LogR w j p n k ld) {D : Dev} {F : List Nat} (hd : DevAt w p D F) (hn : n ≤ 512) (hvj : v ≠ j) :
  Calls Tryz.prog 37 #[.pointer (some ⟨v, 0, none⟩)] w (FUsePost w v j p n k c q mf ml va dead ld (ld || D.down)) := by
 have c0 := cell_blk h 0
 have c6 := cell_blk h 6
 simp only [List.getElem?_toArray, List.getElem?_cons_zero, List.getElem?_cons_succ] at c0 c6
 have HB := Lib.hid h
 have HL := Lib.hid hl
 have hvl := lt_of_blk h
 have HJ := Lib.hid (jread_bad w hl hd hn (-1) (by simp [useE]; split <;> omega))
 clear h hl hd
 generalize hg : (ld || D.down) = gone at *
 clear hg
 cases dead
 ·cases gone
  ·have e1 : useE false (-1) n false = 42 := by simp [useE]
   rw [e1] at HJ
   go_enter Tryz.func37, Tryz.ntmps37
   go_wp2_with fail
   refine HJ.out.mono ?_
   rintro r w1 ⟨rfl, hl1, hu1⟩
   have hb1 := (hu1.block v hvl (by simp; exact hvj)).trans HB.out
   have H1 := Lib.hid (And.intro hl1 (And.intro hu1 hb1))
   clear hl1 hu1 hb1
   go_wp2_with fail
   go_ret
   exact ⟨rfl, H1.out.2.2, H1.out.1, H1.out.2.1.mono (by simp)⟩
  ·have e1 : useE true (-1) n false = 2 := by simp [useE]
   rw [e1] at HJ
   go_enter Tryz.func37, Tryz.ntmps37
   go_wp2_with fail
   refine HJ.out.mono ?_
   rintro r w1 ⟨rfl, hl1, hu1⟩
   have hb1 := (hu1.block v hvl (by simp; exact hvj)).trans HB.out
   have H1 := Lib.hid (And.intro hl1 (And.intro hu1 hb1))
   have d6 := cell_blk hb1 6
   have f6 := frozen_blk hb1 6
   simp only [List.getElem?_toArray, List.getElem?_cons_zero, List.getElem?_cons_succ] at d6
   clear hl1 hu1 hb1
   go_wp2_with fail
   go_ret
   exact ⟨rfl, boxF_dead H1.out.2.2 _, H1.out.1.upd ((Upd.refl [v] _).setCell (by simp) _ _) (by simp; exact fun e => hvj e.symm), (H1.out.2.1.mono (by simp)).setCell (by simp) _ _⟩
 ·go_enter Tryz.func37, Tryz.ntmps37
  go_wp2_with fail
  go_ret
  exact ⟨rfl, HB.out, HL.out, Upd.refl _ _⟩
set_option maxRecDepth 100000 in
theorem fended_ok (w : World) {v j c q mf ml : Nat} {va : Value} {dead : Bool} (h : w.heap[v]? = some (boxF j c q mf ml va dead)) (e : Nat) :
  Calls Tryz.prog 47 #[.pointer (some ⟨v, 0, none⟩), .int .i64 e] w fun r w' => r = .returned (.int .i64 e) ∧ w'.heap[v]? = some (boxF j c q mf ml va (dead || decide (e = 2))) ∧ Upd [v] w w' := by
 have c6 := cell_blk h 6
 have f6 := frozen_blk h 6
 simp only [List.getElem?_toArray, List.getElem?_cons_zero, List.getElem?_cons_succ] at c6
 have HB := Lib.hid h
 clear h
 cases dead
 ·by_cases he : e = 2
  ·subst he
   go_enter Tryz.func47, Tryz.ntmps47
   go_wp2_with fail
   go_ret
   exact ⟨rfl, boxF_dead HB.out _, (Upd.refl _ _).setCell (by simp) _ _⟩
  ·have he' : ((e : Int) == 2) = false := by simp; omega
   have hed : decide (e = 2) = false := by simp [he]
   rw [hed]
   have HE := Lib.hid he
   clear he hed
   go_enter Tryz.func47, Tryz.ntmps47
   go_wp2_with fail
   go_ret
   exact ⟨rfl, by rw [boxF_dead HB.out]; rfl, (Upd.refl _ _).setCell (by simp) _ _⟩
 ·go_enter Tryz.func47, Tryz.ntmps47
  go_wp2_with fail
  go_ret
  exact ⟨rfl, boxF_dead HB.out _, (Upd.refl _ _).setCell (by simp) _ _⟩
end Go.Proofs.YtgpefiacbipfpaaGreatDoor
