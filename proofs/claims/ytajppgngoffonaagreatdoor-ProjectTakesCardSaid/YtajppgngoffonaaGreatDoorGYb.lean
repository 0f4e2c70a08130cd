/- The document: twice, sets, setNames. The document: exprs. -/
import Derived.Test.YtajppgngoffonaaGreatDoorGYa
import Derived.Test.YtajppgngoffonaaGreatDoorGLk
import Derived.Test.YtajppgngoffonaaGreatDoorGHo
import Derived.Test.YtajppgngoffonaaGreatDoorGLkG
namespace Go.Proofs.YtajppgngoffonaaGreatDoor
open Go.RowKit

set_option maxRecDepth 100000 in
set_option maxHeartbeats 4000000 in
theorem refTwice_ok (v : Value) (l : List ByteArray) (w : World) (h : StrsAt w v l) (hf : ∀ s ∈ l, s.size ≤ 140737488355328) :
    Calls Tryz.prog 133 #[v] w fun e w' => e = .returned (.bool (twice l)) ∧ Upd [] w w' := by
  obtain ⟨a, cap, rfl, g1, g2, g3⟩ := h
  have HG := Lib.hid g3
  have HF := Lib.hid hf
  obtain ⟨T, hT⟩ : ∃ T, T = twice l := ⟨_, rfl⟩
  rw [← hT]
  have HT : Hid (T = twL (l.take 0) (l.drop 0)) := Lib.hid (by rw [hT]; rfl)
  clear g3 hf hT
  unfold maxLen at g2
  go_enter Tryz.func133, Tryz.ntmps133
  go_wp2_with fail
  go_loopg [3] l.length (fun n i wr => ∃ j : Nat, i = .int .i64 j ∧ j ≤ l.length ∧ n = l.length - j ∧ Hid (T = twL (l.take j) (l.drop j)) ∧ Hid (Upd [] w wr))
  case atStart => exact ⟨0, rfl, by omega, rfl, HT, Lib.hid (Upd.refl _ _)⟩
  case round =>
    obtain ⟨j, rfl, hj, rfl, hA, HU⟩ := hrel
    by_cases hjl : j < l.length
    · have hlt : (j : Int) < (l.length : Int) := by omega
      have hst := Lib.hid (twL_step l j hjl)
      obtain ⟨b, off, rfl, hc⟩ := HG.out j hjl
      have c0 : wr.cell? ⟨b, off + j * 1, none⟩ = some (.string l[j]) := cell_keep HU.out hc
      rw [Nat.mul_one] at c0
      have HN := Lib.hid (refName_ok l[j] wr (by have := HF.out l[j] (List.getElem_mem hjl); omega))
      obtain ⟨s, hs⟩ : ∃ s, s = l[j] := ⟨_, rfl⟩
      rw [← hs] at hst c0 HN
      have HS := Lib.hid hs
      clear hs hc
      by_cases hn : nameOk s = true
      · rw [hn] at HN
        have hA2 : Hid (T = ((l.take j).any (fun x => decide (x = s)) || twL (l.take (j + 1)) (l.drop (j + 1)))) := Lib.hid (by rw [hA.out, hst.out, hn]; rfl)
        clear hst hn hA
        go_wp2_with fail
        refine HN.out.mono ?_
        rintro e w2 ⟨rfl, rfl⟩
        go_wp2_with fail
        go_loopg [5] j (fun n i wr => ∃ k : Nat, i = .int .i64 k ∧ k ≤ j ∧ n = j - k ∧ Hid (Upd [] w wr) ∧ Hid (∀ q, q < k → ∀ hq : q < l.length, ¬ l[q] = s))
        case atStart => exact ⟨0, rfl, by omega, rfl, HU, Lib.hid fun q hq => absurd hq (by omega)⟩
        case round =>
          clear HU c0
          obtain ⟨k, rfl, hk, rfl, HU, hQ⟩ := hrel
          have c0 : wr.cell? ⟨b, off + j * 1, none⟩ = some (.string s) := by rw [HS.out]; exact cell_keep HU.out (by obtain ⟨b', off', e', hc'⟩ := HG.out j hjl; cases e'; exact hc')
          rw [Nat.mul_one] at c0
          by_cases hkj : k < j
          · have hkl : k < l.length := by omega
            have hlt2 : (k : Int) < (j : Int) := by omega
            have hlt3 : (k : Int) < (l.length : Int) := by omega
            obtain ⟨b', off', e', hc'⟩ := HG.out k hkl
            cases e'
            have c1 : wr.cell? ⟨b, off + k * 1, none⟩ = some (.string l[k]) := cell_keep HU.out hc'
            rw [Nat.mul_one] at c1
            clear hc'
            by_cases heq : l[k] = s
            · have hR : Hid (T = true) := Lib.hid (by
                rw [hA2.out, show (l.take j).any (fun x => decide (x = s)) = true from List.any_eq_true.2 ⟨l[k], by rw [List.mem_take_iff_getElem]; exact ⟨k, by omega, rfl⟩, by simpa using heq⟩]; rfl)
              have hq : (l[k].toList == s.toList) = true := by rw [eqB, decide_eq_true heq]
              clear heq
              generalize l[k] = y at *
              go_upto_region 10 with (fail)
              go_quiet (fail)
              go_wp2_with fail
              go_ret
              exact ⟨by rw [hR.out]; rfl, HU.out.alike ⟨rfl, rfl, rfl⟩⟩
            · have hq : (l[k].toList == s.toList) = false := by rw [eqB, decide_eq_false heq]
              have hQ2 : Hid (∀ q, q < k + 1 → ∀ hq : q < l.length, ¬ l[q] = s) := Lib.hid fun q hq hl => by
                by_cases h : q < k
                · exact hQ.out q h hl
                · obtain rfl : q = k := by omega
                  exact heq
              clear heq
              generalize l[k] = y at *
              go_upto_region 10 with (fail)
              go_quiet (fail)
              go_wp2_with fail
              go_roundg (j - (k + 1))
              case measure => omega
              case rel => exact ⟨k + 1, by go_num, by omega, rfl, Lib.hid (HU.out.alike ⟨rfl, rfl, rfl⟩), hQ2⟩
          · have hlt2 : ¬ (k : Int) < (j : Int) := by omega
            have hA3 : Hid (T = twL (l.take (j + 1)) (l.drop (j + 1))) := Lib.hid (by
              rw [hA2.out, show (l.take j).any (fun x => decide (x = s)) = false from List.any_eq_false.2 fun x hx => by
                obtain ⟨i, hi, rfl⟩ := List.mem_take_iff_getElem.1 hx
                simpa using hQ.out i (by omega) (by omega)]; rfl)
            clear hA2 c0 hQ
            go_wp2_with fail
            go_roundg (l.length - (j + 1))
            case measure => omega
            case rel => exact ⟨j + 1, by go_num, by omega, rfl, hA3, HU⟩
      · have hn' : nameOk s = false := by simpa using hn
        rw [hn'] at HN
        have hR : Hid (T = true) := Lib.hid (by rw [hA.out, hst.out, hn']; rfl)
        clear hn hn' hst hA
        go_wp2_with fail
        refine HN.out.mono ?_
        rintro e w2 ⟨rfl, rfl⟩
        go_wp2_with fail
        go_ret
        exact ⟨by rw [hR.out]; rfl, HU.out⟩
    · have hlt : ¬ (j : Int) < (l.length : Int) := by omega
      have hR : Hid (T = false) := Lib.hid (by rw [hA.out, List.drop_eq_nil_of_le (by omega)]; rfl)
      go_wp2_with fail
      go_ret
      exact ⟨by rw [hR.out]; rfl, HU.out⟩

set_option maxRecDepth 100000 in
set_option maxHeartbeats 4000000 in
theorem refSets_ok (v : Value) (l : List Asg) (w : World) (h : AsgsAt w v l) (hl : l.length * 72 ≤ 140737488355328) :
    Calls Tryz.prog 136 #[v] w fun e w' => ∃ r, e = .returned r ∧ OwnX w' w.heap.size r (setXs l) ∧ Upd [] w w' := by
  have HS := Lib.hid h
  obtain ⟨a, cap, rfl, g1, g2⟩ := h.isSlice
  clear h
  go_enter Tryz.func136, Tryz.ntmps136
  go_wp2_with fail
  go_loopg [3, 4] l.length (fun n t i wr => ∃ j : Nat, i = .int .i64 j ∧ j ≤ l.length ∧ n = l.length - j ∧ Hid (OwnX wr w.heap.size t ((setXs l).take j)) ∧ Hid (Upd [] w wr))
  case atStart => exact ⟨0, rfl, by omega, rfl, Lib.hid (own_nilX _ _), Lib.hid (Upd.refl _ _)⟩
  case round =>
    obtain ⟨j, rfl, hj, rfl, hO, HU⟩ := hrel
    have htl : ((setXs l).take j).length = j := by rw [List.length_take, setXs_len]; omega
    by_cases hjl : j < l.length
    · have hlt : (j : Int) < (l.length : Int) := by omega
      obtain ⟨a', cap', hv, -, -, g3⟩ := HS.out.keep HU.out
      simp only [Value.slice.injEq] at hv
      obtain ⟨rfl, -, rfl⟩ := hv
      obtain ⟨b, off, rfl, hy⟩ := g3 j hjl
      obtain ⟨c0, hx⟩ := hy
      obtain ⟨c1, c2, c3, c4⟩ := hx.1
      obtain ⟨ya, yc, hys⟩ := hx.2.isSlice
      have htk : Hid ((setXs l).take (j + 1) = (setXs l).take j ++ [l[j].e]) := Lib.hid (by unfold setXs; rw [List.take_add_one, List.getElem?_map, List.getElem?_eq_getElem hjl]; rfl)
      have hle := HU.out.size
      clear g3 hx
      generalize hAg : l[j] = ag at *
      clear hAg
      obtain ⟨anm, ⟨akd, an, as_, aav, akids⟩⟩ := ag
      dsimp only at hys c0 c1 c2 c3 c4 htk
      subst hys
      have HB : Hid ((wr.alloc (boxX ⟨akd, an, as_, .slice ya akids.list.length yc, akids⟩)).heap[wr.heap.size]? = some (boxX ⟨akd, an, as_, .slice ya akids.list.length yc, akids⟩)) := Lib.hid (heap_top _ _)
      obtain ⟨ta, tc, rfl⟩ := OwnX.slice hO.out
      rw [htl] at hO ⊢
      go_wp2_with (at_builtin; refine wpList_append_exp rfl _ _ rfl (base := w.heap.size) (l := (setXs l).take j) (A := some ⟨wr.heap.size, 0, none⟩) (c := 1) (r := [⟨akd, an, as_, .slice ya akids.list.length yc, akids⟩]) rfl (hO.out.alloc _) rfl (srcX_box (by exact HB.out)) ?c0 ?c1 ?c2 ?_)
      case c0 => intro x hx; simp at hx; subst hx; exact ⟨_, _, _, rfl⟩
      case c1 => rw [htl]; simp; omega
      case c2 => simp; omega
      intro v7 w7 ho7 hg7
      have hu7 : Upd [] w w7 := (HU.out.alloc _).grown hg7 (fun q hq => (hO.out.lt q hq).1)
      rw [← htk.out] at ho7
      have HO7 := Lib.hid ho7
      have HU7 := Lib.hid hu7
      clear hu7 ho7 hg7 c0 c1 c2 c3 c4 hO HU HB
      go_wp2_with fail
      go_roundg (l.length - (j + 1))
      case measure => omega
      case rel => exact ⟨j + 1, by go_num, by omega, rfl, HO7, HU7⟩
    · have hlt : ¬ (j : Int) < (l.length : Int) := by omega
      have hO' := hO.out
      rw [List.take_of_length_le (by rw [setXs_len]; omega)] at hO'
      have HO' := Lib.hid hO'
      clear hO hO'
      go_wp2_with fail
      go_ret
      exact ⟨_, rfl, HO'.out, HU.out⟩

set_option maxRecDepth 100000 in
set_option maxHeartbeats 4000000 in
theorem refSetNames_ok (v : Value) (l : List Asg) (w : World) (h : AsgsAt w v l) (hl : l.length * 72 ≤ 140737488355328) :
    Calls Tryz.prog 134 #[v] w fun e w' => ∃ r, e = .returned r ∧ OwnS w' w.heap.size r (l.map Asg.nm) ∧ Upd [] w w' := by
  have HS := Lib.hid h
  obtain ⟨a, cap, rfl, g1, g2⟩ := h.isSlice
  clear h
  go_enter Tryz.func134, Tryz.ntmps134
  go_wp2_with fail
  go_loopg [3, 4] l.length (fun n t i wr => ∃ j : Nat, i = .int .i64 j ∧ j ≤ l.length ∧ n = l.length - j ∧ Hid (OwnS wr w.heap.size t ((l.map Asg.nm).take j)) ∧ Hid (Upd [] w wr))
  case atStart => exact ⟨0, rfl, by omega, rfl, Lib.hid (own_nilS _ _), Lib.hid (Upd.refl _ _)⟩
  case round =>
    obtain ⟨j, rfl, hj, rfl, hO, HU⟩ := hrel
    have htl : ((l.map Asg.nm).take j).length = j := by simp; omega
    by_cases hjl : j < l.length
    · have hlt : (j : Int) < (l.length : Int) := by omega
      obtain ⟨a', cap', hv, -, -, g3⟩ := HS.out.keep HU.out
      simp only [Value.slice.injEq] at hv
      obtain ⟨rfl, -, rfl⟩ := hv
      obtain ⟨b, off, rfl, hy⟩ := g3 j hjl
      have c0 := hy.1
      have htk : Hid ((l.map Asg.nm).take (j + 1) = (l.map Asg.nm).take j ++ [l[j].nm]) := Lib.hid (by rw [List.take_add_one, List.getElem?_map, List.getElem?_eq_getElem hjl]; rfl)
      have hle := HU.out.size
      clear g3 hy
      generalize l[j].nm = anm at *
      have HB : Hid ((wr.alloc (.cells #[.string anm] 9)).heap[wr.heap.size]? = some (.cells #[.string anm] 9 (0, 0))) := Lib.hid (heap_top _ _)
      go_wp2_with (at_builtin; refine wpList_append_str rfl _ _ rfl (base := w.heap.size) (l := (l.map Asg.nm).take j) (A := some ⟨wr.heap.size, 0, none⟩) (c := 1) (r := [anm]) rfl (hO.out.alloc _) rfl (srcS_box (by exact HB.out)) ?c1 ?c2 ?_)
      case c1 => rw [htl]; simp; omega
      case c2 => simp; omega
      intro v7 w7 ho7 hg7
      have hu7 : Upd [] w w7 := (HU.out.alloc _).grown hg7 (fun q hq => (hO.out.lt q hq).1)
      rw [← htk.out] at ho7
      have HO7 := Lib.hid ho7
      have HU7 := Lib.hid hu7
      clear hu7 ho7 hg7 c0 hO HU HB
      go_wp2_with fail
      go_roundg (l.length - (j + 1))
      case measure => omega
      case rel => exact ⟨j + 1, by go_num, by omega, rfl, HO7, HU7⟩
    · have hlt : ¬ (j : Int) < (l.length : Int) := by omega
      have hO' := hO.out
      rw [List.take_of_length_le (by simp; omega)] at hO'
      have HO' := Lib.hid hO'
      clear hO hO'
      go_wp2_with fail
      go_ret
      exact ⟨_, rfl, HO'.out, HU.out⟩
end Go.Proofs.YtajppgngoffonaaGreatDoor

namespace Go.Proofs.YtajppgngoffonaaGreatDoor
open Go.RowKit

theorem flat_drop {α β : Type} (l : List α) (f : α → List β) (j : Nat) (hj : j < l.length) : (l.drop j).flatMap f = f l[j] ++ (l.drop (j + 1)).flatMap f := by
  rw [List.drop_eq_getElem_cons hj, List.flatMap_cons]
theorem flat_end {α β : Type} (l : List α) (f : α → List β) (j : Nat) (hj : l.length ≤ j) : (l.drop j).flatMap f = [] := by
  rw [List.drop_eq_nil_of_le hj]
  rfl

/-- A box of another type stays where a row of expressions grows. -/
theorem blk_grownX {w w' : World} {base : Nat} {v : Value} {l : List Xp} (h : OwnX w base v l) (g : w.grownBy w' v.ownBlock) {k : Nat} {c : Array Value} {T : TypeId} {f : Nat × Nat} (hk : w.heap[k]? = some (.cells c T f)) (hT : T ≠ 54) : w'.heap[k]? = some (.cells c T f) := by
  refine (g.block k (lt_of_blk hk) (fun q => ?_)).trans hk
  rcases h.2 with ⟨rfl, -⟩ | ⟨k', cap', cur', rfl, -, hh', -⟩
  · cases q
  · simp only [Value.ownBlock, Option.some.injEq] at q
    subst q
    rw [hk] at hh'
    simp only [Option.some.injEq, Obj.cells.injEq] at hh'
    exact hT hh'.2.1

structure ExIn (w : World) (SR : Obj) (t : Value) (acc : List Xp) (W : World) : Prop where
  box : W.heap[w.heap.size]? = some SR
  own : OwnX W (w.heap.size + 1) t acc
  upd : Upd [] w W
theorem ExIn.keep {w : World} {SR : Obj} {t : Value} {acc : List Xp} {W W' : World} (h : ExIn w SR t acc W) (u : Upd [] W W') : ExIn w SR t acc W' :=
  ⟨(u.block _ (lt_of_blk h.box) (by simp)).trans h.box, own_upd h.own u (by simp), h.upd.trans u⟩
theorem ExIn.grow {w : World} {SR : Obj} {t t' : Value} {acc acc' : List Xp} {W W' : World} (h : ExIn w SR t acc W) (g : W.grownBy W' t.ownBlock) (ho : OwnX W' (w.heap.size + 1) t' acc') : ExIn w SR t' acc' W' :=
  ⟨(g.block _ (lt_of_blk h.box) (fun q => by have := (h.own.lt _ q.symm).1; omega)).trans h.box, ho, h.upd.grown g (fun q hq => by have := (h.own.lt q hq).1; omega)⟩
theorem ExIn.alloc {w : World} {SR : Obj} {t : Value} {acc : List Xp} {W : World} (h : ExIn w SR t acc W) (o : Obj) : ExIn w SR t acc (W.alloc o) := h.keep ((Upd.refl [] W).alloc o)
theorem ExIn.lt {w : World} {SR : Obj} {t : Value} {acc : List Xp} {W : World} (h : ExIn w SR t acc W) : w.heap.size + 1 ≤ W.heap.size := lt_of_blk h.box

set_option maxRecDepth 100000 in
set_option maxHeartbeats 8000000 in
theorem refExprs_ok (hv ev : Value) (hs : List Hdl) (es : List Evo) (w : World) (hh : HdlsAt w hv hs) (he : EvosAt w ev es) (hsm : SmallR hs es) :
    Calls Tryz.prog 96 #[.agg #[hv, ev]] w fun e w' => ∃ r, e = .returned r ∧ OwnX w' w.heap.size r (tableXs hs es) ∧ Upd [] w w' := by
  have HH := Lib.hid hh
  have HE := Lib.hid he
  have HSM := Lib.hid hsm
  have HTL := Lib.hid (tableXs_len hsm)
  obtain ⟨T, hT⟩ : ∃ T, T = tableXs hs es := ⟨_, rfl⟩
  obtain ⟨tl, htl⟩ : ∃ tl, tl = es.flatMap (fun e => setXs e.sets) := ⟨_, rfl⟩
  have H1 : Hid ([] ++ ((hs.drop 0).flatMap (fun h => h.cases.flatMap caseXs) ++ tl) = T) := Lib.hid (by rw [hT, htl]; rfl)
  have HL2 := Lib.hid htl
  rw [← hT] at HTL ⊢
  obtain ⟨ha, hcap, rfl, hh1, hh2⟩ := hh.isSlice
  obtain ⟨ea, ecap, rfl, he1, he2⟩ := he.isSlice
  obtain ⟨SR, hSR⟩ : ∃ SR, SR = boxR (.slice ha hs.length hcap) (.slice ea es.length ecap) := ⟨_, rfl⟩
  have HSR := Lib.hid hSR
  have HX0 : Hid (ExIn w SR (.slice none 0 0) [] (w.alloc (boxR (.slice ha hs.length hcap) (.slice ea es.length ecap)))) := Lib.hid ⟨by rw [heap_top, hSR], own_nilX _ _, (Upd.refl [] w).alloc _⟩
  clear hh he hsm hT htl hSR
  go_enter Tryz.func96, Tryz.ntmps96
  go_wp2_with fail
  go_loopg [3, 4] hs.length (fun n t i wr => ∃ (j : Nat) (acc : List Xp), i = .int .i64 j ∧ j ≤ hs.length ∧ n = hs.length - j ∧ Hid (acc ++ ((hs.drop j).flatMap (fun h => h.cases.flatMap caseXs) ++ tl) = T) ∧ Hid (ExIn w SR t acc wr))
  case atStart => exact ⟨0, [], rfl, by omega, rfl, H1, HX0⟩
  case round =>
    obtain ⟨j, acc, rfl, hj, rfl, hA, HI⟩ := hrel
    have r0 : wr.cell? ⟨w.heap.size, 0, none⟩ = some (.slice ha hs.length hcap) := by have := HI.out.box; rw [HSR.out] at this; exact cell_blk this 0
    have r1 : wr.cell? ⟨w.heap.size, 1, none⟩ = some (.slice ea es.length ecap) := by have := HI.out.box; rw [HSR.out] at this; exact cell_blk this 1
    by_cases hjl : j < hs.length
    · have hlt : (j : Int) < (hs.length : Int) := by omega
      obtain ⟨a', cap', hv, -, -, g3⟩ := HH.out.keep HI.out.upd
      simp only [Value.slice.injEq] at hv
      obtain ⟨rfl, -, rfl⟩ := hv
      obtain ⟨b, off, rfl, hy⟩ := g3 j hjl
      obtain ⟨c0, c1, c2⟩ := hy.1
      have HCS : Hid (CsesAt w hs[j].cv hs[j].cases) := Lib.hid (by
        obtain ⟨_, _, _, _, _, q3⟩ := HH.out
        obtain ⟨_, _, _, hy2⟩ := q3 j hjl
        exact hy2.2.2)
      have HSJ := Lib.hid (HSM.out.2.2.1 hs[j] (List.getElem_mem hjl))
      obtain ⟨rest, hrest⟩ : ∃ rest, rest = (hs.drop (j + 1)).flatMap (fun h => h.cases.flatMap caseXs) ++ tl := ⟨_, rfl⟩
      have hA2 : Hid (acc ++ ((hs[j].cases.drop 0).flatMap caseXs ++ rest) = T) := Lib.hid (by rw [← hA.out, flat_drop hs _ j hjl, hrest, List.drop_zero, List.append_assoc])
      have HRS := Lib.hid hrest
      obtain ⟨ca, ccap, hcv, hc1, hc2⟩ := HCS.out.isSlice
      obtain ⟨na, ncap, hnv, -, -⟩ := hy.2.1.isSlice
      clear g3 hy hrest hA
      generalize hs[j] = y at *
      obtain ⟨cmd, nv, needs, cv, cases⟩ := y
      dsimp only at c0 c1 c2 hcv hnv HCS HSJ hA2 hc1 hc2
      subst hcv hnv
      have hpl := HI.out.lt
      have HI2 := Lib.hid (HI.out.alloc (boxH ⟨cmd, .slice na needs.length ncap, needs, .slice ca cases.length ccap, cases⟩))
      have HB : Hid ((wr.alloc (boxH ⟨cmd, .slice na needs.length ncap, needs, .slice ca cases.length ccap, cases⟩)).heap[wr.heap.size]? = some (boxH ⟨cmd, .slice na needs.length ncap, needs, .slice ca cases.length ccap, cases⟩)) := Lib.hid (heap_top _ _)
      clear HI
      go_wp2_with fail
      generalize wr.heap.size = p at *
      clear c0 c1 c2 r0 r1
      go_loopg [3, 6] cases.length (fun n t i wr => ∃ (k : Nat) (acc : List Xp), i = .int .i64 k ∧ k ≤ cases.length ∧ n = cases.length - k ∧ Hid (acc ++ ((cases.drop k).flatMap caseXs ++ rest) = T) ∧ Hid (ExIn w SR t acc wr) ∧ Hid (wr.heap[p]? = some (boxH ⟨cmd, .slice na needs.length ncap, needs, .slice ca cases.length ccap, cases⟩)))
      case atStart => exact ⟨0, _, rfl, by omega, rfl, hA2, HI2, HB⟩
      case round =>
        clear hA2 HI2 HB
        obtain ⟨k, acc2, rfl, hk, rfl, hA2, HI2, HB⟩ := hrel
        have h2 := cell_blk HB.out 2
        by_cases hkl : k < cases.length
        · have hlt2 : (k : Int) < (cases.length : Int) := by omega
          have HC1 := Lib.hid (fun W (u : Upd [] w W) => HCS.out.keep u)
          obtain ⟨a', cap', hv, -, -, g3⟩ := HCS.out.keep HI2.out.upd
          simp only [Value.slice.injEq] at hv
          obtain ⟨rfl, -, rfl⟩ := hv
          obtain ⟨b2, off2, rfl, hy⟩ := g3 k hkl
          obtain ⟨d0, d1, d2⟩ := hy.1
          have HCC : Hid (∀ W, Upd [] w W → CseC W b2 (off2 + k * 3) cases[k]) := Lib.hid (fun W u => by
            obtain ⟨_, _, e', _, _, q3⟩ := HC1.out W u
            obtain ⟨b', o', e'', hy2⟩ := q3 k hkl
            cases e'
            cases e''
            exact hy2.1)
          have HWE : Hid (CdsAt w cases[k].wv cases[k].when ∧ EmtsAt w cases[k].ev cases[k].emits) := Lib.hid (by
            obtain ⟨_, _, _, _, _, q3⟩ := HCS.out
            obtain ⟨_, _, _, hy2⟩ := q3 k hkl
            exact hy2.2)
          have HSK := Lib.hid (HSJ.out.2.2 cases[k] (List.getElem_mem hkl))
          obtain ⟨rest2, hrest⟩ : ∃ rest2, rest2 = (cases.drop (k + 1)).flatMap caseXs ++ rest := ⟨_, rfl⟩
          have hA3 : Hid (acc2 ++ ((cases[k].when.drop 0).flatMap condXs ++ ((cases[k].emits.drop 0).flatMap (fun m => setXs m.sets) ++ rest2)) = T) := Lib.hid (by rw [← hA2.out, flat_drop cases _ k hkl, hrest, List.drop_zero, List.drop_zero, caseXs]; simp only [List.append_assoc])
          have HRS2 := Lib.hid hrest
          obtain ⟨wa, wcap, hwv, hw1, hw2⟩ := HWE.out.1.isSlice
          obtain ⟨ma, mcap, hmv, hm1, hm2⟩ := HWE.out.2.isSlice
          clear g3 hy hrest hA2 HC1
          generalize cases[k] = z at *
          obtain ⟨wv, when, refuse, mv, emits⟩ := z
          dsimp only at d0 d1 d2 hwv hmv HWE HSK hA3 HCC hw1 hw2 hm1 hm2
          subst hwv hmv
          go_wp2_with fail
          clear d0 d1 d2 h2
          go_loopg [3, 7] when.length (fun n t i wr => ∃ (m : Nat) (acc : List Xp), i = .int .i64 m ∧ m ≤ when.length ∧ n = when.length - m ∧ Hid (acc ++ ((when.drop m).flatMap condXs ++ ((emits.drop 0).flatMap (fun m => setXs m.sets) ++ rest2)) = T) ∧ Hid (ExIn w SR t acc wr) ∧ Hid (wr.heap[p]? = some (boxH ⟨cmd, .slice na needs.length ncap, needs, .slice (some ⟨b2, off2, none⟩) cases.length ccap, cases⟩)))
          case atStart => exact ⟨0, _, rfl, by omega, rfl, hA3, HI2, HB⟩
          case round =>
            clear hA3 HI2 HB
            obtain ⟨m, acc3, rfl, hm, rfl, hA3, HI3, HB3⟩ := hrel
            have h2 := cell_blk HB3.out 2
            obtain ⟨d0, d1, d2⟩ := HCC.out wr HI3.out.upd
            by_cases hml : m < when.length
            · have hlt3 : (m : Int) < (when.length : Int) := by omega
              obtain ⟨a', cap', hv, -, -, g3⟩ := HWE.out.1.keep HI3.out.upd
              simp only [Value.slice.injEq] at hv
              obtain ⟨rfl, -, rfl⟩ := hv
              obtain ⟨b3, off3, rfl, hy⟩ := g3 m hml
              obtain ⟨⟨x0, x1, ⟨x2, x3, x4, x5⟩, ⟨x6, x7, x8, x9⟩⟩, hka, hkb⟩ := hy
              obtain ⟨aa, ac, haa⟩ := hka.isSlice
              obtain ⟨ba, bc, hba⟩ := hkb.isSlice
              obtain ⟨rest3, hrest3⟩ : ∃ r, r = (when.drop (m + 1)).flatMap condXs ++ ((emits.drop 0).flatMap (fun m => setXs m.sets) ++ rest2) := ⟨_, rfl⟩
              have hA4 : Hid (acc3 ++ (condXs when[m] ++ rest3) = T) := Lib.hid (by rw [← hA3.out, flat_drop when _ m hml, hrest3]; simp only [List.append_assoc])
              have HR3 := Lib.hid hrest3
              have hsz := HI3.out.lt
              clear g3 hka hkb hA3 hrest3
              generalize when[m] = y at *
              obtain ⟨kd, nt, ⟨akd, an, as_, aav, akids⟩, ⟨bkd, bn, bs, bav, bkids⟩⟩ := y
              dsimp only at haa hba x0 x1 x2 x3 x4 x5 x6 x7 x8 x9 hA4
              subst haa hba
              obtain ⟨C, hC⟩ : ∃ C, C = boxCd ⟨kd, nt, ⟨akd, an, as_, .slice aa akids.list.length ac, akids⟩, ⟨bkd, bn, bs, .slice ba bkids.list.length bc, bkids⟩⟩ := ⟨_, rfl⟩
              have HI4 := Lib.hid (HI3.out.alloc C)
              have HB4 := Lib.hid (blk_alloc (o' := C) HB3.out)
              have HC4 : Hid ((wr.alloc C).heap[wr.heap.size]? = some C) := Lib.hid (heap_top _ _)
              have HX5 : Hid (((wr.alloc C).alloc (boxX ⟨akd, an, as_, .slice aa akids.list.length ac, akids⟩)).heap[wr.heap.size + 1]? = some (boxX ⟨akd, an, as_, .slice aa akids.list.length ac, akids⟩)) := Lib.hid (heap_top1 _ _ _)
              have hsub : acc3.length + 1 ≤ 150000 := by
                have h1 := congrArg List.length hA4.out
                have h2 := HTL.out
                simp only [List.length_append] at h1
                have h3 : 1 ≤ (condXs ⟨kd, nt, ⟨akd, an, as_, .slice aa akids.list.length ac, akids⟩, ⟨bkd, bn, bs, .slice ba bkids.list.length bc, bkids⟩⟩).length := by unfold condXs; split <;> simp
                omega
              have HSU := Lib.hid hsub
              rw [hC] at HI4 HB4 HC4 HX5
              clear hC hsub HI3 HB3 C
              go_wp2_with (at_builtin; refine wpList_append_exp rfl _ _ rfl (base := w.heap.size + 1) (l := acc3) (A := some ⟨wr.heap.size + 1, 0, none⟩) (c := 1) (r := [⟨akd, an, as_, .slice aa akids.list.length ac, akids⟩]) rfl (HI4.out.alloc (boxX ⟨akd, an, as_, .slice aa akids.list.length ac, akids⟩)).own rfl (srcX_box (by exact HX5.out)) ?c0 ?c1 ?c2 ?_)
              case c0 => first | exact ⟨_, _, _, rfl⟩ | (intro x hx; simp at hx; subst hx; exact ⟨_, _, _, rfl⟩)
              case c1 => have := HSU.out; first | omega | (simp; omega)
              case c2 => first | omega | (simp; omega)
              intro v7 w7 ho7 hg7
              generalize hL5 : acc3 ++ [(⟨akd, an, as_, .slice aa akids.list.length ac, akids⟩ : Xp)] = acc5 at ho7
              have HL5 := Lib.hid hL5
              clear hL5
              have HI7 := Lib.hid ((HI4.out.alloc (boxX ⟨akd, an, as_, .slice aa akids.list.length ac, akids⟩)).grow hg7 ho7)
              have HB7 := Lib.hid (blk_grownX (HI4.out.alloc (boxX ⟨akd, an, as_, .slice aa akids.list.length ac, akids⟩)).own hg7 (blk_alloc HB4.out) (by decide))
              have hc7 := blk_grownX (HI4.out.alloc (boxX ⟨akd, an, as_, .slice aa akids.list.length ac, akids⟩)).own hg7 (blk_alloc HC4.out) (by decide)
              have y0 := cell_blk hc7 0
              have y6 := cell_blk hc7 6
              have y7 := cell_blk hc7 7
              have y8 := cell_blk hc7 8
              have y9 := cell_blk hc7 9
              have hl7 := lt_of_blk hc7
              have hn7 : ¬ wr.heap.size = w7.heap.size := by omega
              clear hc7 ho7 hg7 HI4 HB4 HC4 HX5 x0 x1 x2 x3 x4 x5 x6 x7 x8 x9 d0 d1 d2 h2
              by_cases h4 : kd = 4
              · subst h4
                have hA5 : Hid (acc5 ++ ((when.drop (m + 1)).flatMap condXs ++ ((emits.drop 0).flatMap (fun m => setXs m.sets) ++ rest2)) = T) := Lib.hid (by rw [← hA4.out, ← HL5.out, HR3.out, condXs, if_pos rfl]; simp only [List.append_assoc])
                clear hA4 HR3
                go_wp2_with fail
                go_roundg (when.length - (m + 1))
                case measure => omega
                case rel => exact ⟨m + 1, _, by go_num, by omega, rfl, hA5, HI7, HB7⟩
              · have h4b : (kd != 4) = true := by simpa using h4
                have hA5 : Hid ((acc5 ++ [⟨bkd, bn, bs, .slice ba bkids.list.length bc, bkids⟩]) ++ ((when.drop (m + 1)).flatMap condXs ++ ((emits.drop 0).flatMap (fun m => setXs m.sets) ++ rest2)) = T) := Lib.hid (by rw [← hA4.out, ← HL5.out, HR3.out, condXs, if_neg h4]; simp only [List.append_assoc, List.cons_append, List.nil_append])
                have HSU2 : Hid (acc5.length + 1 ≤ 150000) := Lib.hid (by
                  have h1 := congrArg List.length hA5.out
                  have h2 := HTL.out
                  simp only [List.length_append, List.length_cons, List.length_nil] at h1
                  omega)
                have HX8 : Hid ((w7.alloc (boxX ⟨bkd, bn, bs, .slice ba bkids.list.length bc, bkids⟩)).heap[w7.heap.size]? = some (boxX ⟨bkd, bn, bs, .slice ba bkids.list.length bc, bkids⟩)) := Lib.hid (heap_top _ _)
                have hs7 := HI7.out.lt
                clear hA4 HR3 h4
                go_wp2_with (at_builtin; refine wpList_append_exp rfl _ _ rfl (base := w.heap.size + 1) (l := acc5) (A := some ⟨w7.heap.size, 0, none⟩) (c := 1) (r := [⟨bkd, bn, bs, .slice ba bkids.list.length bc, bkids⟩]) rfl (HI7.out.alloc (boxX ⟨bkd, bn, bs, .slice ba bkids.list.length bc, bkids⟩)).own rfl (srcX_box (by exact HX8.out)) ?c0 ?c1 ?c2 ?_)
                case c0 => first | exact ⟨_, _, _, rfl⟩ | (intro x hx; simp at hx; subst hx; exact ⟨_, _, _, rfl⟩)
                case c1 => have := HSU2.out; first | omega | (simp; omega)
                case c2 => first | omega | (simp; omega)
                intro v9 w9 ho9 hg9
                have HI9 := Lib.hid ((HI7.out.alloc (boxX ⟨bkd, bn, bs, .slice ba bkids.list.length bc, bkids⟩)).grow hg9 ho9)
                have HB9 := Lib.hid (blk_grownX (HI7.out.alloc (boxX ⟨bkd, bn, bs, .slice ba bkids.list.length bc, bkids⟩)).own hg9 (blk_alloc HB7.out) (by decide))
                clear ho9 hg9 HI7 HB7 HX8 y0 y6 y7 y8 y9
                go_wp2_with fail
                go_roundg (when.length - (m + 1))
                case measure => omega
                case rel => exact ⟨m + 1, _, by go_num, by omega, rfl, hA5, HI9, HB9⟩
            · have hlt3 : ¬ (m : Int) < (when.length : Int) := by omega
              have hA4 : Hid (acc3 ++ ((emits.drop 0).flatMap (fun m => setXs m.sets) ++ rest2) = T) := Lib.hid (by rw [← hA3.out, flat_end when _ m (by omega), List.nil_append])
              clear hA3
              go_wp2_with fail
              clear d0 d1 d2 h2
              go_loopg [3, 9] emits.length (fun n t i wr => ∃ (m : Nat) (acc : List Xp), i = .int .i64 m ∧ m ≤ emits.length ∧ n = emits.length - m ∧ Hid (acc ++ ((emits.drop m).flatMap (fun m => setXs m.sets) ++ rest2) = T) ∧ Hid (ExIn w SR t acc wr) ∧ Hid (wr.heap[p]? = some (boxH ⟨cmd, .slice na needs.length ncap, needs, .slice (some ⟨b2, off2, none⟩) cases.length ccap, cases⟩)))
              case atStart => exact ⟨0, _, rfl, by omega, rfl, hA4, HI3, HB3⟩
              case round =>
                clear hA4 HI3 HB3
                obtain ⟨m2, acc4, rfl, hm2', rfl, hA4, HI4, HB4⟩ := hrel
                have h2 := cell_blk HB4.out 2
                obtain ⟨d0, d1, d2⟩ := HCC.out wr HI4.out.upd
                by_cases hml2 : m2 < emits.length
                · have hlt4 : (m2 : Int) < (emits.length : Int) := by omega
                  obtain ⟨a', cap', hv, -, -, g3⟩ := HWE.out.2.keep HI4.out.upd
                  simp only [Value.slice.injEq] at hv
                  obtain ⟨rfl, -, rfl⟩ := hv
                  obtain ⟨b4, off4, rfl, hy⟩ := g3 m2 hml2
                  obtain ⟨⟨x0, x1⟩, hsets⟩ := hy
                  have hls := HSK.out.2.2 emits[m2] (List.getElem_mem hml2)
                  have HCL := Lib.hid (refSets_ok emits[m2].sv emits[m2].sets wr hsets (by omega))
                  have HKS := Lib.hid (kids_sl (kids_sets hsets))
                  obtain ⟨sa, sc, hsv, -, -⟩ := hsets.isSlice
                  have hA5 : Hid (acc4 ++ (setXs emits[m2].sets ++ ((emits.drop (m2 + 1)).flatMap (fun m => setXs m.sets) ++ rest2)) = T) := Lib.hid (by rw [← hA4.out, flat_drop emits _ m2 hml2]; simp only [List.append_assoc])
                  clear g3 hsets hls hA4
                  generalize emits[m2] = y at *
                  obtain ⟨ety, esv, sets⟩ := y
                  dsimp only at hsv x0 x1 HCL HKS hA5
                  subst hsv
                  have HSU : Hid (acc4.length + (setXs sets).length ≤ 150000) := Lib.hid (by
                    have h1 := congrArg List.length hA5.out
                    have h2 := HTL.out
                    simp only [List.length_append] at h1
                    omega)
                  have hA6 : Hid ((acc4 ++ setXs sets) ++ ((emits.drop (m2 + 1)).flatMap (fun m => setXs m.sets) ++ rest2) = T) := Lib.hid (by rw [List.append_assoc]; exact hA5.out)
                  clear hA5
                  generalize setXs sets = xs at *
                  go_wp2_with fail
                  refine HCL.out.mono ?_
                  rintro e w5 ⟨r, rfl, ho5, hu5⟩
                  have HI5 := Lib.hid (HI4.out.keep hu5)
                  have HB5 : Hid (w5.heap[p]? = some (boxH ⟨cmd, .slice na needs.length ncap, needs, .slice (some ⟨b2, off2, none⟩) cases.length ccap, cases⟩)) := Lib.hid ((hu5.block _ (lt_of_blk HB4.out) (by simp)).trans HB4.out)
                  obtain ⟨ra, rc, rfl⟩ := OwnX.slice ho5
                  have HSR5 := Lib.hid ho5.src
                  have hs5 := HI5.out.lt
                  clear hu5 ho5 HI4 HB4 HCL x0 x1 d0 d1 d2 h2
                  go_wp2_with (at_builtin; refine wpList_append_exp rfl _ _ rfl (base := w.heap.size + 1) (l := acc4) (A := ra) (c := rc) (r := xs) rfl HI5.out.own rfl HSR5.out HKS.out ?c1 ?c2 ?_)
                  case c1 => have := HSU.out; omega
                  case c2 => omega
                  intro v7 w7 ho7 hg7
                  have HI7 := Lib.hid (HI5.out.grow hg7 ho7)
                  have HB7 := Lib.hid (blk_grownX HI5.out.own hg7 HB5.out (by decide))
                  clear ho7 hg7 HI5 HB5 HSR5
                  go_wp2_with fail
                  go_roundg (emits.length - (m2 + 1))
                  case measure => omega
                  case rel => exact ⟨m2 + 1, _, by go_num, by omega, rfl, hA6, HI7, HB7⟩
                · have hlt4 : ¬ (m2 : Int) < (emits.length : Int) := by omega
                  have hA5 : Hid (acc4 ++ ((cases.drop (k + 1)).flatMap caseXs ++ rest) = T) := Lib.hid (by rw [← hA4.out, flat_end emits _ m2 (by omega), List.nil_append, HRS2.out])
                  clear hA4
                  go_wp2_with fail
                  go_roundg (cases.length - (k + 1))
                  case measure => omega
                  case rel => exact ⟨k + 1, acc4, by go_num, by omega, rfl, hA5, HI4, HB4⟩
        · have hlt2 : ¬ (k : Int) < (cases.length : Int) := by omega
          have hA3 : Hid (acc2 ++ ((hs.drop (j + 1)).flatMap (fun h => h.cases.flatMap caseXs) ++ tl) = T) := Lib.hid (by rw [← hA2.out, flat_end cases _ k (by omega), List.nil_append, HRS.out])
          clear hA2
          go_wp2_with fail
          go_roundg (hs.length - (j + 1))
          case measure => omega
          case rel => exact ⟨j + 1, acc2, by go_num, by omega, rfl, hA3, HI2⟩
    · have hlt : ¬ (j : Int) < (hs.length : Int) := by omega
      have hA2 : Hid (acc ++ (es.drop 0).flatMap (fun e => setXs e.sets) = T) := Lib.hid (by rw [← hA.out, flat_end hs _ j (by omega), List.nil_append, HL2.out, List.drop_zero])
      clear hA
      go_wp2_with fail
      clear r0 r1
      go_loopg [3, 10] es.length (fun n t i wr => ∃ (m : Nat) (acc : List Xp), i = .int .i64 m ∧ m ≤ es.length ∧ n = es.length - m ∧ Hid (acc ++ (es.drop m).flatMap (fun e => setXs e.sets) = T) ∧ Hid (ExIn w SR t acc wr))
      case atStart => exact ⟨0, _, rfl, by omega, rfl, hA2, HI⟩
      case round =>
        clear hA2 HI
        obtain ⟨m, acc2, rfl, hm, rfl, hA2, HI⟩ := hrel
        have r1 : wr.cell? ⟨w.heap.size, 1, none⟩ = some (.slice ea es.length ecap) := by have := HI.out.box; rw [HSR.out] at this; exact cell_blk this 1
        by_cases hml : m < es.length
        · have hlt4 : (m : Int) < (es.length : Int) := by omega
          obtain ⟨a', cap', hv, -, -, g3⟩ := HE.out.keep HI.out.upd
          simp only [Value.slice.injEq] at hv
          obtain ⟨rfl, -, rfl⟩ := hv
          obtain ⟨b4, off4, rfl, hy⟩ := g3 m hml
          obtain ⟨⟨x0, x1, x2⟩, hsets, -⟩ := hy
          have hls := (HSM.out.2.2.2 es[m] (List.getElem_mem hml)).1
          have HCL := Lib.hid (refSets_ok es[m].sv es[m].sets wr hsets (by omega))
          have HKS := Lib.hid (kids_sl (kids_sets hsets))
          obtain ⟨sa, sc, hsv, -, -⟩ := hsets.isSlice
          have hA5 : Hid (acc2 ++ (setXs es[m].sets ++ (es.drop (m + 1)).flatMap (fun e => setXs e.sets)) = T) := Lib.hid (by rw [← hA2.out, flat_drop es _ m hml])
          clear g3 hsets hls hA2 x2
          generalize es[m] = y at *
          obtain ⟨ety, esv, sets, edv, drops⟩ := y
          dsimp only at hsv x0 x1 HCL HKS hA5
          subst hsv
          have HSU : Hid (acc2.length + (setXs sets).length ≤ 150000) := Lib.hid (by
            have h1 := congrArg List.length hA5.out
            have h2 := HTL.out
            simp only [List.length_append] at h1
            omega)
          have hA6 : Hid ((acc2 ++ setXs sets) ++ (es.drop (m + 1)).flatMap (fun e => setXs e.sets) = T) := Lib.hid (by rw [List.append_assoc]; exact hA5.out)
          clear hA5
          generalize setXs sets = xs at *
          go_wp2_with fail
          refine HCL.out.mono ?_
          rintro e w5 ⟨r, rfl, ho5, hu5⟩
          have HI5 := Lib.hid (HI.out.keep hu5)
          obtain ⟨ra, rc, rfl⟩ := OwnX.slice ho5
          have HSR5 := Lib.hid ho5.src
          have hs5 := HI5.out.lt
          clear hu5 ho5 HI HCL x0 x1 r1
          go_wp2_with (at_builtin; refine wpList_append_exp rfl _ _ rfl (base := w.heap.size + 1) (l := acc2) (A := ra) (c := rc) (r := xs) rfl HI5.out.own rfl HSR5.out HKS.out ?c1 ?c2 ?_)
          case c1 => have := HSU.out; omega
          case c2 => omega
          intro v7 w7 ho7 hg7
          have HI7 := Lib.hid (HI5.out.grow hg7 ho7)
          clear ho7 hg7 HI5 HSR5
          go_wp2_with fail
          go_roundg (es.length - (m + 1))
          case measure => omega
          case rel => exact ⟨m + 1, _, by go_num, by omega, rfl, hA6, HI7⟩
        · have hlt2 : ¬ (m : Int) < (es.length : Int) := by omega
          have hA3 : acc2 = T := by rw [← hA2.out, flat_end es _ m (by omega), List.append_nil]
          subst hA3
          go_wp2_with fail
          go_ret
          exact ⟨_, rfl, HI.out.own.base (by omega), HI.out.upd⟩
end Go.Proofs.YtajppgngoffonaaGreatDoor
