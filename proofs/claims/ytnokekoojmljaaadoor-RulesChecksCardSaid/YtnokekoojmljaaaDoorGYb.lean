/- The document: twice, sets, setNames. -/
import Derived.Test.YtnokekoojmljaaaDoorGYa
import Derived.Test.YtnokekoojmljaaaDoorGLk
import Derived.Test.YtnokekoojmljaaaDoorGHo
namespace Go.Proofs.YtnokekoojmljaaaDoor
open Go.RowKit

set_option maxRecDepth 100000 in
set_option maxHeartbeats 4000000 in
theorem refTwice_ok (v : Value) (l : List ByteArray) (w : World) (h : StrsAt w v l) (hf : ∀ s ∈ l, s.size ≤ 140737488355328) :
    Calls Tryd.prog 62 #[v] w fun e w' => e = .returned (.bool (twice l)) ∧ Upd [] w w' := by
  obtain ⟨a, cap, rfl, g1, g2, g3⟩ := h
  have HG := Lib.hid g3
  have HF := Lib.hid hf
  obtain ⟨T, hT⟩ : ∃ T, T = twice l := ⟨_, rfl⟩
  rw [← hT]
  have HT : Hid (T = twL (l.take 0) (l.drop 0)) := Lib.hid (by rw [hT]; rfl)
  clear g3 hf hT
  unfold maxLen at g2
  go_enter Tryd.func62, Tryd.ntmps62
  go_wp2_with fail
  go_loopg [3] l.length (fun n i wr => ∃ j : Nat, i = .int .i64 j ∧ j ≤ l.length ∧ n = l.length - j ∧ Hid (T = twL (l.take j) (l.drop j)) ∧ Hid (Upd [] w wr))
  case atStart => exact ⟨0, rfl, by omega, rfl, HT, Lib.hid (Upd.refl _ _)⟩
  case round =>
    obtain ⟨j, rfl, hj, rfl, hA, HU⟩ := hrel
    by_cases hjl : j < l.length
    · have hlt : (j : Int) < (l.length : Int) := by omega
      have hst := Lib.hid (twL_step l j hjl)
      obtain ⟨b, off, rfl, hc⟩ := HG.out j hjl
      have c0 : wr.cell? ⟨b, off + j * 1, none⟩ = some (.string l[j]) := cell_keep HU.out hc
      rw [Nat.mul_one] at c0
      have HN := Lib.hid (refName_ok l[j] wr (by have := HF.out l[j] (List.getElem_mem hjl); omega))
      obtain ⟨s, hs⟩ : ∃ s, s = l[j] := ⟨_, rfl⟩
      rw [← hs] at hst c0 HN
      have HS := Lib.hid hs
      clear hs hc
      by_cases hn : nameOk s = true
      · rw [hn] at HN
        have hA2 : Hid (T = ((l.take j).any (fun x => decide (x = s)) || twL (l.take (j + 1)) (l.drop (j + 1)))) := Lib.hid (by rw [hA.out, hst.out, hn]; rfl)
        clear hst hn hA
        go_wp2_with fail
        refine HN.out.mono ?_
        rintro e w2 ⟨rfl, rfl⟩
        go_wp2_with fail
        go_loopg [5] j (fun n i wr => ∃ k : Nat, i = .int .i64 k ∧ k ≤ j ∧ n = j - k ∧ Hid (Upd [] w wr) ∧ Hid (∀ q, q < k → ∀ hq : q < l.length, ¬ l[q] = s))
        case atStart => exact ⟨0, rfl, by omega, rfl, HU, Lib.hid fun q hq => absurd hq (by omega)⟩
        case round =>
          clear HU c0
          obtain ⟨k, rfl, hk, rfl, HU, hQ⟩ := hrel
          have c0 : wr.cell? ⟨b, off + j * 1, none⟩ = some (.string s) := by rw [HS.out]; exact cell_keep HU.out (by obtain ⟨b', off', e', hc'⟩ := HG.out j hjl; cases e'; exact hc')
          rw [Nat.mul_one] at c0
          by_cases hkj : k < j
          · have hkl : k < l.length := by omega
            have hlt2 : (k : Int) < (j : Int) := by omega
            have hlt3 : (k : Int) < (l.length : Int) := by omega
            obtain ⟨b', off', e', hc'⟩ := HG.out k hkl
            cases e'
            have c1 : wr.cell? ⟨b, off + k * 1, none⟩ = some (.string l[k]) := cell_keep HU.out hc'
            rw [Nat.mul_one] at c1
            clear hc'
            by_cases heq : l[k] = s
            · have hR : Hid (T = true) := Lib.hid (by
                rw [hA2.out, show (l.take j).any (fun x => decide (x = s)) = true from List.any_eq_true.2 ⟨l[k], by rw [List.mem_take_iff_getElem]; exact ⟨k, by omega, rfl⟩, by simpa using heq⟩]; rfl)
              have hq : (l[k].toList == s.toList) = true := by rw [eqB, decide_eq_true heq]
              clear heq
              generalize l[k] = y at *
              go_upto_region 10 with (fail)
              go_quiet (fail)
              go_wp2_with fail
              go_ret
              exact ⟨by rw [hR.out]; rfl, HU.out.alike ⟨rfl, rfl, rfl⟩⟩
            · have hq : (l[k].toList == s.toList) = false := by rw [eqB, decide_eq_false heq]
              have hQ2 : Hid (∀ q, q < k + 1 → ∀ hq : q < l.length, ¬ l[q] = s) := Lib.hid fun q hq hl => by
                by_cases h : q < k
                · exact hQ.out q h hl
                · obtain rfl : q = k := by omega
                  exact heq
              clear heq
              generalize l[k] = y at *
              go_upto_region 10 with (fail)
              go_quiet (fail)
              go_wp2_with fail
              go_roundg (j - (k + 1))
              case measure => omega
              case rel => exact ⟨k + 1, by go_num, by omega, rfl, Lib.hid (HU.out.alike ⟨rfl, rfl, rfl⟩), hQ2⟩
          · have hlt2 : ¬ (k : Int) < (j : Int) := by omega
            have hA3 : Hid (T = twL (l.take (j + 1)) (l.drop (j + 1))) := Lib.hid (by
              rw [hA2.out, show (l.take j).any (fun x => decide (x = s)) = false from List.any_eq_false.2 fun x hx => by
                obtain ⟨i, hi, rfl⟩ := List.mem_take_iff_getElem.1 hx
                simpa using hQ.out i (by omega) (by omega)]; rfl)
            clear hA2 c0 hQ
            go_wp2_with fail
            go_roundg (l.length - (j + 1))
            case measure => omega
            case rel => exact ⟨j + 1, by go_num, by omega, rfl, hA3, HU⟩
      · have hn' : nameOk s = false := by simpa using hn
        rw [hn'] at HN
        have hR : Hid (T = true) := Lib.hid (by rw [hA.out, hst.out, hn']; rfl)
        clear hn hn' hst hA
        go_wp2_with fail
        refine HN.out.mono ?_
        rintro e w2 ⟨rfl, rfl⟩
        go_wp2_with fail
        go_ret
        exact ⟨by rw [hR.out]; rfl, HU.out⟩
    · have hlt : ¬ (j : Int) < (l.length : Int) := by omega
      have hR : Hid (T = false) := Lib.hid (by rw [hA.out, List.drop_eq_nil_of_le (by omega)]; rfl)
      go_wp2_with fail
      go_ret
      exact ⟨by rw [hR.out]; rfl, HU.out⟩

set_option maxRecDepth 100000 in
set_option maxHeartbeats 4000000 in
theorem refSets_ok (v : Value) (l : List Asg) (w : World) (h : AsgsAt w v l) (hl : l.length * 72 ≤ 140737488355328) :
    Calls Tryd.prog 65 #[v] w fun e w' => ∃ r, e = .returned r ∧ OwnX w' w.heap.size r (setXs l) ∧ Upd [] w w' := by
  have HS := Lib.hid h
  obtain ⟨a, cap, rfl, g1, g2⟩ := h.isSlice
  clear h
  go_enter Tryd.func65, Tryd.ntmps65
  go_wp2_with fail
  go_loopg [3, 4] l.length (fun n t i wr => ∃ j : Nat, i = .int .i64 j ∧ j ≤ l.length ∧ n = l.length - j ∧ Hid (OwnX wr w.heap.size t ((setXs l).take j)) ∧ Hid (Upd [] w wr))
  case atStart => exact ⟨0, rfl, by omega, rfl, Lib.hid (own_nilX _ _), Lib.hid (Upd.refl _ _)⟩
  case round =>
    obtain ⟨j, rfl, hj, rfl, hO, HU⟩ := hrel
    have htl : ((setXs l).take j).length = j := by rw [List.length_take, setXs_len]; omega
    by_cases hjl : j < l.length
    · have hlt : (j : Int) < (l.length : Int) := by omega
      obtain ⟨a', cap', hv, -, -, g3⟩ := HS.out.keep HU.out
      simp only [Value.slice.injEq] at hv
      obtain ⟨rfl, -, rfl⟩ := hv
      obtain ⟨b, off, rfl, hy⟩ := g3 j hjl
      obtain ⟨c0, hx⟩ := hy
      obtain ⟨c1, c2, c3, c4⟩ := hx.1
      obtain ⟨ya, yc, hys⟩ := hx.2.isSlice
      have htk : Hid ((setXs l).take (j + 1) = (setXs l).take j ++ [l[j].e]) := Lib.hid (by unfold setXs; rw [List.take_add_one, List.getElem?_map, List.getElem?_eq_getElem hjl]; rfl)
      have hle := HU.out.size
      clear g3 hx
      generalize hAg : l[j] = ag at *
      clear hAg
      obtain ⟨anm, ⟨akd, an, as_, aav, akids⟩⟩ := ag
      dsimp only at hys c0 c1 c2 c3 c4 htk
      subst hys
      have HB : Hid ((wr.alloc (boxX ⟨akd, an, as_, .slice ya akids.list.length yc, akids⟩)).heap[wr.heap.size]? = some (boxX ⟨akd, an, as_, .slice ya akids.list.length yc, akids⟩)) := Lib.hid (heap_top _ _)
      obtain ⟨ta, tc, rfl⟩ := OwnX.slice hO.out
      rw [htl] at hO ⊢
      go_wp2_with (at_builtin; refine wpList_append_exp rfl _ _ rfl (base := w.heap.size) (l := (setXs l).take j) (A := some ⟨wr.heap.size, 0, none⟩) (c := 1) (r := [⟨akd, an, as_, .slice ya akids.list.length yc, akids⟩]) rfl (hO.out.alloc _) rfl (srcX_box (by exact HB.out)) ?c0 ?c1 ?c2 ?_)
      case c0 => intro x hx; simp at hx; subst hx; exact ⟨_, _, _, rfl⟩
      case c1 => rw [htl]; simp; omega
      case c2 => simp; omega
      intro v7 w7 ho7 hg7
      have hu7 : Upd [] w w7 := (HU.out.alloc _).grown hg7 (fun q hq => (hO.out.lt q hq).1)
      rw [← htk.out] at ho7
      have HO7 := Lib.hid ho7
      have HU7 := Lib.hid hu7
      clear hu7 ho7 hg7 c0 c1 c2 c3 c4 hO HU HB
      go_wp2_with fail
      go_roundg (l.length - (j + 1))
      case measure => omega
      case rel => exact ⟨j + 1, by go_num, by omega, rfl, HO7, HU7⟩
    · have hlt : ¬ (j : Int) < (l.length : Int) := by omega
      have hO' := hO.out
      rw [List.take_of_length_le (by rw [setXs_len]; omega)] at hO'
      have HO' := Lib.hid hO'
      clear hO hO'
      go_wp2_with fail
      go_ret
      exact ⟨_, rfl, HO'.out, HU.out⟩

set_option maxRecDepth 100000 in
set_option maxHeartbeats 4000000 in
theorem refSetNames_ok (v : Value) (l : List Asg) (w : World) (h : AsgsAt w v l) (hl : l.length * 72 ≤ 140737488355328) :
    Calls Tryd.prog 63 #[v] w fun e w' => ∃ r, e = .returned r ∧ OwnS w' w.heap.size r (l.map Asg.nm) ∧ Upd [] w w' := by
  have HS := Lib.hid h
  obtain ⟨a, cap, rfl, g1, g2⟩ := h.isSlice
  clear h
  go_enter Tryd.func63, Tryd.ntmps63
  go_wp2_with fail
  go_loopg [3, 4] l.length (fun n t i wr => ∃ j : Nat, i = .int .i64 j ∧ j ≤ l.length ∧ n = l.length - j ∧ Hid (OwnS wr w.heap.size t ((l.map Asg.nm).take j)) ∧ Hid (Upd [] w wr))
  case atStart => exact ⟨0, rfl, by omega, rfl, Lib.hid (own_nilS _ _), Lib.hid (Upd.refl _ _)⟩
  case round =>
    obtain ⟨j, rfl, hj, rfl, hO, HU⟩ := hrel
    have htl : ((l.map Asg.nm).take j).length = j := by simp; omega
    by_cases hjl : j < l.length
    · have hlt : (j : Int) < (l.length : Int) := by omega
      obtain ⟨a', cap', hv, -, -, g3⟩ := HS.out.keep HU.out
      simp only [Value.slice.injEq] at hv
      obtain ⟨rfl, -, rfl⟩ := hv
      obtain ⟨b, off, rfl, hy⟩ := g3 j hjl
      have c0 := hy.1
      have htk : Hid ((l.map Asg.nm).take (j + 1) = (l.map Asg.nm).take j ++ [l[j].nm]) := Lib.hid (by rw [List.take_add_one, List.getElem?_map, List.getElem?_eq_getElem hjl]; rfl)
      have hle := HU.out.size
      clear g3 hy
      generalize l[j].nm = anm at *
      have HB : Hid ((wr.alloc (.cells #[.string anm] 9)).heap[wr.heap.size]? = some (.cells #[.string anm] 9 (0, 0))) := Lib.hid (heap_top _ _)
      go_wp2_with (at_builtin; refine wpList_append_str rfl _ _ rfl (base := w.heap.size) (l := (l.map Asg.nm).take j) (A := some ⟨wr.heap.size, 0, none⟩) (c := 1) (r := [anm]) rfl (hO.out.alloc _) rfl (srcS_box (by exact HB.out)) ?c1 ?c2 ?_)
      case c1 => rw [htl]; simp; omega
      case c2 => simp; omega
      intro v7 w7 ho7 hg7
      have hu7 : Upd [] w w7 := (HU.out.alloc _).grown hg7 (fun q hq => (hO.out.lt q hq).1)
      rw [← htk.out] at ho7
      have HO7 := Lib.hid ho7
      have HU7 := Lib.hid hu7
      clear hu7 ho7 hg7 c0 hO HU HB
      go_wp2_with fail
      go_roundg (l.length - (j + 1))
      case measure => omega
      case rel => exact ⟨j + 1, by go_num, by omega, rfl, HO7, HU7⟩
    · have hlt : ¬ (j : Int) < (l.length : Int) := by omega
      have hO' := hO.out
      rw [List.take_of_length_le (by simp; omega)] at hO'
      have HO' := Lib.hid hO'
      clear hO hO'
      go_wp2_with fail
      go_ret
      exact ⟨_, rfl, HO'.out, HU.out⟩
end Go.Proofs.YtnokekoojmljaaaDoor
