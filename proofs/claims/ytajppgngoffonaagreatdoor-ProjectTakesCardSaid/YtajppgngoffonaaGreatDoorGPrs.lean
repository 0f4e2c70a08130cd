/- A view's rows: out of the map, sorted. -/
import Derived.Maps.RangeWalk
import Derived.Test.YtajppgngoffonaaGreatDoorGPro
import Derived.Test.YtajppgngoffonaaGreatDoorGPr
import Derived.Test.YtajppgngoffonaaGreatDoorGPt
namespace Go.Proofs.YtajppgngoffonaaGreatDoor
open Go.RowKit Go.Sort Go.Lib Go.Maps

theorem keyS_inv {key : Value} {kl : Lit} (h : keyOf Tryz.prog 9 key = some kl) : ∃ x : ByteArray, key = .string x ∧ kl = .string x.data.toList := by
  rw [keyOf_string Tryz.underlying9] at h
  have hu := Tryz.underlying9
  cases key <;> simp [mapKey, hu] at h
  obtain ⟨-, rfl⟩ := h
  exact ⟨_, rfl, rfl⟩

theorem RwOwn.base {w : World} {a b : Nat} {v : Value} {L : List Rw} (h : RwOwn w b v L) (hb : a ≤ b) : RwOwn w a v L := by
  obtain ⟨p, c, hv, h1, h2, h3⟩ := h
  exact ⟨p, c, hv, h1, h2, fun i hi => by obtain ⟨g, e, hg, r⟩ := h3 i hi; exact ⟨g, e, Nat.le_trans hb hg, r⟩⟩

set_option maxRecDepth 100000 in
set_option maxHeartbeats 2000000 in
theorem vrows_ok {W0 w : World} {vb mb : Nat} {nm : ByteArray} {sv lv : Value} {sums : List Sm} {us : List U.Up} {cur : Int} {L : List Rw} (h : ViewAt W0 w vb mb nm sv lv sums us cur L) :
    Calls Tryz.prog 8 #[.pointer (some ⟨vb, 0, none⟩)] w fun e w' => ∃ v, e = .returned v ∧ RwOwn w' w.heap.size v L ∧ Upd [] w w' := by
  have c4 : w.cell? ⟨vb, 4, none⟩ = some (.map (some mb)) := cell_blk h.box 4
  have hrows := h.rows
  have HG := Lib.hid h.good
  have hmb : mb < w.heap.size := hrows.lt
  clear h
  go_enter Tryz.func8, Tryz.ntmps8
  go_wp2_with (first
    | (at_range; refine wpList_range_own _ rfl _ 67 rfl 9 3 lawS Tryz.underlying67 _ mb _ _ rfl hrows ?_; intro w0 hrg0 hg0 hs0)
    | fail)
  go_frame
  go_loopw [3] (fun v wr => ∃ (left : Lit → Bool) (cnt : Nat) (O : List Rw), wr.ranges (H := Unit) Tryz.prog 9 (plainElem Tryz.prog 3) mb w.heap.size L.length (dataR L) left cnt ∧ OwnG cellsR 41 2 wr (w.heap.size + 1) v O ∧ Hid (GoneR L left O) ∧ Hid (Upd [] w wr))
    (fun _ wr => wr.rangeLeft mb w.heap.size)
  case atStart =>
    exact ⟨_, _, [], hrg0, OwnG.nil _ _, Lib.hid (GoneR.start L), Lib.hid ⟨hg0.os, hg0.output, hg0.size, fun k hk _ => hg0.block k hk (by simp)⟩⟩
  case round =>
    obtain ⟨left, cnt, O, hrg, hown, HN, HU⟩ := hrel
    obtain ⟨oa, oc, rfl⟩ := hown.slice
    have hfew := HN.out.few
    have hgf := HG.out.few
    go_wp2_with (first
      | (at_next; refine wpList_next_ranges _ rfl _ rfl 9 lawS (plainElem Tryz.prog 3) Value.string (Value.int .i64) (fun key kl hk => by obtain ⟨x, hx, -⟩ := keyS_inv hk; exact ⟨x, hx⟩) (fun v y hv => by obtain ⟨c, hc, -⟩ := plainElem_int_inv Tryz.underlying3 hv; exact ⟨c, hc⟩) mb w.heap.size L.length _ _ _ rfl hrg ?_ ?_)
      | fail)
    · intro hc0 hl0
      have HS := Lib.hid (sortRw_ok (RwOwn.of hown) (by omega))
      clear hrg hown
      go_wp2_with fail
      refine HS.out.mono ?_
      rintro e w' ⟨rfl, D, hp, hs, hr, F, hu, hF⟩
      obtain rfl := rows_one HG.out.srt HN.out hl0 hp hs
      have HR := Lib.hid (And.intro hr (HU.out.next hu (fun k hk hlt => by have := hF k hk; omega)))
      have hlO : O.length = D.length := hp.length_eq.symm
      clear hp hs hr hu hF HS
      go_wp2_with fail
      go_ret
      refine ⟨_, rfl, ?_, HR.out.2⟩
      have := HR.out.1.base (Nat.le_succ _)
      rw [hlO] at this
      exact this
    · intro x c kl y1 y2 w1 cnt1 hkey hlk hv hat hrg1 hlt hg1 hs1 hen
      obtain ⟨x', hx', rfl⟩ := keyS_inv hkey
      simp only [Value.string.injEq] at hx'
      subst hx'
      obtain ⟨c', hc', hy', -⟩ := plainElem_int_inv Tryz.underlying3 hv
      simp only [Value.int.injEq, true_and] at hc'
      subst hc'
      simp only [Prod.mk.injEq] at hy'
      obtain ⟨rfl, -⟩ := hy'
      have hm : (⟨x, c⟩ : Rw) ∈ L := next_row hat
      have HN1 := Lib.hid (HN.out.step HG.out.srt hlk hm)
      have hfew1 : O.length + 1 ≤ 200 := by have := HN1.out.few; simp at this; omega
      have hm0 : wr.rangeLeft mb w.heap.size = cnt := hrg.left_eq
      have HU1 : Hid (Upd [] w w1) := Lib.hid (Upd.grown HU.out hg1 (fun k hk => by cases hk; exact Nat.le_refl _))
      have hown1 : OwnG cellsR 41 2 w1 (w.heap.size + 1) (.slice oa O.length oc) O := hown.upd (upd_grown hg1) (fun j hj q => by
        have := (hown.block j q).1
        have := List.mem_singleton.1 hj
        omega)
      have hsz1 : w.heap.size < w1.heap.size := hrg1.lt
      clear hrg hown hkey hv hat hlk hg1 HN hm HU hs1
      go_wp2_with (at_builtin; refine wpList_append_G rowT rfl _ _ rfl (l := O) rfl (hown1.upd ((Upd.refl [] w1).alloc _) (by simp)) rfl (srcR_box (x := ⟨x, c⟩) (heap_top _ _)) (one_R _) ?c1 ?c2 ?c3 ?_)
      case c1 => simp; omega
      case c2 => simp; omega
      case c3 => simp; omega
      intro v2 w2 hown2 hgr2 _
      have HU2 : Hid (Upd [] w w2) := Lib.hid (Upd.grown (HU1.out.alloc _) hgr2 (fun k hk => by have := (hown1.block k hk).1; omega))
      have hrg2 := (hrg1.alloc (.cells #[.string x, .int .i64 c] 41)).kept hgr2 (fun q => by have := (hown1.block _ q.symm).1; omega) (fun q => by have := (hown1.block _ q.symm).1; omega)
      clear hown1 hgr2
      obtain ⟨va2, vc2, hv2⟩ := hown2.slice
      subst hv2
      go_wp2_with fail
      go_roundw
      case rel => exact ⟨_, cnt1, O ++ [⟨x, c⟩], hrg2, hown2, HN1, HU2⟩
      case measure => rw [hrg2.left_eq, hm0]; exact hlt
end Go.Proofs.YtajppgngoffonaaGreatDoor
