/- A view's Cursor, Get, add; within. A view's add. -/
import Derived.Test.YtajppgngoffonaaGreatDoorGPw
namespace Go.Proofs.YtajppgngoffonaaGreatDoor
open Go.RowKit Go.Maps

theorem zeroI (w : World) : (zeroValue 3).run Tryz.prog w = .ok (.int .i64 0) w := Tryz.zeroValue3 w

set_option maxRecDepth 100000 in
theorem vcursor_ok {W0 w : World} {vb mb : Nat} {nm : ByteArray} {sv lv : Value} {sums : List Sm} {us : List U.Up} {cur : Int} {L : List Rw} (h : ViewAt W0 w vb mb nm sv lv sums us cur L) :
    Calls Tryz.prog 12 #[.pointer (some ⟨vb, 0, none⟩)] w fun e w' => e = .returned (.int .i64 cur) ∧ w' = w := by
  have c3 : w.cell? ⟨vb, 3, none⟩ = some (.int .i64 cur) := cell_blk h.box 3
  clear h
  go_enter Tryz.func12, Tryz.ntmps12
  go_wp2_with fail
  go_ret
  exact ⟨rfl, rfl⟩

theorem look_get (L : List Rw) (k : ByteArray) {c : Int} (h : (dataR (H := Unit) L).atKey (.string k.data.toList) (.lit (.int .i64 0)) = .lit (.int .i64 c)) : c = (getR L k).getD 0 := by
  rw [at_dataR] at h
  cases hg : getR L k with
  | none => rw [hg] at h; cases h; rfl
  | some m => rw [hg] at h; cases h; rfl

set_option maxRecDepth 100000 in
theorem vget_ok {W0 w : World} {vb mb : Nat} {nm : ByteArray} {sv lv : Value} {sums : List Sm} {us : List U.Up} {cur : Int} {L : List Rw} (h : ViewAt W0 w vb mb nm sv lv sums us cur L) (k : ByteArray) (hk : k.size ≤ maxLen) :
    Calls Tryz.prog 10 #[.pointer (some ⟨vb, 0, none⟩), .string k] w fun e w' => e = .returned (.tuple #[.int .i64 ((getR L k).getD 0), .bool (getR L k).isSome]) ∧ w' = w := by
  have c4 : w.cell? ⟨vb, 4, none⟩ = some (.map (some mb)) := cell_blk h.box 4
  have hrows := h.rows
  have hkey : keyOf Tryz.prog 9 (.string k) = some (.string k.data.toList) := WideMaps.keyOf_string_mk Tryz.underlying9 hk
  have hh := has_dataR (H := Unit) L k
  have HG := Lib.hid (fun c => look_get L k (c := c))
  clear h
  generalize (getR L k).isSome = th at *
  generalize (getR L k).getD 0 = m at *
  go_enter Tryz.func10, Tryz.ntmps10
  go_wp2_with (at_lookup; refine wpList_lookup_own_ok_int _ rfl _ _ 67 rfl 9 3 .i64 lawS Tryz.underlying67 Tryz.underlying3 (zeroI _) mb _ _ rfl hrows _ _ rfl hkey ?_; intro c hat hwc; obtain rfl := HG.out c hat; rw [hh])
  go_ret2
  exact ⟨rfl, rfl⟩

set_option maxRecDepth 100000 in
theorem pwithin_ok (n : Int) (w : World) : Calls Tryz.prog 43 #[.int .i64 n] w fun e w' => e = .returned (.bool (withinB n)) ∧ w' = w := by
  have hR : Hid (withinB n = decide (-1000000000000000 ≤ n ∧ n ≤ 1000000000000000)) := Lib.hid rfl
  generalize withinB n = R at *
  go_enter Tryz.func43, Tryz.ntmps43
  by_cases h1 : -1000000000000000 ≤ n
  · by_cases h2 : n ≤ 1000000000000000
    · have hR2 : Hid (R = true) := Lib.hid (by rw [hR.out]; simp [h1, h2])
      clear hR
      go_wp2_with fail
      go_ret
      exact ⟨by rw [hR2.out]; rfl, rfl⟩
    · have hR2 : Hid (R = false) := Lib.hid (by rw [hR.out]; simp [h1, h2])
      clear hR
      go_wp2_with fail
      go_ret
      exact ⟨by rw [hR2.out]; rfl, rfl⟩
  · have hR2 : Hid (R = false) := Lib.hid (by rw [hR.out]; simp [h1])
    clear hR
    go_wp2_with fail
    go_ret
    exact ⟨by rw [hR2.out]; rfl, rfl⟩
end Go.Proofs.YtajppgngoffonaaGreatDoor

namespace Go.Proofs.YtajppgngoffonaaGreatDoor
open Go.RowKit Go.Maps

theorem upd_grown {w w' : World} {b : Nat} (g : w.grownBy w' (some b)) : Upd [b] w w' :=
  ⟨g.os, g.output, g.size, fun k hk hn => g.block k hk (fun e => hn (by cases e; simp))⟩

theorem has_of {L : List Rw} {k : ByteArray} {o : Option Int} (h : getR L k = o) : Maps.has (dataR (H := Unit) L) (.string k.data.toList) = o.isSome := by rw [has_dataR, h]

theorem rows_put {w : World} {mb n : Nat} {L : List Rw} (hs : RSrt L) {k : ByteArray} {m : Int} (h : w.ownsMap (H := Unit) Tryz.prog 9 (plainElem Tryz.prog 3) mb n ((dataR L).put (.string k.data.toList) (.lit (.int .i64 m)))) : RowsAt w mb (putR L k m) := by
  rw [put_dataR hs] at h
  exact RowsAt.of h

set_option maxRecDepth 100000 in
set_option maxHeartbeats 1000000 in
theorem vadd_ok {w : World} {vb mb : Nat} {L : List Rw} (c4 : w.cell? ⟨vb, 4, none⟩ = some (.map (some mb))) (hrows : RowsAt w mb L) (hL : RGood L) (k : ByteArray) (n : Int) (hk : k.size ≤ maxLen) :
    Calls Tryz.prog 24 #[.pointer (some ⟨vb, 0, none⟩), .string k, .int .i64 n] w fun e w' => e = .returned (.tuple #[]) ∧ Upd [mb] w w' ∧ RowsAt w' mb (addR L k n) := by
  have hkey : keyOf Tryz.prog 9 (.string k) = some (.string k.data.toList) := WideMaps.keyOf_string_mk Tryz.underlying9 hk
  have HG := Lib.hid (fun c => look_get L k (c := c))
  have HW := Lib.hid (fun (m : Int) (W : World) => pwithin_ok m W)
  have HR0 := Lib.hid hrows
  have hlen : Maps.size (dataR (H := Unit) L) = L.length := size_dataR L
  have hfew := hL.few
  have HS := Lib.hid hL.srt
  have HF := Lib.hid (fun m (h : getR L k = some m) => (hL.fit _ (getR_mem h)).2)
  have hmax : L.length < maxLen := by unfold maxLen; omega
  by_cases h1 : 200 < k.size
  · have hA : Hid (addR L k n = L) := Lib.hid (by unfold addR; rw [if_pos (Or.inl h1)])
    have h1' : (200 : Int) < (k.size : Int) := by omega
    generalize Maps.has (dataR (H := Unit) L) (.string k.data.toList) = th at *
    go_enter Tryz.func24, Tryz.ntmps24
    go_wp2_with (at_lookup; refine wpList_lookup_own_ok_int _ rfl _ _ 67 rfl 9 3 .i64 lawS Tryz.underlying67 Tryz.underlying3 (zeroI _) mb _ _ rfl hrows _ _ rfl hkey ?_; intro c hat hwc)
    (first | go_end0 | refine bodyPost_ret (results_none Tryz.results24 _ _ _) rfl ?_)
    exact ⟨rfl, Upd.refl _ _, by rewrite [hA.out]; exact HR0.out⟩
  · have h1' : ¬ (200 : Int) < (k.size : Int) := by omega
    cases hw1 : withinB n with
    | false =>
      have hA : Hid (addR L k n = L) := Lib.hid (by unfold addR; rw [if_pos (Or.inr hw1)])
      generalize Maps.has (dataR (H := Unit) L) (.string k.data.toList) = th at *
      go_enter Tryz.func24, Tryz.ntmps24
      go_wp2_with (at_lookup; refine wpList_lookup_own_ok_int _ rfl _ _ 67 rfl 9 3 .i64 lawS Tryz.underlying67 Tryz.underlying3 (zeroI _) mb _ _ rfl hrows _ _ rfl hkey ?_; intro c hat hwc)
      refine (HW.out _ _).mono ?_
      rintro e w1 ⟨rfl, hw_⟩
      subst hw_
      rewrite [hw1]
      go_wp2_with fail
      (first | go_end0 | refine bodyPost_ret (results_none Tryz.results24 _ _ _) rfl ?_)
      exact ⟨rfl, Upd.refl _ _, by rewrite [hA.out]; exact HR0.out⟩
    | true =>
      have hin := (withinB_iff n).1 hw1
      have h0 : ¬ (200 < k.size ∨ withinB n = false) := fun q => by
        rcases q with q | q
        · exact h1 q
        · rw [hw1] at q; cases q
      cases hg : getR L k with
      | some m =>
        have hh : Maps.has (dataR (H := Unit) L) (.string k.data.toList) = true := has_of hg
        have hmin := (withinB_iff m).1 (HF.out m hg)
        have hwr : IntKind.i64.wrap (m + n) = m + n := IntWalk.i64_in _ (by omega)
        cases hw2 : withinB (m + n) with
        | false =>
          have hA : Hid (addR L k n = L) := Lib.hid (by unfold addR; rw [if_neg h0, hg]; dsimp only; rw [hw2]; rfl)
          go_enter Tryz.func24, Tryz.ntmps24
          go_wp2_with (at_lookup; refine wpList_lookup_own_ok_int _ rfl _ _ 67 rfl 9 3 .i64 lawS Tryz.underlying67 Tryz.underlying3 (zeroI _) mb _ _ rfl hrows _ _ rfl hkey ?_; intro c hat hwc; have hc := HG.out c hat; rewrite [hg] at hc; simp only [Option.getD_some] at hc; subst hc; clear hat hwc; rewrite [hh])
          refine (HW.out _ _).mono ?_
          rintro e w1 ⟨rfl, hw_⟩
          subst hw_
          rewrite [hw1]
          go_wp2_with fail
          refine (HW.out _ _).mono ?_
          rintro e w2 ⟨rfl, hw_⟩
          subst hw_
          rewrite [hw2]
          go_wp2_with fail
          (first | go_end0 | refine bodyPost_ret (results_none Tryz.results24 _ _ _) rfl ?_)
          exact ⟨rfl, Upd.refl _ _, by rewrite [hA.out]; exact HR0.out⟩
        | true =>
          have hA : Hid (addR L k n = putR L k (m + n)) := Lib.hid (by unfold addR; rw [if_neg h0, hg]; dsimp only; rw [hw2]; rfl)
          have hval : plainElem (H := Unit) Tryz.prog 3 (.int .i64 (m + n)) = some (.lit (.int .i64 (m + n)), []) := plainElem_int Tryz.underlying3 (WalkArith.wf_i64 (by omega))
          go_enter Tryz.func24, Tryz.ntmps24
          go_wp2_with (at_lookup; refine wpList_lookup_own_ok_int _ rfl _ _ 67 rfl 9 3 .i64 lawS Tryz.underlying67 Tryz.underlying3 (zeroI _) mb _ _ rfl hrows _ _ rfl hkey ?_; intro c hat hwc; have hc := HG.out c hat; rewrite [hg] at hc; simp only [Option.getD_some] at hc; subst hc; clear hat hwc; rewrite [hh])
          refine (HW.out _ _).mono ?_
          rintro e w1 ⟨rfl, hw_⟩
          subst hw_
          rewrite [hw1]
          go_wp2_with fail
          refine (HW.out _ _).mono ?_
          rintro e w2 ⟨rfl, hw_⟩
          subst hw_
          rewrite [hw2]
          go_wp2_with (at_mapUpdate; refine wpList_mapUpdate_own _ rfl _ _ _ 67 rfl 9 3 lawS Tryz.underlying67 _ mb _ _ rfl hrows hmax _ _ _ rfl rfl hkey _ [] hval ?_; intro w3 hown3 hgrow3)
          (first | go_end0 | refine bodyPost_ret (results_none Tryz.results24 _ _ _) rfl ?_)
          exact ⟨rfl, upd_grown hgrow3, by rewrite [hA.out]; exact rows_put HS.out hown3⟩
      | none =>
        have hh : Maps.has (dataR (H := Unit) L) (.string k.data.toList) = false := has_of hg
        have hwr : IntKind.i64.wrap (0 + n) = n := by rw [Int.zero_add]; exact IntWalk.i64_in _ (by omega)
        have hw0 : withinB (0 + n) = true := by rw [Int.zero_add]; exact hw1
        have hln : ∀ ty, (Builtin.len_ #[67] ty #[.map (some mb)]).run Tryz.prog w = .ok (.int .i64 L.length) w := fun ty => by
          have := World.ownsMap.len hrows Tryz.underlying67 ty
          rwa [hlen] at this
        by_cases h2 : 200 ≤ L.length
        · have hA : Hid (addR L k n = L) := Lib.hid (by unfold addR; rw [if_neg h0, hg]; dsimp only; rw [if_pos h2])
          have h2' : (200 : Int) ≤ (L.length : Int) := by omega
          go_enter Tryz.func24, Tryz.ntmps24
          go_wp2_with (at_lookup; refine wpList_lookup_own_ok_int _ rfl _ _ 67 rfl 9 3 .i64 lawS Tryz.underlying67 Tryz.underlying3 (zeroI _) mb _ _ rfl hrows _ _ rfl hkey ?_; intro c hat hwc; have hc := HG.out c hat; rewrite [hg] at hc; simp only [Option.getD_none] at hc; subst hc; clear hat hwc; rewrite [hh])
          refine (HW.out _ _).mono ?_
          rintro e w1 ⟨rfl, hw_⟩
          subst hw_
          rewrite [hw1]
          go_wp2_with fail
          refine (HW.out _ _).mono ?_
          rintro e w2 ⟨rfl, hw_⟩
          subst hw_
          rewrite [hw1]
          go_wp2_with fail
          (first | go_end0 | refine bodyPost_ret (results_none Tryz.results24 _ _ _) rfl ?_)
          exact ⟨rfl, Upd.refl _ _, by rewrite [hA.out]; exact HR0.out⟩
        · have hA : Hid (addR L k n = putR L k n) := Lib.hid (by unfold addR; rw [if_neg h0, hg]; dsimp only; rw [if_neg h2])
          have h2' : ¬ (200 : Int) ≤ (L.length : Int) := by omega
          have hval : plainElem (H := Unit) Tryz.prog 3 (.int .i64 n) = some (.lit (.int .i64 n), []) := plainElem_int Tryz.underlying3 (WalkArith.wf_i64 (by omega))
          go_enter Tryz.func24, Tryz.ntmps24
          go_wp2_with (at_lookup; refine wpList_lookup_own_ok_int _ rfl _ _ 67 rfl 9 3 .i64 lawS Tryz.underlying67 Tryz.underlying3 (zeroI _) mb _ _ rfl hrows _ _ rfl hkey ?_; intro c hat hwc; have hc := HG.out c hat; rewrite [hg] at hc; simp only [Option.getD_none] at hc; subst hc; clear hat hwc; rewrite [hh])
          refine (HW.out _ _).mono ?_
          rintro e w1 ⟨rfl, hw_⟩
          subst hw_
          rewrite [hw1]
          go_wp2_with fail
          refine (HW.out _ _).mono ?_
          rintro e w2 ⟨rfl, hw_⟩
          subst hw_
          rewrite [hw1]
          go_wp2_with (at_mapUpdate; refine wpList_mapUpdate_own _ rfl _ _ _ 67 rfl 9 3 lawS Tryz.underlying67 _ mb _ _ rfl hrows hmax _ _ _ rfl rfl hkey _ [] hval ?_; intro w3 hown3 hgrow3)
          (first | go_end0 | refine bodyPost_ret (results_none Tryz.results24 _ _ _) rfl ?_)
          exact ⟨rfl, upd_grown hgrow3, by rewrite [hA.out]; exact rows_put HS.out hown3⟩
end Go.Proofs.YtajppgngoffonaaGreatDoor
