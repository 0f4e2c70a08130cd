/- Calls whose answers the document fixes: awake. -/
import Derived.Test.YtajppgngoffonaaDoorGPaw0
namespace Go.Proofs.YtajppgngoffonaaDoor
open Go.RowKit

set_option maxRecDepth 100000 in
set_option maxHeartbeats 4000000 in
theorem awake_ok (w : World) (hT : Tab w) : Calls Tryd.prog 4 #[] w fun e w' => e = .returned (.bool true) ∧ Upd [] w w' := by
  have HT := Lib.hid hT
  clear hT
  go_enter Tryd.func4, Tryd.ntmps4
  go_wp2_with fail
  refine (sums_ok _).mono ?_
  rintro e w1 ⟨B1, rfl, hs1, hu1⟩
  have HN := Lib.hid (new_walk bSums (.slice (some ⟨B1, 0, none⟩) 1 1) (.slice none 0 0) [aSum] [] w1 hs1 ⟨none, 0, rfl, Nat.le_refl _, by unfold maxLen; omega, fun i hi => absurd hi (by simp)⟩ (by simp) (by simp) (by simp))
  have HU1 := Lib.hid hu1
  clear hs1 hu1
  go_wp2_with fail
  refine HN.out.mono ?_
  rintro e w2 ⟨W0, vb, mb, sv', lv', sums', us', rfl, hV, hls, hlk, hlu, hlk2, hu2, hW0⟩
  obtain rfl : us' = [] := List.eq_nil_of_length_eq_zero (by simpa using hlu)
  have hfs : ∀ s ∈ sums', FitS s := fun s hs => by
    obtain ⟨i, hi, rfl⟩ := List.mem_iff_getElem.1 hs
    have hi1 : i < [aSum].length := by rw [← hls]; exact hi
    have h0 : i = 0 := by simpa using hi1
    subst h0
    exact like_fitS (hlk 0 hi1 hi) a_fit
  have htk : ∀ L n, takeR bAcc bTaken [aFd n] sums' L = addR L bAcc n := fun L n => by
    rw [← a_step]
    exact like_take hls (fun i h => hlk i h (by omega)) L
  have hTW : Tab W0 := HT.out.upd (HU1.out.trans hW0)
  have H2 := Lib.hid (And.intro hV (And.intro hfs (And.intro htk (And.intro hTW (And.intro ((HU1.out.trans hW0).size) (HU1.out.trans hu2))))))
  clear hV hfs htk hTW hu2 hlk hlk2 hls hlu HN
  go_wp2_with fail
  refine (taken_ok 0 2 w2).mono ?_
  rintro e w3 ⟨B3, rfl, hr3, hu3⟩
  have HK1 := Lib.hid (take_on (H2.out.1.keep hu3) (aNt 0 2 B3) (by omega) rfl hr3 (a_fitNt 0 2 B3 (by unfold In64; omega) (by unfold In64; omega)) H2.out.2.1 (by simp) (by simp) H2.out.2.2.2.1)
  have HU3 := Lib.hid (H2.out.2.2.2.2.2.trans hu3)
  have hm0 := H2.out.1.v0
  have hm1 := H2.out.1.m0
  clear hr3 hu3
  go_wp2_with fail
  refine HK1.out.mono ?_
  rintro e w4 ⟨rfl, hu4, hV4⟩
  have he4 : entryR [] sums' [] (aNt 0 2 B3) = [⟨bAcc, 2⟩] := by rw [← a_one, ← H2.out.2.2.1]; rfl
  rewrite [he4] at hV4
  have H4 := Lib.hid (And.intro hV4 (HU3.out.next hu4 (fun k hk hlt => by have := H2.out.2.2.2.2.1; simp at hk; omega)))
  clear hu4 hV4 he4 HK1
  go_wp2_with fail
  refine (taken_ok 7 2 w4).mono ?_
  rintro e w5 ⟨B5, rfl, hr5, hu5⟩
  have HK2 := Lib.hid (take_skip (H4.out.1.keep hu5) (aNt 7 2 B5) ⟨_, _, _, rfl⟩ (by show (7 : Int) ≠ 0 + 1; decide))
  have H5 := Lib.hid (And.intro (H4.out.1.keep hu5) (H4.out.2.trans hu5))
  clear hr5 hu5
  go_wp2_with fail
  refine HK2.out.mono ?_
  rintro e w6 ⟨rfl, hu6⟩
  have H6 := Lib.hid (And.intro (H5.out.1.keep hu6) (H5.out.2.trans hu6))
  clear hu6 HK2 H5
  go_wp2_with fail
  refine (taken_ok 1 3 w6).mono ?_
  rintro e w7 ⟨B7, rfl, hr7, hu7⟩
  have HK3 := Lib.hid (take_on (H6.out.1.keep hu7) (aNt 1 3 B7) (by omega) rfl hr7 (a_fitNt 1 3 B7 (by unfold In64; omega) (by unfold In64; omega)) H2.out.2.1 (by simp) (by simp) H2.out.2.2.2.1)
  have HU7 := Lib.hid (H6.out.2.trans hu7)
  clear hr7 hu7
  go_wp2_with fail
  refine HK3.out.mono ?_
  rintro e w8 ⟨rfl, hu8, hV8⟩
  have he8 : entryR [] sums' [⟨bAcc, 2⟩] (aNt 1 3 B7) = [⟨bAcc, 5⟩] := by rw [← a_two, ← H2.out.2.2.1]; rfl
  rewrite [he8] at hV8
  have H8 := Lib.hid (And.intro hV8 (HU7.out.next hu8 (fun k hk hlt => by have := H2.out.2.2.2.2.1; simp at hk; omega)))
  have HG := Lib.hid (vget_ok hV8 bAcc (by unfold maxLen; decide))
  have HC := Lib.hid (vcursor_ok hV8)
  clear hu8 hV8 he8 HK3
  go_wp2_with fail
  refine HG.out.mono ?_
  rintro e w9 ⟨rfl, hw9⟩
  subst hw9
  rewrite [a_get]
  go_wp2_with fail
  refine HC.out.mono ?_
  rintro e w9 ⟨rfl, hw9⟩
  subst hw9
  go_wp2_with fail
  refine (sums_ok _).mono ?_
  rintro e w10 ⟨B10, rfl, hs10, hu10⟩
  have HK := Lib.hid (pcheck_ok bSums (.slice (some ⟨B10, 0, none⟩) 1 1) [aSum] w10 (by show (4 : Nat) ≤ _; omega) hs10 (fun s hs => by obtain rfl := List.mem_singleton.1 hs; exact a_fit))
  rewrite [a_check] at HK
  have HU10 := Lib.hid (H8.out.2.trans hu10)
  clear hs10 hu10
  go_wp2_with fail
  refine HK.out.mono ?_
  rintro e w11 ⟨rfl, hu11⟩
  have HU11 := Lib.hid (HU10.out.trans hu11)
  clear hu11
  go_wp2_with fail
  go_ret
  exact ⟨rfl, HU11.out⟩
end Go.Proofs.YtajppgngoffonaaDoor
