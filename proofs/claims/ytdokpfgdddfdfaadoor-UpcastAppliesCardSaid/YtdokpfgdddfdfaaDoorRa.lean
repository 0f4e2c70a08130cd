/- The document: the first upcaster of a type and a version; Latest. -/
import Derived.Test.YtdokpfgdddfdfaaDoorPl
namespace Go.Proofs.YtdokpfgdddfdfaaDoor
open Go.RowKit

def posU (l : List Up) (k : ByteArray) (n : Int) : Int := match l.findIdx? (isU k n) with
  | some i => i
  | none => -1

theorem posU_none {l : List Up} {k : ByteArray} {n : Int} (h : ∀ x ∈ l, isU k n x = false) : posU l k n = -1 := by
  unfold posU
  rw [List.findIdx?_eq_none_iff.2 (by intro x hx; simpa using h x hx)]

theorem posU_some {l : List Up} {k : ByteArray} {n : Int} {i : Nat} (hi : i < l.length) (hk : isU k n l[i] = true) (h : ∀ j (hj : j < i), isU k n l[j] = false) : posU l k n = i := by
  unfold posU
  rw [List.findIdx?_eq_some_iff_getElem.2 ⟨hi, by simpa using hk, fun j hj => by simpa using h j hj⟩]

theorem posU_cases (l : List Up) (k : ByteArray) (n : Int) : (posU l k n = -1 ∧ (∀ x ∈ l, isU k n x = false) ∧ findU l k n = none) ∨
    ∃ (i : Nat) (hi : i < l.length), posU l k n = i ∧ isU k n l[i] = true ∧ (∀ j (hj : j < i), isU k n l[j] = false) ∧ findU l k n = some l[i] := by
  cases hf : l.findIdx? (isU k n) with
  | none =>
    have h := List.findIdx?_eq_none_iff.1 hf
    refine Or.inl ⟨by unfold posU; rw [hf], h, ?_⟩
    unfold findU
    rw [List.find?_eq_none]
    intro x hx
    simp [h x hx]
  | some i =>
    obtain ⟨hi, h1, h2⟩ := List.findIdx?_eq_some_iff_getElem.1 hf
    refine Or.inr ⟨i, hi, by unfold posU; rw [hf], h1, fun j hj => by simpa using h2 j hj, ?_⟩
    unfold findU
    rw [List.find?_eq_some_iff_getElem]
    exact ⟨h1, i, hi, rfl, fun j hj => by simpa using h2 j hj⟩

theorem isU_false {k : ByteArray} {n : Int} {u : Up} (h : ¬ (u.ty = k ∧ u.fr = n)) : isU k n u = false := by
  unfold isU
  exact decide_eq_false fun g => h ⟨g.1.symm, g.2.symm⟩
theorem isU_true {k : ByteArray} {n : Int} {u : Up} (h : u.ty = k ∧ u.fr = n) : isU k n u = true := by
  unfold isU
  exact decide_eq_true ⟨h.1.symm, h.2.symm⟩

set_option maxRecDepth 100000 in
set_option maxHeartbeats 1600000 in
theorem find14_same (v : Value) (l : List Up) (k : ByteArray) (m : Int) (w : World) (h : UpsAt w v l) :
    Calls Tryd.prog 20 #[v, .string k, .int .i64 m] w fun e w' => e = .returned (.int .i64 (posU l k m)) ∧ w' = w := by
  obtain ⟨a, cap, rfl, h1, h2, h3⟩ := h
  have H := Lib.hid h3
  unfold maxLen at h2
  clear h3
  go_enter Tryd.func20, Tryd.ntmps20
  go_wp2_with fail
  go_loopg [7] l.length (fun n i wr => ∃ j : Nat, i = .int .i64 j ∧ j ≤ l.length ∧ n = l.length - j ∧ Hid (∀ i (hi : i < j) (hl : i < l.length), isU k m l[i] = false) ∧ wr = w)
  case atStart => exact ⟨0, rfl, by omega, rfl, Lib.hid (by intro i hi; omega), rfl⟩
  case round =>
    obtain ⟨j, rfl, hj, rfl, hA, rfl⟩ := hrel
    by_cases hjl : j < l.length
    · have hlt : (j : Int) < (l.length : Int) := by omega
      obtain ⟨b, off, rfl, ⟨c0, c1, c2⟩, -⟩ := H.out j hjl
      by_cases hk : l[j].ty = k
      · by_cases hm : l[j].fr = m
        · have hp : Hid (posU l k m = j) := Lib.hid (posU_some hjl (isU_true ⟨hk, hm⟩) fun i hi => hA.out i hi (by omega))
          rw [hk] at c0
          rw [hm] at c1
          have hkk : (k.toList == k.toList) = true := by simp
          clear hk hm
          go_wp2_with fail
          go_ret
          exact ⟨by rw [hp.out]; rfl, rfl⟩
        · have hA2 : Hid (∀ i (hi : i < j + 1) (hl : i < l.length), isU k m l[i] = false) := Lib.hid (fun i hi hl => by
            rcases Nat.lt_or_ge i j with h | h
            · exact hA.out i h hl
            · have : i = j := by omega
              subst this; exact isU_false fun g => hm g.2)
          rw [hk] at c0
          have hkk : (k.toList == k.toList) = true := by simp
          have hmm : (l[j].fr == m) = false := by simpa using hm
          clear hk hm
          generalize l[j] = u at *
          go_wp2_with fail
          go_roundg (l.length - (j + 1))
          case measure => omega
          case rel => exact ⟨j + 1, by go_num, by omega, rfl, hA2, rfl⟩
      · have hA2 : Hid (∀ i (hi : i < j + 1) (hl : i < l.length), isU k m l[i] = false) := Lib.hid (fun i hi hl => by
          rcases Nat.lt_or_ge i j with h | h
          · exact hA.out i h hl
          · have : i = j := by omega
            subst this; exact isU_false fun g => hk g.1)
        have hkk : (l[j].ty.toList == k.toList) = false := by rw [← beq_toListBytes, bytes_beq]; simpa using hk
        clear hk
        generalize l[j] = u at *
        go_wp2_with fail
        go_roundg (l.length - (j + 1))
        case measure => omega
        case rel => exact ⟨j + 1, by go_num, by omega, rfl, hA2, rfl⟩
    · have hlt : ¬ (j : Int) < (l.length : Int) := by omega
      have hp : Hid (posU l k m = -1) := Lib.hid (posU_none fun x hx => by
        obtain ⟨i, hi, rfl⟩ := List.mem_iff_getElem.1 hx
        exact hA.out i (by omega) hi)
      go_wp2_with fail
      go_ret
      exact ⟨by rw [hp.out]; rfl, rfl⟩

theorem find14_ok (v : Value) (l : List Up) (k : ByteArray) (m : Int) (w : World) (h : UpsAt w v l) :
    Calls Tryd.prog 20 #[v, .string k, .int .i64 m] w fun e w' => e = .returned (.int .i64 (posU l k m)) ∧ Upd [] w w' :=
  (find14_same v l k m w h).mono fun _ _ ⟨h1, h2⟩ => ⟨h1, by rw [h2]; exact Upd.refl _ _⟩
theorem enters20 : ∀ args w, (callFunc 20 args).run Tryd.prog w = .ok (.enter 20 args) w := enters_of Tryd.func20 (by kernel_rfl) rfl

set_option maxRecDepth 100000 in
set_option maxHeartbeats 1600000 in
theorem latest14_ok (v : Value) (us : List Up) (k : ByteArray) (w : World) (hu : UpsAt w v us) (hus : us.length ≤ 9223372036854775806) : Calls Tryd.prog 14 #[v, .string k] w fun e w' => e = .returned (.int .i64 (latestU us k)) ∧ Upd [] w w' := by
  have HF := Lib.hid (fun (W : World) (u : Upd [] w W) (n : Int) => find14_ok v us k n W (hu.keep u))
  obtain ⟨R, hR⟩ : ∃ R, latestU us k = R := ⟨_, rfl⟩
  have HR := Lib.hid hR
  rw [hR]
  obtain ⟨a, cap, rfl, h1, h2, -⟩ := hu
  unfold maxLen at h2
  clear hR
  go_enter Tryd.func14, Tryd.ntmps14
  go_wp2_with fail
  go_loopg [5] (us.length + 1) (fun n i wr => ∃ j : Nat, i = .int .i64 j ∧ n = us.length + 1 - j ∧ j ≤ us.length + 1 ∧ Hid (R = runN (hasU us k) (us.length + 1 - j) j) ∧ Hid (Upd [] w wr))
  case atStart => exact ⟨0, rfl, rfl, by omega, Lib.hid (by rw [← HR.out]; rfl), Lib.hid (Upd.refl _ _)⟩
  case round =>
    obtain ⟨j, rfl, rfl, hj, hA, hU⟩ := hrel
    by_cases hjl : j ≤ us.length
    · have hle : (j : Int) ≤ (us.length : Int) := by omega
      have hC := Lib.hid (HF.out _ hU.out (j : Int))
      have hst := runN_step (hasU us k) (us.length - j) j
      rw [show us.length - j + 1 = us.length + 1 - j by omega, ← hA.out] at hst
      have hhas : hasU us k j = (findU us k (j : Int)).isSome := rfl
      rcases posU_cases us k (j : Int) with ⟨hp, -, hf⟩ | ⟨i, hi, hp, -, -, hf⟩
      · rw [hhas, hf] at hst
        have HE := Lib.hid (show R = j by simpa using hst)
        rw [hp] at hC
        clear hp hf hst hhas
        go_wp2_with fail
        refine hC.out.mono ?_
        rintro e w1 ⟨rfl, hu1⟩
        have HU1 := Lib.hid (hU.out.trans hu1)
        clear hu1 hC
        go_wp2_with fail
        go_ret
        exact ⟨by rw [HE.out]; rfl, HU1.out⟩
      · rw [hhas, hf] at hst
        have HE := Lib.hid (show R = runN (hasU us k) (us.length - j) (j + 1) by simpa using hst)
        rw [hp] at hC
        have hi0 : (i : Int) ≥ 0 := by omega
        clear hp hf hst hhas
        go_wp2_with fail
        refine hC.out.mono ?_
        rintro e w1 ⟨rfl, hu1⟩
        have HU1 := Lib.hid (hU.out.trans hu1)
        clear hu1 hC
        go_wp2_with fail
        go_roundg (us.length + 1 - (j + 1))
        case measure => omega
        case rel => exact ⟨j + 1, by go_num, rfl, by omega, Lib.hid (by rw [HE.out, show us.length + 1 - (j + 1) = us.length - j by omega]), HU1⟩
    · have hle : ¬ (j : Int) ≤ (us.length : Int) := by omega
      have hR : Hid (R = j) := Lib.hid (by rw [hA.out, show us.length + 1 - j = 0 by omega]; rfl)
      go_wp2_with fail
      go_ret
      exact ⟨by rw [hR.out]; rfl, hU.out⟩
end Go.Proofs.YtdokpfgdddfdfaaDoor
