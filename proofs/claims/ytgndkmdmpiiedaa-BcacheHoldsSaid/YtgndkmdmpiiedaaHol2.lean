/- BcacheHolds, the walk: the law returns true and turns nothing that was there. -/
import Derived.Test.YtgndkmdmpiiedaaHol1
import Derived.Test.YtgndkmdmpiiedaaOld1
namespace Go.Proofs.Ytgndkmdmpiiedaa
open Go.RowKit
namespace bcacheHolds

def Inv (W : World) (c m M : Nat) (pin : ByteArray) (wr : World) (l : List (Nd ByteArray Int)) : Prop :=
  Rep SI.cfg wr c m M l ∧ SI.HInv pin M l ∧ Upd [] W wr ∧ ∀ q ∈ foot c m l, W.heap.size ≤ q

theorem Inv.next {W wr w' : World} {c m M : Nat} {pin : ByteArray} {l l' : List (Nd ByteArray Int)} (h : Inv W c m M pin wr l) (h1 : Rep SI.cfg w' c m M l') (h2 : SI.HInv pin M l')
    (h3 : Upd (foot c m l) wr w') (h4 : ∀ q ∈ foot c m l', q ∈ foot c m l ∨ wr.heap.size ≤ q) : Inv W c m M pin w' l' := by
  obtain ⟨_, _, g3, g4⟩ := h
  refine ⟨h1, h2, g3.next h3 (fun q hq hlt => by have := g4 q hq; omega), fun q hq => ?_⟩
  rcases h4 q hq with h | h
  · exact g4 q h
  · have := g3.size; omega

set_option maxRecDepth 100000 in
set_option maxHeartbeats 2000000 in
theorem walk (most : Int) (a : Option Addr) (len cap : Nat) (ss : List ByteArray) (pin : ByteArray) (W : World) (h1 : -9223372036854775808 ≤ most) (h2 : most ≤ 9223372036854775807)
    (hcell : ∀ j, j < len → ∃ b off, a = some ⟨b, off, none⟩ ∧ W.cell? ⟨b, off + j, none⟩ = some (.string (ss.getD j ByteArray.empty))) (hm : len ≤ 9223372036854775807) :
    Calls Try.prog 4 #[.int .i64 most, .slice a len cap, .string pin] W fun e w' => e = .returned (.bool true) ∧ Upd [] W w' := by
  have HC := Lib.hid hcell
  clear hcell
  go_enter Try.func4, Try.ntmps4
  go_wp2_with fail
  refine (awake_ok W).mono ?_
  rintro e w1 ⟨rfl, hU⟩
  go_wp2_with fail
  refine (pick_ok most 20 w1 h1 h2 (by omega) (by omega)).mono ?_
  rintro e w1' ⟨⟨r, rfl, hr0, hr1⟩, rfl⟩
  obtain ⟨r, rfl⟩ := Int.eq_ofNat_of_zero_le hr0
  go_wp2_with fail
  obtain ⟨M, hM⟩ : ∃ M : Nat, 1 + (r : Int) = M := ⟨1 + r, by omega⟩
  rw [hM]
  have hM1 : 1 ≤ M := by omega
  have hM2 : M ≤ 20 := by omega
  clear hM hr0 hr1
  refine (SI.new_ok M w1 (by omega) (by omega)).mono ?_
  rintro e w2 ⟨c, m, rfl, hR, hU2, hc, hmm⟩
  have hV := hU.fresh hU2 (by simp)
  have hW1 := hU.size
  clear hU hU2
  by_cases hM3 : M = 1
  · subst hM3
    have HV := Lib.hid hV
    clear hV hR hM1 hM2
    go_wp2_with fail
    obtain ⟨M, hM⟩ : ∃ M : Nat, (2 : Int) = M := ⟨2, rfl⟩
    rw [hM]
    have hM4 : 2 ≤ M := by omega
    have hM2 : M ≤ 20 := by omega
    clear hM hc hmm
    refine (SI.new_ok M w2 (by omega) (by omega)).mono ?_
    rintro e w2' ⟨c, m, rfl, hR, hU2, hc, hmm⟩
    have HS : Hid (Rep SI.cfg w2' c m M [] ∧ Upd [] W w2' ∧ W.heap.size ≤ c ∧ W.heap.size ≤ m) := Lib.hid (by
      have h1 := HV.out.size
      exact ⟨hR, HV.out.fresh hU2 (by simp), by omega, by omega⟩)
    clear hR hU2 HV hc hmm hW1
    go_wp2_with fail
    refine (SI.put_new w2' HS.out.1 pin (by simp) (-1) true (by simp; omega)).mono ?_
    rintro e w3 ⟨p, rfl, hR3, hU3, hp⟩
    have HP : Hid (Upd [] W w3 ∧ ∀ q ∈ foot c m [(⟨p, { k := pin, v := -1, d := true, p := 0 }⟩ : Nd ByteArray Int)], W.heap.size ≤ q) := Lib.hid ⟨HS.out.2.1.fresh hU3 (by simp; exact ⟨HS.out.2.2.1, HS.out.2.2.2⟩), by have h1 := HS.out.2.2; have h2 := HS.out.2.1.size; simp; omega⟩
    clear hU3
    go_wp2_with fail
    refine (SI.pin_hit (l1 := []) (l2 := []) w3 hR3 pin rfl (by simp)).mono ?_
    rintro e w4 ⟨rfl, hR4, hU4⟩
    have HI : Hid (Inv W c m M pin w4 [⟨p, { k := pin, v := -1, d := true, p := 1 }⟩]) := Lib.hid (by
      refine ⟨hR4, ⟨by simp; omega, ⟨_, List.mem_singleton.2 rfl, rfl, rfl, rfl⟩, by simp⟩, HP.out.1.next hU4 (fun q hq hlt => by have := HP.out.2 q hq; omega), fun q hq => HP.out.2 q (by simpa using hq)⟩)
    clear HP hR3 hR4 hU4 HS hp
    go_wp2_with fail
    go_loopg [6, 11] 200 (fun n _ i wr => ∃ (idx : Nat) (l : List (Nd ByteArray Int)), i = .int .i64 idx ∧ idx ≤ 200 ∧ n = 200 - idx ∧ Inv W c m M pin wr l)
    case atStart => exact ⟨0, _, rfl, by omega, rfl, HI.out⟩
    case round =>
      obtain ⟨idx, l, rfl, hi, rfl, hI⟩ := hrel
      have HI := Lib.hid hI
      clear hI
      by_cases hlt : idx < len ∧ idx < 200
      · obtain ⟨hlt, hlt2⟩ := hlt
        obtain ⟨b, off, rfl, hcj⟩ := HC.out idx hlt
        have hbl := World.block_lt_of_cell? _ _ hcj
        have hcw : ∀ w' : World, Upd [] W w' → w'.cell? ⟨b, off + idx, none⟩ = some (.string (ss.getD idx ByteArray.empty)) := fun w' hu => by
          rw [World.cell?_of_block (hu.block b hbl (by simp))]; exact hcj
        clear hcj
        generalize ss.getD idx ByteArray.empty = k at hcw
        have HCW := Lib.hid hcw
        have hc0 := hcw wr HI.out.2.2.1
        clear hcw hbl
        by_cases hk : k = pin
        · subst hk
          have hkk : (k.toList == k.toList) = true := by simp
          go_wp2_with fail
          go_roundg (200 - (idx + 1))
          case measure => omega
          case rel => exact ⟨idx + 1, l, by go_num, by omega, rfl, HI.out⟩
        · have hkk : (k.toList == pin.toList) = false := by rw [← beq_toListBytes, bytes_beq]; simpa using hk
          have HK := Lib.hid hk
          clear hk
          go_wp2_with fail
          refine (SI.put_hold wr HI.out.1 HI.out.2.1 hM4 k HK.out idx false).mono ?_
          rintro e w5 ⟨gk, gv, went, gd, l5, rfl, hne, hR5, hI5, hx5, hU5, hf5⟩
          have HI5 := Lib.hid (HI.out.next hR5 hI5 hU5 hf5)
          have HX5 := Lib.hid hx5
          have hc1 := HCW.out w5 HI5.out.2.2.1
          have hg : went = true → (gk.toList == pin.toList) = false := fun q => by rw [← beq_toListBytes, bytes_beq]; simpa using hne q
          have HG := Lib.hid hg
          clear hR5 hI5 hx5 hU5 hf5 hne hg hc0
          go_wp2_with fail
          refine (SI.get_hold w5 HI5.out.1 HI5.out.2.1 k idx HX5.out).mono ?_
          rintro e w6 ⟨l6, rfl, hR6, hI6, hU6, hf6⟩
          have HI6 := Lib.hid (HI5.out.next hR6 hI6 hU6 (fun q hq => .inl (hf6 q hq)))
          have hl6 : l6.length ≤ M := hI6.1
          clear hR6 hI6 hU6 hf6 hc1 hkk
          cases went
          · go_wp2_with fail
            refine (SI.len_ok w6 HI6.out.1).mono ?_
            rintro e w7 ⟨rfl, rfl⟩
            go_wp2_with fail
            go_roundg (200 - (idx + 1))
            case measure => omega
            case rel => exact ⟨idx + 1, l6, by go_num, by omega, rfl, HI6.out⟩
          · have hgp : (gk.toList == pin.toList) = false := HG.out rfl
            go_wp2_with fail
            refine (SI.len_ok w6 HI6.out.1).mono ?_
            rintro e w7 ⟨rfl, rfl⟩
            go_wp2_with fail
            go_roundg (200 - (idx + 1))
            case measure => omega
            case rel => exact ⟨idx + 1, l6, by go_num, by omega, rfl, HI6.out⟩
      · have hor : (idx < len ∧ ¬ idx < 200) ∨ ¬ idx < len := by omega
        clear hlt
        rcases hor with ⟨q1, q2⟩ | q1
        all_goals
          go_wp2_with fail
          refine (SI.get_hold wr HI.out.1 HI.out.2.1 pin (-1) (by obtain ⟨x, hx, h1, h2, h3⟩ := HI.out.2.1.2.1; exact ⟨x, hx, h1, h2⟩)).mono ?_
          rintro e w6 ⟨l6, rfl, hR6, hI6, hU6, hf6⟩
          have HI6 := Lib.hid (HI.out.next hR6 hI6 hU6 (fun q hq => .inl (hf6 q hq)))
          clear hR6 hI6 hU6 hf6
          go_wp2_with fail
          go_ret
          exact ⟨rfl, HI6.out.2.2.1⟩

  · have hz : ((M : Int) == 1) = false := by simp; omega
    have HS : Hid (Rep SI.cfg w2 c m M [] ∧ Upd [] W w2 ∧ W.heap.size ≤ c ∧ W.heap.size ≤ m) := Lib.hid ⟨hR, hV, by omega, by omega⟩
    clear hR hV hc hmm hW1
    have hM4 : 2 ≤ M := by omega
    clear hM3 hM1
    go_wp2_with fail
    clear hz
    refine (SI.put_new w2 HS.out.1 pin (by simp) (-1) true (by simp; omega)).mono ?_
    rintro e w3 ⟨p, rfl, hR3, hU3, hp⟩
    have HP : Hid (Upd [] W w3 ∧ ∀ q ∈ foot c m [(⟨p, { k := pin, v := -1, d := true, p := 0 }⟩ : Nd ByteArray Int)], W.heap.size ≤ q) := Lib.hid ⟨HS.out.2.1.fresh hU3 (by simp; exact ⟨HS.out.2.2.1, HS.out.2.2.2⟩), by have h1 := HS.out.2.2; have h2 := HS.out.2.1.size; simp; omega⟩
    clear hU3
    go_wp2_with fail
    refine (SI.pin_hit (l1 := []) (l2 := []) w3 hR3 pin rfl (by simp)).mono ?_
    rintro e w4 ⟨rfl, hR4, hU4⟩
    have HI : Hid (Inv W c m M pin w4 [⟨p, { k := pin, v := -1, d := true, p := 1 }⟩]) := Lib.hid (by
      refine ⟨hR4, ⟨by simp; omega, ⟨_, List.mem_singleton.2 rfl, rfl, rfl, rfl⟩, by simp⟩, HP.out.1.next hU4 (fun q hq hlt => by have := HP.out.2 q hq; omega), fun q hq => HP.out.2 q (by simpa using hq)⟩)
    clear HP hR3 hR4 hU4 HS hp
    go_wp2_with fail
    go_loopg [6, 11] 200 (fun n _ i wr => ∃ (idx : Nat) (l : List (Nd ByteArray Int)), i = .int .i64 idx ∧ idx ≤ 200 ∧ n = 200 - idx ∧ Inv W c m M pin wr l)
    case atStart => exact ⟨0, _, rfl, by omega, rfl, HI.out⟩
    case round =>
      obtain ⟨idx, l, rfl, hi, rfl, hI⟩ := hrel
      have HI := Lib.hid hI
      clear hI
      by_cases hlt : idx < len ∧ idx < 200
      · obtain ⟨hlt, hlt2⟩ := hlt
        obtain ⟨b, off, rfl, hcj⟩ := HC.out idx hlt
        have hbl := World.block_lt_of_cell? _ _ hcj
        have hcw : ∀ w' : World, Upd [] W w' → w'.cell? ⟨b, off + idx, none⟩ = some (.string (ss.getD idx ByteArray.empty)) := fun w' hu => by
          rw [World.cell?_of_block (hu.block b hbl (by simp))]; exact hcj
        clear hcj
        generalize ss.getD idx ByteArray.empty = k at hcw
        have HCW := Lib.hid hcw
        have hc0 := hcw wr HI.out.2.2.1
        clear hcw hbl
        by_cases hk : k = pin
        · subst hk
          have hkk : (k.toList == k.toList) = true := by simp
          go_wp2_with fail
          go_roundg (200 - (idx + 1))
          case measure => omega
          case rel => exact ⟨idx + 1, l, by go_num, by omega, rfl, HI.out⟩
        · have hkk : (k.toList == pin.toList) = false := by rw [← beq_toListBytes, bytes_beq]; simpa using hk
          have HK := Lib.hid hk
          clear hk
          go_wp2_with fail
          refine (SI.put_hold wr HI.out.1 HI.out.2.1 hM4 k HK.out idx false).mono ?_
          rintro e w5 ⟨gk, gv, went, gd, l5, rfl, hne, hR5, hI5, hx5, hU5, hf5⟩
          have HI5 := Lib.hid (HI.out.next hR5 hI5 hU5 hf5)
          have HX5 := Lib.hid hx5
          have hc1 := HCW.out w5 HI5.out.2.2.1
          have hg : went = true → (gk.toList == pin.toList) = false := fun q => by rw [← beq_toListBytes, bytes_beq]; simpa using hne q
          have HG := Lib.hid hg
          clear hR5 hI5 hx5 hU5 hf5 hne hg hc0
          go_wp2_with fail
          refine (SI.get_hold w5 HI5.out.1 HI5.out.2.1 k idx HX5.out).mono ?_
          rintro e w6 ⟨l6, rfl, hR6, hI6, hU6, hf6⟩
          have HI6 := Lib.hid (HI5.out.next hR6 hI6 hU6 (fun q hq => .inl (hf6 q hq)))
          have hl6 : l6.length ≤ M := hI6.1
          clear hR6 hI6 hU6 hf6 hc1 hkk
          cases went
          · go_wp2_with fail
            refine (SI.len_ok w6 HI6.out.1).mono ?_
            rintro e w7 ⟨rfl, rfl⟩
            go_wp2_with fail
            go_roundg (200 - (idx + 1))
            case measure => omega
            case rel => exact ⟨idx + 1, l6, by go_num, by omega, rfl, HI6.out⟩
          · have hgp : (gk.toList == pin.toList) = false := HG.out rfl
            go_wp2_with fail
            refine (SI.len_ok w6 HI6.out.1).mono ?_
            rintro e w7 ⟨rfl, rfl⟩
            go_wp2_with fail
            go_roundg (200 - (idx + 1))
            case measure => omega
            case rel => exact ⟨idx + 1, l6, by go_num, by omega, rfl, HI6.out⟩
      · have hor : (idx < len ∧ ¬ idx < 200) ∨ ¬ idx < len := by omega
        clear hlt
        rcases hor with ⟨q1, q2⟩ | q1
        all_goals
          go_wp2_with fail
          refine (SI.get_hold wr HI.out.1 HI.out.2.1 pin (-1) (by obtain ⟨x, hx, h1, h2, h3⟩ := HI.out.2.1.2.1; exact ⟨x, hx, h1, h2⟩)).mono ?_
          rintro e w6 ⟨l6, rfl, hR6, hI6, hU6, hf6⟩
          have HI6 := Lib.hid (HI.out.next hR6 hI6 hU6 (fun q hq => .inl (hf6 q hq)))
          clear hR6 hI6 hU6 hf6
          go_wp2_with fail
          go_ret
          exact ⟨rfl, HI6.out.2.2.1⟩

end bcacheHolds
end Go.Proofs.Ytgndkmdmpiiedaa
