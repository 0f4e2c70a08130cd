/- BcachePlays, the walk: the law returns true and turns nothing that was there. -/
import Derived.Test.YtgndkmdmpiiedaaPl3
import Derived.Test.YtgndkmdmpiiedaaAwake
namespace Go.Proofs.Ytgndkmdmpiiedaa
open Go.RowKit
namespace bcachePlays

def CallAt (w : World) (b o : Nat) (kind K V : Int) (D : Bool) : Prop :=
  w.cell? ⟨b, o, none⟩ = some (.int .i64 kind) ∧ w.cell? ⟨b, o + 1, none⟩ = some (.int .i64 K) ∧ w.cell? ⟨b, o + 2, none⟩ = some (.int .i64 V) ∧ w.cell? ⟨b, o + 3, none⟩ = some (.bool D)

theorem CallAt.upd {w w' : World} {b o : Nat} {kind K V : Int} {D : Bool} (h : CallAt w b o kind K V D) (u : Upd [] w w') : CallAt w' b o kind K V D := by
  have hb := World.block_lt_of_cell? _ _ h.1
  have e : ∀ p, w'.cell? ⟨b, p, none⟩ = w.cell? ⟨b, p, none⟩ := fun p => World.cell?_of_block (u.block b hb (by simp))
  unfold CallAt
  rw [e, e, e, e]
  exact h

set_option maxRecDepth 100000 in
set_option maxHeartbeats 2000000 in
theorem walk (most : Int) (a : Option Addr) (len cap : Nat) (W : World)
    (hcell : ∀ j, j < len → ∃ b off kind K V D, a = some ⟨b, off, none⟩ ∧ CallAt W b (off + j * 4) kind K V D) (_hm : len ≤ 9223372036854775807) :
    Calls Try.prog 5 #[.int .i64 most, .slice a len cap] W fun e w' => e = .returned (.bool true) ∧ Upd [] W w' := by
  have HC := Lib.hid hcell
  clear hcell
  by_cases hmost : 1 ≤ most ∧ most ≤ 1024
  · obtain ⟨hm1, hm2⟩ := hmost
    obtain ⟨M, rfl⟩ := Int.eq_ofNat_of_zero_le (show (0 : Int) ≤ most by omega)
    go_enter Try.func5, Try.ntmps5
    go_wp2_with fail
    refine (awake_ok W).mono ?_
    rintro e w1 ⟨rfl, hU⟩
    go_wp2_with fail
    refine (II.new_ok M w1 (by omega) (by omega)).mono ?_
    rintro e w2 ⟨c, m, rfl, hR, hU2, hc, hmm⟩
    have hV := hU.fresh hU2 (by simp)
    have hW1 := hU.size
    have hW2 := hU2.size
    go_wp2_with fail
    refine (Ref.new_ok M W.heap.size w2 (by omega) (by omega) (by omega)).mono ?_
    rintro e w3 ⟨r, rfl, hR3, hU3, hr⟩
    have HB : Hid (Both W c m r M (.slice none 0 0) [] 0 w3) := Lib.hid (by
      refine ⟨hR.keep hU3 (by simp), hR3, by simp, by omega, by simp, hV.trans hU3, fun q hq => ?_, fun q hq hq2 => ?_⟩
      · simp at hq; omega
      · have h1 := hR.lt hq
        simp [Value.ownBlock] at hq2
        omega)
    clear hU hR hU2 hc hmm hV hW1 hW2 hR3 hU3 hr
    go_wp2_with fail
    go_loopg [4, 10] 300 (fun n _ i wr => ∃ (idx : Nat) (lv : Value) (l : List (Nd Int Int)), i = .int .i64 idx ∧ idx ≤ 300 ∧ n = 300 - idx ∧ Both W c m r M lv l idx wr)
    case atStart => exact ⟨0, _, _, rfl, by omega, rfl, HB.out⟩
    case round =>
      obtain ⟨idx, lv, l, rfl, hi, rfl, hI⟩ := hrel
      have HI := Lib.hid hI
      clear hI
      by_cases hlt : idx < len ∧ idx < 300
      · obtain ⟨hlt, hlt2⟩ := hlt
        obtain ⟨b, off, kind, K, V, D, rfl, hc⟩ := HC.out idx hlt
        obtain ⟨c0, c1, c2, c3⟩ := hc.upd HI.out.upd
        clear hc
        go_wp2_with fail
        refine (done_ok HI.out (by omega) kind K V D).mono ?_
        rintro e w4 ⟨rfl, lv', l', hB⟩
        have HB4 := Lib.hid hB
        clear hB
        go_wp2_with fail
        go_roundg (300 - (idx + 1))
        case measure => omega
        case rel => exact ⟨idx + 1, lv', l', by go_num, by omega, rfl, HB4.out⟩
      · have hor : (idx < len ∧ ¬ idx < 300) ∨ ¬ idx < len := by omega
        clear hlt
        rcases hor with ⟨q1, q2⟩ | q1
        all_goals
          go_wp2_with fail
          refine (asked_ok W wr HI.out).mono ?_
          rintro e w5 ⟨rfl, hU5⟩
          have HU5 := Lib.hid (HI.out.upd.trans hU5)
          clear hU5
          go_wp2_with fail
          go_ret
          exact ⟨rfl, HU5.out⟩
  · have hm : most < 1 ∨ 1024 < most := by omega
    clear hmost
    go_enter Try.func5, Try.ntmps5
    go_wp2_with fail
    refine (awake_ok W).mono ?_
    rintro e w1 ⟨rfl, hU⟩
    have HU := Lib.hid hU
    clear hU
    go_wp2_with fail
    refine (II.new_bad most w1 hm).mono ?_
    rintro e w2 ⟨rfl, rfl⟩
    go_wp2_with fail
    refine (Ref.new_bad most w1 hm).mono ?_
    rintro e w3 ⟨rfl, rfl⟩
    go_wp2_with fail
    go_ret
    exact ⟨rfl, HU.out⟩
end bcachePlays
end Go.Proofs.Ytgndkmdmpiiedaa
