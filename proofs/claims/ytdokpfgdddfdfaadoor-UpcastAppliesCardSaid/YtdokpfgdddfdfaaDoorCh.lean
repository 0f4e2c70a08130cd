/- The changes show and scale. -/
import Derived.Test.YtdokpfgdddfdfaaDoorIt
namespace Go.Proofs.YtdokpfgdddfdfaaDoor
open Go.RowKit

def FitN (x : Fd) : Prop := -9223372036854775808 ≤ x.n ∧ x.n ≤ 9223372036854775807

def showF (l : List Fd) (f : Fd) : List Fd := if f.tx then l else setF l { nm := f.nm, tx := true, n := 0, s := itoaB f.n }

set_option maxRecDepth 100000 in
set_option maxHeartbeats 1600000 in
theorem ch3_ok (v : Value) (l : List Fd) (c : Ch) (f : Fd) (w : World) (h : RecAt w v l) (hl : (l.length + 1) * 48 ≤ 140737488355328) (hT : Tab w) (hf : FitN f) :
    Calls Tryd.prog 51 #[v, aggC c, aggF f] w (RP (showF l f) v w) := by
  have HR := Lib.hid (fun (W : World) (u : Upd [] w W) => h.keep u)
  have HRP := Lib.hid h
  obtain ⟨a, cap, rfl, -, -⟩ := h.isSlice
  clear h
  obtain ⟨nm, tx, n, s⟩ := f
  cases tx with
  | true =>
    have HF : Hid (showF l ⟨nm, true, n, s⟩ = l) := Lib.hid rfl
    go_enter Tryd.func51, Tryd.ntmps51
    go_wp2_with fail
    go_ret
    rw [HF.out]
    exact RP.same HRP.out (((Upd.refl [] w).alloc _).alloc _)
  | false =>
    have HF : Hid (showF l ⟨nm, false, n, s⟩ = setF l ⟨nm, true, 0, itoaB n⟩) := Lib.hid rfl
    have u0 : Upd [] w ((w.alloc (boxC c)).alloc (boxF ⟨nm, false, n, s⟩)) := ((Upd.refl [] w).alloc _).alloc _
    have HU0 := Lib.hid u0
    have HT := Lib.hid hT
    have HN := Lib.hid hf
    clear u0 hT hf
    go_enter Tryd.func51, Tryd.ntmps51
    go_wp2_with fail
    go_region_held3 (fun w' => w'.cell? ⟨w.heap.size + 1, 0, none⟩ = some (.string nm) ∧ w'.cell? ⟨w.heap.size + 1, 2, none⟩ = some (.int .i64 n))
      (first
        | go_keep
        | (go_split_ands; refine ⟨?_, ?_⟩ <;> (rw [World.cell?_of_block (hu2.block _ (by have := hu1.size; simp at this ⊢; omega) (by simp))]; assumption))
        | (go_split_ands; refine ⟨?_, ?_⟩ <;> (rw [World.cell?_of_block (hu1.block _ (by simp) (by simp))]; simp; done)))
      (first
        | (go_at_call 37; refine (itoa_ok n HN.out.1 HN.out.2 _ (HT.out.upd (by exact HU0.out.drew))).mono ?_; rintro e w1 ⟨rfl, hu1⟩)
        | (go_at_call 32; refine (set_ok _ l ⟨nm, true, 0, itoaB n⟩ _ (HR.out _ (HU0.out.drew.trans hu1)) hl).mono ?_; rintro e w2 ⟨v2, rfl, ho2, hu2⟩))
    all_goals
      have HF2 : Hid (RP (showF l ⟨nm, false, n, s⟩) (.slice a l.length cap) w (.returned v2) w2) := Lib.hid (by
        rw [HF.out]
        exact RP.of_own (HU0.out.drew.trans hu1) ho2 hu2)
      clear ho2 hu2 hu1
      go_wp2_with fail
      go_ret
      exact HF2.out

/-- So many times; none: out of range. -/
def scaleN (a b : Int) : Option Int := if withinB a = true ∧ withinB b = true ∧ withinB (a * b) = true then some (a * b) else none
def scaleF (l : List Fd) (f : Fd) (b : Int) : List Fd := if f.tx then l else match scaleN f.n b with
  | some n => setF l { nm := f.nm, tx := false, n := n, s := ByteArray.empty }
  | none => l

theorem withinB_iff (n : Int) : withinB n = true ↔ -1000000000000000 ≤ n ∧ n ≤ 1000000000000000 := by unfold withinB; simp

/-- Where the product has no room, the quotient tells. -/
theorem quo_tells {a b : Int} (_ha : withinB a = true) (hb : withinB b = true) (hp : withinB (a * b) = false) (hn : withinB (IntKind.i64.wrap (a * b)) = true) : b ≠ 0 ∧ (IntKind.i64.wrap (a * b)).tdiv b ≠ a := by
  rw [withinB_iff] at _ha hb hn
  have hb0 : b ≠ 0 := by
    rintro rfl
    rw [Int.mul_zero] at hp
    exact absurd hp (by decide)
  refine ⟨hb0, fun hq => ?_⟩
  have h1 := Int.tdiv_mul_add_tmod (IntKind.i64.wrap (a * b)) b
  rw [hq] at h1
  have h2 : ((IntKind.i64.wrap (a * b)).tmod b).natAbs < b.natAbs := by
    rw [Int.natAbs_tmod]
    exact Nat.mod_lt _ (by omega)
  have hw : ∃ k : Int, IntKind.i64.wrap (a * b) = a * b + k * 18446744073709551616 := by
    rw [IntKind.wrap_i64]
    generalize a * b = p
    exact ⟨-((p + 9223372036854775808) / 18446744073709551616), by omega⟩
  obtain ⟨k, hk⟩ := hw
  have hr : (IntKind.i64.wrap (a * b)).tmod b = k * 18446744073709551616 := by omega
  rw [hr] at h2
  have hk0 : k = 0 := by omega
  subst hk0
  rw [Int.zero_mul, Int.add_zero] at hk
  rw [hk, ← withinB_iff, hp] at hn
  cases hn

set_option maxRecDepth 100000 in
set_option maxHeartbeats 1600000 in
theorem ch4_ok (v : Value) (l : List Fd) (c : Ch) (f : Fd) (w : World) (h : RecAt w v l) (hl : (l.length + 1) * 48 ≤ 140737488355328) :
    Calls Tryd.prog 52 #[v, aggC c, aggF f] w (RP (scaleF l f c.f.n) v w) := by
  have HR := Lib.hid (fun (W : World) (u : Upd [] w W) => h.keep u)
  have HRP := Lib.hid h
  obtain ⟨a, cap, rfl, -, -⟩ := h.isSlice
  clear h
  obtain ⟨nm, tx, n, s⟩ := f
  obtain ⟨kd, cnm, to, ⟨fnm, ftx, b, fs⟩⟩ := c
  cases tx with
  | true =>
    have HF : Hid (scaleF l ⟨nm, true, n, s⟩ b = l) := Lib.hid rfl
    go_enter Tryd.func52, Tryd.ntmps52
    go_wp2_with fail
    go_ret
    rw [HF.out]
    exact RP.same HRP.out (((Upd.refl [] w).alloc _).alloc _)
  | false =>
    have u0 : Upd [] w ((w.alloc (boxC ⟨kd, cnm, to, ⟨fnm, ftx, b, fs⟩⟩)).alloc (boxF ⟨nm, false, n, s⟩)) := ((Upd.refl [] w).alloc _).alloc _
    have HU0 := Lib.hid u0
    clear u0
    cases hwa : withinB n with
    | false =>
      have HF : Hid (scaleF l ⟨nm, false, n, s⟩ b = l) := Lib.hid (by unfold scaleF scaleN; simp [hwa])
      have HW := Lib.hid hwa
      clear hwa
      go_enter Tryd.func52, Tryd.ntmps52
      go_wp2_with fail
      refine (within_ok n _).mono ?_
      rintro e w1 ⟨rfl, rfl⟩
      rw [HW.out]
      go_wp2_with fail
      go_ret
      rw [HF.out]
      exact RP.same HRP.out HU0.out
    | true =>
      cases hwb : withinB b with
      | false =>
        have HF : Hid (scaleF l ⟨nm, false, n, s⟩ b = l) := Lib.hid (by unfold scaleF scaleN; simp [hwb])
        have HA := Lib.hid hwa
        have HB := Lib.hid hwb
        clear hwa hwb
        go_enter Tryd.func52, Tryd.ntmps52
        go_wp2_with fail
        refine (within_ok n _).mono ?_
        rintro e w1 ⟨rfl, rfl⟩
        rw [HA.out]
        go_wp2_with fail
        refine (within_ok b _).mono ?_
        rintro e w1 ⟨rfl, rfl⟩
        rw [HB.out]
        go_wp2_with fail
        go_ret
        rw [HF.out]
        exact RP.same HRP.out HU0.out
      | true =>
        have HA := Lib.hid hwa
        have HB := Lib.hid hwb
        clear hwa hwb
        go_enter Tryd.func52, Tryd.ntmps52
        go_wp2_with fail
        refine (within_ok n _).mono ?_
        rintro e w1 ⟨rfl, rfl⟩
        rw [HA.out]
        go_wp2_with fail
        refine (within_ok b _).mono ?_
        rintro e w1 ⟨rfl, rfl⟩
        rw [HB.out]
        go_wp2_with fail
        cases hwp : withinB (n * b) with
        | true =>
          have HF : Hid (scaleF l ⟨nm, false, n, s⟩ b = setF l ⟨nm, false, n * b, ByteArray.empty⟩) := Lib.hid (by unfold scaleF scaleN; simp [HA.out, HB.out, hwp])
          have hw2 := (withinB_iff _).1 hwp
          have hw3 := (withinB_iff _).1 HA.out
          have hwr : wrap64 (n * b) = n * b := IntWalk.wrap64_in _ (by omega)
          rw [hwr]
          have hc : ∀ W, Calls Tryd.prog 53 #[.int .i64 (n * b)] W fun e w' => e = .returned (.bool true) ∧ w' = W := fun W => by have := within_ok (n * b) W; rw [hwp] at this; exact this
          have hwn : IntKind.i64.wrap n = n := IntWalk.i64_in _ (by omega)
          generalize hp : n * b = p at *
          have HP := Lib.hid hp
          clear hp
          by_cases hb0 : b = 0
          · have hnb : (b != 0) = false := by simp [hb0]
            clear hb0
            go_quiet (first | (go_at_call 53; refine Calls.quiet_of_same (hc _)))
            go_wp2_with fail
            have hS := fun W (u : Upd [] w W) => set_ok _ l ⟨nm, false, p, ByteArray.empty⟩ W (HR.out W u) hl
            refine (hS _ (by exact HU0.out.alike ⟨rfl, rfl, rfl⟩)).mono ?_
            rintro e w2 ⟨v2, rfl, ho2, hu2⟩
            have HF2 : Hid (RP (scaleF l ⟨nm, false, n, s⟩ b) (.slice a l.length cap) w (.returned v2) w2) := Lib.hid (by
              rw [HF.out]
              exact RP.of_own (by exact HU0.out.alike ⟨rfl, rfl, rfl⟩) ho2 hu2)
            clear ho2 hu2 hS
            go_wp2_with fail
            go_ret
            exact HF2.out
          · have hq : p.tdiv b = n := by rw [← HP.out]; exact Int.mul_tdiv_cancel _ hb0
            have hnb : (b != 0) = true := by simpa using hb0
            go_quiet (first | (go_at_call 53; refine Calls.quiet_of_same (hc _)))
            go_wp2_with fail
            have hS := fun W (u : Upd [] w W) => set_ok _ l ⟨nm, false, p, ByteArray.empty⟩ W (HR.out W u) hl
            refine (hS _ (by exact HU0.out.alike ⟨rfl, rfl, rfl⟩)).mono ?_
            rintro e w2 ⟨v2, rfl, ho2, hu2⟩
            have HF2 : Hid (RP (scaleF l ⟨nm, false, n, s⟩ b) (.slice a l.length cap) w (.returned v2) w2) := Lib.hid (by
              rw [HF.out]
              exact RP.of_own (by exact HU0.out.alike ⟨rfl, rfl, rfl⟩) ho2 hu2)
            clear ho2 hu2 hS
            go_wp2_with fail
            go_ret
            exact HF2.out
        | false =>
          have HF : Hid (scaleF l ⟨nm, false, n, s⟩ b = l) := Lib.hid (by unfold scaleF scaleN; simp [hwp])
          have HQ := Lib.hid (fun h => quo_tells HA.out HB.out hwp h)
          rw [show IntKind.i64.wrap (n * b) = wrap64 (n * b) by rw [IntKind.wrap_i64, wrap64]] at HQ
          clear hwp
          generalize wrap64 (n * b) = p at *
          cases hwp : withinB p with
          | false =>
            have hc : ∀ W, Calls Tryd.prog 53 #[.int .i64 p] W fun e w' => e = .returned (.bool false) ∧ w' = W := fun W => by have := within_ok p W; rw [hwp] at this; exact this
            clear hwp
            go_quiet (first | (go_at_call 53; refine Calls.quiet_of_same (hc _)))
            go_wp2_with fail
            go_ret
            rw [HF.out]
            exact RP.same HRP.out (by exact HU0.out.alike ⟨rfl, rfl, rfl⟩)
          | true =>
            have hc : ∀ W, Calls Tryd.prog 53 #[.int .i64 p] W fun e w' => e = .returned (.bool true) ∧ w' = W := fun W => by have := within_ok p W; rw [hwp] at this; exact this
            have hw2 := (withinB_iff _).1 hwp
            obtain ⟨hb0, hq⟩ := HQ.out hwp
            have hnb : (b != 0) = true := by simpa using hb0
            have hqa : (p.tdiv b).natAbs ≤ p.natAbs := by rw [Int.natAbs_tdiv]; exact Nat.div_le_self _ _
            have hwq : IntKind.i64.wrap (p.tdiv b) = p.tdiv b := IntWalk.i64_in _ (by omega)
            have hqn : (p.tdiv b != n) = true := by simpa using hq
            have hw64 : wrap64 (p.tdiv b) = p.tdiv b := IntWalk.wrap64_in _ (by omega)
            clear hqa hq hwp
            go_quiet (first | (go_at_call 53; refine Calls.quiet_of_same (hc _)))
            go_wp2_with fail
            go_ret
            rw [HF.out]
            exact RP.same HRP.out (by exact HU0.out.alike ⟨rfl, rfl, rfl⟩)
end Go.Proofs.YtdokpfgdddfdfaaDoor
