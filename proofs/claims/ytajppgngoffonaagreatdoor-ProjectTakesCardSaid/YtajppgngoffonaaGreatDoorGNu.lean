/- The ways to put two integers together. -/
import Derived.BigQuiet
import Derived.Shelf.GgClosure.Gives
import Derived.Test.YtajppgngoffonaaGreatDoorGXs
namespace Go.Proofs.YtajppgngoffonaaGreatDoor
open Go.RowKit

theorem quo_tells {a b : Int} (_ha : withinB a = true) (hb : withinB b = true) (hp : withinB (a * b) = false) (hn : withinB (IntKind.i64.wrap (a * b)) = true) : b ≠ 0 ∧ (IntKind.i64.wrap (a * b)).tdiv b ≠ a := by
  rw [withinB_iff] at _ha hb hn
  have hb0 : b ≠ 0 := by
    rintro rfl
    rw [Int.mul_zero] at hp
    exact absurd hp (by decide)
  refine ⟨hb0, fun hq => ?_⟩
  have h1 := Int.tdiv_mul_add_tmod (IntKind.i64.wrap (a * b)) b
  rw [hq] at h1
  have h2 : ((IntKind.i64.wrap (a * b)).tmod b).natAbs < b.natAbs := by
    rw [Int.natAbs_tmod]
    exact Nat.mod_lt _ (by omega)
  have hw : ∃ k : Int, IntKind.i64.wrap (a * b) = a * b + k * 18446744073709551616 := by
    rw [IntKind.wrap_i64]
    generalize a * b = p
    exact ⟨-((p + 9223372036854775808) / 18446744073709551616), by omega⟩
  obtain ⟨k, hk⟩ := hw
  have hr : (IntKind.i64.wrap (a * b)).tmod b = k * 18446744073709551616 := by omega
  rw [hr] at h2
  have hk0 : k = 0 := by omega
  subst hk0
  rw [Int.zero_mul, Int.add_zero] at hk
  rw [hk, ← withinB_iff, hp] at hn
  cases hn

/-- What two integers come to: a number, and whether it is in range. -/
def NumPost (r : Int) (w : World) (e : Ending) (w' : World) : Prop := ∃ m, e = .returned (.tuple #[.int .i64 m, .bool (withinB r)]) ∧ (withinB r = true → m = r) ∧ w' = w

theorem wrap_within {r : Int} (h : withinB r = true) : wrap64 r = r := by
  rw [withinB_iff] at h
  exact IntWalk.wrap64_in _ (by omega)

set_option maxRecDepth 100000 in
theorem add_ok (a b : Int) (ha : In64 a) (hb : In64 b) (w : World) : Calls Tryz.prog 141 #[.int .i64 a, .int .i64 b] w (NumPost (a + b) w) := by
  have h1 := half_rng ha
  have h2 := half_rng hb
  have e1 := Lib.hid (show wrap64 (a.tdiv 2) = a.tdiv 2 from IntWalk.wrap64_in _ (by omega))
  have e2 := Lib.hid (show wrap64 (b.tdiv 2) = b.tdiv 2 from IntWalk.wrap64_in _ (by omega))
  have e3 := Lib.hid (show wrap64 (a.tdiv 2 + b.tdiv 2) = a.tdiv 2 + b.tdiv 2 from IntWalk.wrap64_in _ (by omega))
  have hwr : Hid (withinB (a + b) = true → wrap64 (a + b) = a + b) := Lib.hid fun h => wrap_within h
  have HW := Lib.hid (fun n W => within_ok n W)
  have HT := Lib.hid (add_tells ha hb)
  clear h1 h2
  cases hp : withinB (a.tdiv 2 + b.tdiv 2) with
  | false =>
    have hr : Hid (withinB (a + b) = false) := Lib.hid (by
      rw [Bool.eq_false_iff]; intro h; have := (HT.out.2 h).1; rw [hp] at this; cases this)
    have HP := Lib.hid hp
    clear hp
    go_enter Tryz.func141, Tryz.ntmps141
    go_wp2_with fail
    refine (HW.out _ _).mono ?_
    rintro e w1 ⟨rfl, rfl⟩
    simp only [e1.out, e2.out, e3.out, HP.out]
    go_wp2_with fail
    refine bodyPost_ret (by simp [results, Tryz.results141, go_sem]; try rfl) rfl ?_
    exact ⟨_, (by rw [hr.out]), (fun h => by rw [hr.out] at h; cases h), rfl⟩
  | true =>
    have hr : Hid (withinB (wrap64 (a + b)) = withinB (a + b)) := Lib.hid (by
      rw [Bool.eq_iff_iff]
      constructor
      · intro h; exact HT.out.1 ⟨hp, h⟩
      · intro h; exact (HT.out.2 h).2)
    have HP := Lib.hid hp
    clear hp
    go_enter Tryz.func141, Tryz.ntmps141
    go_wp2_with fail
    refine (HW.out _ _).mono ?_
    rintro e w1 ⟨rfl, rfl⟩
    simp only [e1.out, e2.out, e3.out, HP.out]
    go_wp2_with fail
    refine (HW.out _ _).mono ?_
    rintro e w1 ⟨rfl, rfl⟩
    simp only [hr.out]
    go_wp2_with fail
    refine bodyPost_ret (by simp [results, Tryz.results141, go_sem]; try rfl) rfl ?_
    exact ⟨_, rfl, hwr.out, rfl⟩

set_option maxRecDepth 100000 in
theorem sub_ok (a b : Int) (ha : In64 a) (hb : In64 b) (w : World) : Calls Tryz.prog 143 #[.int .i64 a, .int .i64 b] w (NumPost (a - b) w) := by
  have h1 := half_rng ha
  have h2 := half_rng hb
  have e1 := Lib.hid (show wrap64 (a.tdiv 2) = a.tdiv 2 from IntWalk.wrap64_in _ (by omega))
  have e2 := Lib.hid (show wrap64 (b.tdiv 2) = b.tdiv 2 from IntWalk.wrap64_in _ (by omega))
  have e3 := Lib.hid (show wrap64 (a.tdiv 2 - b.tdiv 2) = a.tdiv 2 - b.tdiv 2 from IntWalk.wrap64_in _ (by omega))
  have hwr : Hid (withinB (a - b) = true → wrap64 (a - b) = a - b) := Lib.hid fun h => wrap_within h
  have HW := Lib.hid (fun n W => within_ok n W)
  have HT := Lib.hid (sub_tells ha hb)
  clear h1 h2
  cases hp : withinB (a.tdiv 2 - b.tdiv 2) with
  | false =>
    have hr : Hid (withinB (a - b) = false) := Lib.hid (by
      rw [Bool.eq_false_iff]; intro h; have := (HT.out.2 h).1; rw [hp] at this; cases this)
    have HP := Lib.hid hp
    clear hp
    go_enter Tryz.func143, Tryz.ntmps143
    go_wp2_with fail
    refine (HW.out _ _).mono ?_
    rintro e w1 ⟨rfl, rfl⟩
    simp only [e1.out, e2.out, e3.out, HP.out]
    go_wp2_with fail
    refine bodyPost_ret (by simp [results, Tryz.results143, go_sem]; try rfl) rfl ?_
    exact ⟨_, (by rw [hr.out]), (fun h => by rw [hr.out] at h; cases h), rfl⟩
  | true =>
    have hr : Hid (withinB (wrap64 (a - b)) = withinB (a - b)) := Lib.hid (by
      rw [Bool.eq_iff_iff]
      constructor
      · intro h; exact HT.out.1 ⟨hp, h⟩
      · intro h; exact (HT.out.2 h).2)
    have HP := Lib.hid hp
    clear hp
    go_enter Tryz.func143, Tryz.ntmps143
    go_wp2_with fail
    refine (HW.out _ _).mono ?_
    rintro e w1 ⟨rfl, rfl⟩
    simp only [e1.out, e2.out, e3.out, HP.out]
    go_wp2_with fail
    refine (HW.out _ _).mono ?_
    rintro e w1 ⟨rfl, rfl⟩
    simp only [hr.out]
    go_wp2_with fail
    refine bodyPost_ret (by simp [results, Tryz.results143, go_sem]; try rfl) rfl ?_
    exact ⟨_, rfl, hwr.out, rfl⟩


theorem mul_in {a b : Int} (ha : withinB a = true) (hb : withinB b = true) (h : withinB (a * b) = true) : (a < 2147483648 ∧ a > -2147483648) ∨ (b < 2147483648 ∧ b > -2147483648) := by
  rw [withinB_iff] at ha hb h
  by_cases h1 : a.natAbs < 2147483648
  · left; omega
  · by_cases h2 : b.natAbs < 2147483648
    · right; omega
    · exfalso
      have h3 : (a * b).natAbs ≤ 1000000000000000 := by omega
      rw [Int.natAbs_mul] at h3
      have h4 : 2147483648 * 2147483648 ≤ a.natAbs * b.natAbs := Nat.mul_le_mul (by omega) (by omega)
      omega

set_option maxRecDepth 100000 in
set_option maxHeartbeats 1000000 in
theorem mul_ok (a b : Int) (ha : In64 a) (hb : In64 b) (w : World) : Calls Tryz.prog 144 #[.int .i64 a, .int .i64 b] w (NumPost (a * b) w) := by
  have HW := Lib.hid (fun n W => within_ok n W)
  by_cases ha0 : a = 0
  · subst ha0
    go_enter Tryz.func144, Tryz.ntmps144
    go_wp2_with fail
    refine bodyPost_ret (by simp [results, Tryz.results144, go_sem]; try rfl) rfl ?_
    exact ⟨0, by simp [withinB], by simp, rfl⟩
  by_cases hb0 : b = 0
  · subst hb0
    go_enter Tryz.func144, Tryz.ntmps144
    go_wp2_with fail
    refine bodyPost_ret (by simp [results, Tryz.results144, go_sem]; try rfl) rfl ?_
    exact ⟨0, by simp [withinB], by simp, rfl⟩
  have ha0' : (a == 0) = false := by simpa using ha0
  have hb0' : (b == 0) = false := by simpa using hb0
  cases hwa : withinB a with
  | false =>
    have hr : Hid (withinB (a * b) = false) := Lib.hid (mul_big hb0 hwa)
    have HA := Lib.hid hwa
    clear hwa
    go_enter Tryz.func144, Tryz.ntmps144
    go_wp2_with fail
    refine (HW.out _ _).mono ?_
    rintro e w1 ⟨rfl, rfl⟩
    simp only [HA.out]
    go_wp2_with fail
    refine bodyPost_ret (by simp [results, Tryz.results144, go_sem]; try rfl) rfl ?_
    exact ⟨_, (by rw [hr.out]), (fun h => by rw [hr.out] at h; cases h), rfl⟩
  | true =>
    cases hwb : withinB b with
    | false =>
      have hr : Hid (withinB (a * b) = false) := Lib.hid (by rw [Int.mul_comm]; exact mul_big ha0 hwb)
      have HA := Lib.hid hwa
      have HB := Lib.hid hwb
      clear hwa hwb
      go_enter Tryz.func144, Tryz.ntmps144
      go_wp2_with fail
      refine (HW.out _ _).mono ?_
      rintro e w1 ⟨rfl, rfl⟩
      simp only [HA.out]
      go_wp2_with fail
      refine (HW.out _ _).mono ?_
      rintro e w1 ⟨rfl, rfl⟩
      simp only [HB.out]
      go_wp2_with fail
      refine bodyPost_ret (by simp [results, Tryz.results144, go_sem]; try rfl) rfl ?_
      exact ⟨_, (by rw [hr.out]), (fun h => by rw [hr.out] at h; cases h), rfl⟩
    | true =>
      cases hwp : withinB (a * b) with
      | true =>
        have hr : Hid (withinB (a * b) = true) := Lib.hid hwp
        have hwr : wrap64 (a * b) = a * b := wrap_within hwp
        have hin := mul_in hwa hwb hwp
        have HWR := Lib.hid hwr
        have HA := Lib.hid hwa
        have HB := Lib.hid hwb
        have hqb : (wrap64 ((wrap64 (a * b)).tdiv b) == a) = true := by
          rw [hwr, Int.mul_tdiv_cancel _ hb0, wrap_within hwa]; simp
        clear hwp hwr
        by_cases g1 : a < 2147483648
        · by_cases g2 : a > -2147483648
          · clear hin
            clear hwa hwb
            go_enter Tryz.func144, Tryz.ntmps144
            go_wp2_with fail
            refine (HW.out _ _).mono ?_
            rintro e w1 ⟨rfl, rfl⟩
            simp only [HA.out]
            go_wp2_with fail
            refine (HW.out _ _).mono ?_
            rintro e w1 ⟨rfl, rfl⟩
            simp only [HB.out]
            go_wp2_with fail
            refine (HW.out _ _).mono ?_
            rintro e w1 ⟨rfl, rfl⟩
            simp only [HWR.out, hr.out]
            go_wp2_with fail
            refine bodyPost_ret (by simp [results, Tryz.results144, go_sem]; try rfl) rfl ?_
            exact ⟨a * b, (by rw [hr.out]), (fun _ => rfl), rfl⟩
          · have g3 : b < 2147483648 := by omega
            have g4 : b > -2147483648 := by omega
            clear hin
            clear hwa hwb
            go_enter Tryz.func144, Tryz.ntmps144
            go_wp2_with fail
            refine (HW.out _ _).mono ?_
            rintro e w1 ⟨rfl, rfl⟩
            simp only [HA.out]
            go_wp2_with fail
            refine (HW.out _ _).mono ?_
            rintro e w1 ⟨rfl, rfl⟩
            simp only [HB.out]
            go_wp2_with fail
            refine (HW.out _ _).mono ?_
            rintro e w1 ⟨rfl, rfl⟩
            simp only [HWR.out, hr.out]
            go_wp2_with fail
            refine bodyPost_ret (by simp [results, Tryz.results144, go_sem]; try rfl) rfl ?_
            exact ⟨a * b, (by rw [hr.out]), (fun _ => rfl), rfl⟩
        · have g3 : b < 2147483648 := by omega
          have g4 : b > -2147483648 := by omega
          clear hin
          clear hwa hwb
          go_enter Tryz.func144, Tryz.ntmps144
          go_wp2_with fail
          refine (HW.out _ _).mono ?_
          rintro e w1 ⟨rfl, rfl⟩
          simp only [HA.out]
          go_wp2_with fail
          refine (HW.out _ _).mono ?_
          rintro e w1 ⟨rfl, rfl⟩
          simp only [HB.out]
          go_wp2_with fail
          refine (HW.out _ _).mono ?_
          rintro e w1 ⟨rfl, rfl⟩
          simp only [HWR.out, hr.out]
          go_wp2_with fail
          refine bodyPost_ret (by simp [results, Tryz.results144, go_sem]; try rfl) rfl ?_
          exact ⟨a * b, (by rw [hr.out]), (fun _ => rfl), rfl⟩
      | false =>
        have hr : Hid (withinB (a * b) = false) := Lib.hid hwp
        have HA := Lib.hid hwa
        have HB := Lib.hid hwb
        cases hn : withinB (wrap64 (a * b)) with
        | true =>
          have hqb : (wrap64 ((wrap64 (a * b)).tdiv b) == a) = false := by
            have hwe : IntKind.i64.wrap (a * b) = wrap64 (a * b) := by rw [IntKind.wrap_i64, wrap64]
            have h := (quo_tells hwa hwb hwp (by rw [hwe]; exact hn)).2
            have hl := (withinB_iff _).1 hn
            have hqa : ((wrap64 (a * b)).tdiv b).natAbs ≤ (wrap64 (a * b)).natAbs := by rw [Int.natAbs_tdiv]; exact Nat.div_le_self _ _
            rw [IntWalk.wrap64_in ((wrap64 (a * b)).tdiv b) (by omega)]
            rw [hwe] at h
            simpa using h
          clear hn hwp
          clear hwa hwb
          go_enter Tryz.func144, Tryz.ntmps144
          go_wp2_with fail
          refine (HW.out _ _).mono ?_
          rintro e w1 ⟨rfl, rfl⟩
          simp only [HA.out]
          go_wp2_with fail
          refine (HW.out _ _).mono ?_
          rintro e w1 ⟨rfl, rfl⟩
          simp only [HB.out]
          go_wp2_with fail
          refine bodyPost_ret (by simp [results, Tryz.results144, go_sem]; try rfl) rfl ?_
          exact ⟨_, (by rw [hr.out]), (fun h => by rw [hr.out] at h; cases h), rfl⟩
        | false =>
          have HN := Lib.hid hn
          cases hqb : (wrap64 ((wrap64 (a * b)).tdiv b) == a) with
          | true =>
            clear hn hwp
            clear hwa hwb
            go_enter Tryz.func144, Tryz.ntmps144
            go_wp2_with fail
            refine (HW.out _ _).mono ?_
            rintro e w1 ⟨rfl, rfl⟩
            simp only [HA.out]
            go_wp2_with fail
            refine (HW.out _ _).mono ?_
            rintro e w1 ⟨rfl, rfl⟩
            simp only [HB.out]
            go_wp2_with fail
            refine (HW.out _ _).mono ?_
            rintro e w1 ⟨rfl, rfl⟩
            simp only [HN.out]
            go_wp2_with fail
            refine bodyPost_ret (by simp [results, Tryz.results144, go_sem]; try rfl) rfl ?_
            exact ⟨_, (by rw [hr.out]), (fun h => by rw [hr.out] at h; cases h), rfl⟩
          | false =>
            clear hn hwp
            clear hwa hwb
            go_enter Tryz.func144, Tryz.ntmps144
            go_wp2_with fail
            refine (HW.out _ _).mono ?_
            rintro e w1 ⟨rfl, rfl⟩
            simp only [HA.out]
            go_wp2_with fail
            refine (HW.out _ _).mono ?_
            rintro e w1 ⟨rfl, rfl⟩
            simp only [HB.out]
            go_wp2_with fail
            refine bodyPost_ret (by simp [results, Tryz.results144, go_sem]; try rfl) rfl ?_
            exact ⟨_, (by rw [hr.out]), (fun h => by rw [hr.out] at h; cases h), rfl⟩

def fnN (k : Int) : Value := if k = 6 then .func (.func 141) #[] #[] else if k = 7 then .func (.func 143) #[] #[] else if k = 8 then .func (.func 144) #[] #[] else .nilFunc

theorem findNow_none (k : Int) : ∀ (es : List MapEntry) (i : Nat), (∀ e ∈ es, ∃ j, e.key = .int .i64 j ∧ j ≠ k) → Instr.findNow (.int .i64) (.int .i64 k) es i = some none := by
  intro es
  induction es with
  | nil => intro i _; rfl
  | cons e es ih =>
    intro i h
    obtain ⟨j, hj, hne⟩ := h e (by simp)
    have : (k == j) = false := by simpa using Ne.symm hne
    simp [Instr.findNow, hj, Instr.sameNow, this, ih (i + 1) (fun e he => h e (by simp [he]))]

theorem grown_set (w : World) (b : Nat) (o : Obj) : w.grownBy { w with heap := w.heap.setIfInBounds b o } (some b) :=
  ⟨rfl, rfl, rfl, by simp, fun k hk hne => by simp [show b ≠ k from fun e => hne (by rw [e])]⟩

theorem mapUpd_int {W : World} {b : Nat} {es : List MapEntry} {c : Nat} (h : W.heap[b]? = some (.map es.toArray c)) (k : Int) (v : Value) (hk : ∀ e ∈ es, ∃ j, e.key = .int .i64 j ∧ j ≠ k) :
    ∃ W', (Instr.mapUpdate 175 (.map (some b)) (.int .i64 k) v).run Tryz.prog W = .ok () W' ∧ W'.heap[b]? = some (.map (es ++ [({ key := .int .i64 k, val := v, born := c } : MapEntry)]).toArray (c + 1)) ∧ W.grownBy W' (some b) := by
  have hlt : b < W.heap.size := lt_of_blk h
  have ht : Tryz.prog.underlying 175 = some (.map 3 130) := Tryz.underlying175
  refine ⟨{ W with heap := W.heap.setIfInBounds b (.map (es.toArray.push { key := .int .i64 k, val := v, born := c }) (c + 1)) }, ?_, ?_, grown_set W b _⟩
  · unfold Instr.mapUpdate
    simp only [Sem.run_bind, run_underlying ht, Result.andThen_ok, MapKept.run_getObj_map h]
    have hck : (Instr.checkKey false 10000 3 (.int .i64 k)).run Tryz.prog W = .ok () W := by
      rw [show (10000 : Nat) = 9999 + 1 from rfl, Instr.checkKey]
      simp only [Sem.run_bind, run_underlying Tryz.underlying3, Result.andThen_ok]
      rfl
    have hfk : (Instr.findKey 3 (.int .i64 k) es).run Tryz.prog W = .ok none W := by
      unfold Instr.findKey
      simp only [Sem.run_bind, run_underlying Tryz.underlying3, Result.andThen_ok, findNow_none k es 0 hk]
      rfl
    simp only [hck, Result.andThen_ok, hfk]
    exact MapKept.run_setObj_map _ h
  · simp [hlt]

theorem look_numbers {W : World} {b : Nat} {n0 n1 n2 c : Nat} (h : W.heap[b]? = some (.map [{ key := .int .i64 6, val := .func (.func 141) #[] #[], born := n0 }, { key := .int .i64 7, val := .func (.func 143) #[] #[], born := n1 }, { key := .int .i64 8, val := .func (.func 144) #[] #[], born := n2 }].toArray c)) (k : Int) :
    (Instr.lookup 175 (.map (some b)) (.int .i64 k) false).run Tryz.prog W = .ok (fnN k) W := by
  have ht : Tryz.prog.underlying 175 = some (.map 3 130) := Tryz.underlying175
  have hz : (zeroValue 130).run Tryz.prog W = .ok .nilFunc W := Tryz.zeroValue130 W
  unfold Instr.lookup
  simp only [Sem.run_bind, run_underlying ht, Result.andThen_ok, MapKept.run_getObj_map h, Sem.run_pure]
  have hck : ∀ e, (Instr.checkKey e 10000 3 (.int .i64 k)).run Tryz.prog W = .ok () W := fun e => by
    rw [show (10000 : Nat) = 9999 + 1 from rfl, Instr.checkKey]
    simp only [Sem.run_bind, run_underlying Tryz.underlying3, Result.andThen_ok]
    rfl
  simp only [hck, Result.andThen_ok]
  unfold Instr.findKey fnN
  simp only [Sem.run_bind, run_underlying Tryz.underlying3, Result.andThen_ok]
  by_cases h2 : k = 6
  · subst h2; simp [Instr.findNow, Instr.sameNow]
  by_cases h3 : k = 7
  · subst h3; simp [Instr.findNow, Instr.sameNow]
  by_cases h4 : k = 8
  · subst h4; simp [Instr.findNow, Instr.sameNow]
  have e2 : (k == 6) = false := by simpa using h2
  have e3 : (k == 7) = false := by simpa using h3
  have e4 : (k == 8) = false := by simpa using h4
  simp [Instr.findNow, Instr.sameNow, e2, e3, e4, h2, h3, h4, hz]

set_option maxRecDepth 100000 in
set_option maxHeartbeats 1000000 in
theorem numbers_ok (w : World) : Calls Tryz.prog 114 #[] w fun e w' => ∃ b, e = .returned (.map (some b)) ∧ (∀ W k, W.heap[b]? = w'.heap[b]? → (Instr.lookup 175 (.map (some b)) (.int .i64 k) false).run Tryz.prog W = .ok (fnN k) W) ∧ b < w'.heap.size ∧ w.heap.size ≤ b ∧ Upd [] w w' := by
  have hmm := @run_makeMap Tryz.prog
  have h0 : (w.alloc (.map #[] 0)).heap[w.heap.size]? = some (.map ([] : List MapEntry).toArray 0) := by rw [heap_alloc, if_pos rfl]
  have u0 : Upd [] w (w.alloc (.map #[] 0)) := (Upd.refl [] w).alloc _
  obtain ⟨W1, r1, b1, g1⟩ := mapUpd_int h0 6 (.func (.func 141) #[] #[]) (by simp)
  obtain ⟨W2, r2, b2, g2⟩ := mapUpd_int b1 7 (.func (.func 143) #[] #[]) (by simp)
  obtain ⟨W3, r3, b3, g3⟩ := mapUpd_int b2 8 (.func (.func 144) #[] #[]) (by simp)
  have hk : ∀ k, (some w.heap.size : Option Nat) = some k → w.heap.size ≤ k := fun k e => by cases e; exact Nat.le_refl _
  have HU : Hid (Upd [] w W3 ∧ (∀ W k, W.heap[w.heap.size]? = W3.heap[w.heap.size]? → (Instr.lookup 175 (.map (some w.heap.size)) (.int .i64 k) false).run Tryz.prog W = .ok (fnN k) W) ∧ w.heap.size < W3.heap.size) :=
    Lib.hid ⟨((u0.grown g1 hk).grown g2 hk).grown g3 hk, fun W k e => look_numbers (by rw [e, b3]; rfl) k, lt_of_blk b3⟩
  clear b1 b2 b3 g1 g2 g3 h0 u0 hk
  go_enter Tryz.func114, Tryz.ntmps114
  go_wp2_with fail
  go_ret
  exact ⟨_, rfl, HU.out.2.1, HU.out.2.2, Nat.le_refl _, HU.out.1⟩

/-- Whichever way it is, by its contract. -/
theorem num_ok {kd : Int} (hk : kd = 6 ∨ kd = 7 ∨ kd = 8) (a b : Int) (ha : In64 a) (hb : In64 b) (w : World) :
    ∃ g, fnN kd = .func (.func g) #[] #[] ∧ (∀ args w, (callFunc g args).run Tryz.prog w = .ok (.enter g args) w) ∧ Calls Tryz.prog g #[.int .i64 a, .int .i64 b] w (NumPost (opN kd a b) w) := by
  rcases hk with rfl | rfl | rfl
  · exact ⟨_, rfl, enters_of Tryz.func141 (by kernel_rfl) rfl, add_ok a b ha hb w⟩
  · exact ⟨_, rfl, enters_of Tryz.func143 (by kernel_rfl) rfl, sub_ok a b ha hb w⟩
  · exact ⟨_, rfl, enters_of Tryz.func144 (by kernel_rfl) rfl, mul_ok a b ha hb w⟩
end Go.Proofs.YtajppgngoffonaaGreatDoor
