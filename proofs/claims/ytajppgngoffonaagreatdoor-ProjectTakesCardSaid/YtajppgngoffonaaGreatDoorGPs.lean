/- Does an expression name a field of a state? The program's answer. May an expression of a projection be? The program's answer. -/
import Derived.Test.YtajppgngoffonaaGreatDoorGXc
import Derived.Test.YtajppgngoffonaaGreatDoorGPa
import Derived.Test.YtajppgngoffonaaGreatDoorGLkG
namespace Go.Proofs.YtajppgngoffonaaGreatDoor
open Go.RowKit

theorem entersStates : ∀ args w, (callFunc 56 args).run Tryz.prog w = .ok (.enter 56 args) w := enters_of Tryz.func56 (by kernel_rfl) rfl

set_option maxRecDepth 100000 in
set_option maxHeartbeats 1000000 in
theorem states_ok : ∀ (x : Xp) (w : World), KidsAt w x.av x.kids →
    Calls Tryz.prog 56 #[aggX x] w fun e w' => e = .returned (.bool (statesX x)) ∧ Upd [] w w' := by
  refine Ex.ind fun x ih w hk => ?_
  obtain ⟨kd, n, s, av, kids⟩ := x
  dsimp only at ih hk
  have hkl := (kidsAt_iff _ _ _).1 hk
  have HC : Hid (∀ W, Upd [] w W → Calls Tryz.prog 93 #[av, .func (.func 56) #[] #[]] W fun e w' => e = .returned (.bool (kids.list.any statesX)) ∧ Upd [] W w') :=
    Lib.hid fun W u => conX_ok _ #[] statesX entersStates av kids.list W (hkl.keep u) fun W' y hy u' =>
      (ih y hy W' ((hkl.keep (u.trans u')).kids hy)).mono fun e w' h => ⟨h.1, u'.trans h.2⟩
  have hR : Hid (statesX ⟨kd, n, s, av, kids⟩ = (decide (kd = 3) || kids.list.any statesX)) := Lib.hid (statesX_eq _)
  obtain ⟨a, c, hs⟩ := hk.isSlice
  subst hs
  generalize statesX ⟨kd, n, s, .slice a kids.list.length c, kids⟩ = R at *
  clear ih hkl hk
  generalize (kids.list.any statesX) = A at *
  have hu0 : Hid (Upd [] w (w.alloc (boxX ⟨kd, n, s, .slice a kids.list.length c, kids⟩))) := Lib.hid ((Upd.refl [] w).alloc _)
  have hb0 : (w.alloc (boxX ⟨kd, n, s, .slice a kids.list.length c, kids⟩)).heap[w.heap.size]? = some (boxX ⟨kd, n, s, .slice a kids.list.length c, kids⟩) := by rw [heap_alloc, if_pos rfl]
  by_cases hq : kd = 3
  · have hR2 : Hid (R = true) := Lib.hid (by rw [hR.out, decide_eq_true hq]; rfl)
    have hqb : (kd == 3) = true := by simpa using hq
    clear hR
    subst hq
    go_enter Tryz.func56, Tryz.ntmps56
    go_wp2_with fail
    go_ret
    exact ⟨by rw [hR2.out]; rfl, hu0.out⟩
  · have hR2 : Hid (R = A) := Lib.hid (by rw [hR.out, decide_eq_false hq]; rfl)
    have hqb : (kd == 3) = false := by simpa using hq
    clear hR
    go_enter Tryz.func56, Tryz.ntmps56
    go_wp2_with fail
    refine (HC.out _ hu0.out).mono ?_
    rintro e w1 ⟨rfl, hu1⟩
    have HU : Hid (Upd [] w w1) := Lib.hid (hu0.out.trans hu1)
    clear hu1
    go_wp2_with fail
    go_ret
    exact ⟨by rw [hR2.out]; rfl, HU.out⟩
end Go.Proofs.YtajppgngoffonaaGreatDoor

namespace Go.Proofs.YtajppgngoffonaaGreatDoor
open Go.RowKit

theorem sl_nil0 {α : Type} {k : Nat} {At : World → Nat → Nat → α → Prop} (w : World) : SlAt k At w (.slice none 0 0) [] := ⟨none, 0, rfl, Nat.le_refl _, by unfold maxLen; omega, fun i hi => absurd hi (by simp)⟩
theorem sl_one0 {α : Type} {k : Nat} {At : World → Nat → Nat → α → Prop} {w : World} {B : Nat} {x : α} (h : At w B 0 x) : SlAt k At w (.slice (some ⟨B, 0, none⟩) 1 1) [x] := by
  refine ⟨_, 1, rfl, Nat.le_refl _, by unfold maxLen; omega, fun i hi => ⟨B, 0, rfl, ?_⟩⟩
  have hi' : i < 1 := hi
  obtain rfl : i = 0 := by omega
  rw [Nat.zero_mul, Nat.add_zero]
  exact h

theorem evo_at {w : World} {B1 B2 : Nat} {x : Xp} (h1 : w.heap[B1]? = some (.cells #[.string nB, .int .i64 x.kd, .int .i64 x.n, .string x.s, x.av] 104 (0, 0)))
    (h2 : w.heap[B2]? = some (.cells #[.string tB, .slice (some ⟨B1, 0, none⟩) 1 1, .slice none 0 0] 108 (0, 0))) (hk : KidsAt w x.av x.kids) :
    EvosAt w (.slice (some ⟨B2, 0, none⟩) 1 1) [evoX (.slice (some ⟨B1, 0, none⟩) 1 1) (.slice none 0 0) x] := by
  have c1 := cell_blk h1
  have c2 := cell_blk h2
  exact sl_one0 ⟨⟨c2 0, c2 1, c2 2⟩, sl_one0 ⟨c1 0, ⟨c1 1, c1 2, c1 3, c1 4⟩, hk⟩, sl_nil0 w⟩

theorem evo_fit (sv dv : Value) {x : Xp} (h : fitX x) : FitR [] [evoX sv dv x] := by
  refine ⟨by simp, by simp, by simp, fun e he => ?_⟩
  obtain rfl := List.mem_singleton.1 he
  refine ⟨by show (1 : Nat) ≤ _; omega, by simp [evoX], by simp [evoX], fun a ha => ?_, by simp [evoX]⟩
  obtain rfl := List.mem_singleton.1 ha
  exact ⟨by show (1 : Nat) ≤ _; omega, h⟩

theorem evo_check (sv dv : Value) (x : Xp) : checkR [] [evoX sv dv x] = checkR [] [evoX (.slice none 0 0) (.slice none 0 0) x] := rfl

set_option maxRecDepth 100000 in
set_option maxHeartbeats 1000000 in
theorem may_ok (x : Xp) (w : World) (hk : KidsAt w x.av x.kids) (hf : fitX x) :
    Calls Tryz.prog 33 #[aggX x] w fun e w' => e = .returned (.bool (mayX x)) ∧ Upd [] w w' := by
  have HK := Lib.hid (fun (W : World) (u : Upd [] w W) => hk.keep u)
  have HC : Hid (∀ (W : World) (B1 B2 : Nat), Upd [] w W → W.heap[B1]? = some (.cells #[.string nB, .int .i64 x.kd, .int .i64 x.n, .string x.s, x.av] 104 (0, 0)) → W.heap[B2]? = some (.cells #[.string tB, .slice (some ⟨B1, 0, none⟩) 1 1, .slice none 0 0] 108 (0, 0)) →
      Calls Tryz.prog 55 #[.agg #[.slice none 0 0, .slice (some ⟨B2, 0, none⟩) 1 1]] W fun e w' => e = .returned (.int .i64 (checkR [] [evoX (.slice none 0 0) (.slice none 0 0) x])) ∧ Upd [] W w') :=
    Lib.hid fun W B1 B2 u h1 h2 => by
      have := check_ok (.slice none 0 0) _ [] _ W (sl_nil0 W) (evo_at h1 h2 (HK.out W u)) (evo_fit _ _ hf)
      rw [evo_check] at this
      exact this
  have HS : Hid (∀ W, Upd [] w W → Calls Tryz.prog 56 #[aggX x] W fun e w' => e = .returned (.bool (statesX x)) ∧ Upd [] W w') := Lib.hid fun W u => states_ok x W (HK.out W u)
  have hR : Hid (mayX x = (decide (checkR [] [evoX (.slice none 0 0) (.slice none 0 0) x] = 0) && !statesX x)) := Lib.hid rfl
  obtain ⟨a, c, hav⟩ := hk.isSlice
  obtain ⟨kd, n, s, av, kids⟩ := x
  dsimp only at hav HC HS
  subst hav
  generalize mayX ⟨kd, n, s, .slice a kids.list.length c, kids⟩ = R at *
  generalize checkR [] [evoX (.slice none 0 0) (.slice none 0 0) ⟨kd, n, s, .slice a kids.list.length c, kids⟩] = C at *
  generalize statesX ⟨kd, n, s, .slice a kids.list.length c, kids⟩ = S at *
  clear hk hf HK
  go_enter Tryz.func33, Tryz.ntmps33
  go_wp2_with fail
  refine (HC.out _ (w.heap.size + 1) (w.heap.size + 1 + 1 + 1) ?u ?h1 ?h2).mono ?_
  case u => exact ((((Upd.refl [] w).alloc _).alloc _).alloc _).alloc _
  case h1 =>
    rw [heap_alloc, if_neg (by simp), heap_alloc, if_neg (by simp), heap_alloc, if_pos (by simp)]
  case h2 => rw [heap_alloc, if_pos (by simp)]
  rintro e w1 ⟨rfl, hu1⟩
  have HU1 : Hid (Upd [] w w1) := Lib.hid (((((((Upd.refl [] w).alloc _).alloc _).alloc _).alloc _)).trans hu1)
  have b0 : w1.heap[w.heap.size]? = some (boxX ⟨kd, n, s, .slice a kids.list.length c, kids⟩) := (hu1.block _ (by simp; omega) (by simp)).trans (by
    rw [heap_alloc, if_neg (by simp only [World.size_alloc]; omega), heap_alloc, if_neg (by simp only [World.size_alloc]; omega), heap_alloc, if_neg (by simp only [World.size_alloc]; omega), heap_alloc, if_pos rfl])
  have c0 := cell_blk b0 0
  have c1 := cell_blk b0 1
  have c2 := cell_blk b0 2
  have c3 := cell_blk b0 3
  clear hu1 HC b0
  by_cases hq : C = 0
  · have hR2 : Hid (R = !S) := Lib.hid (by rw [hR.out, decide_eq_true hq]; rfl)
    have hqb : (C == 0) = true := by simpa using hq
    clear hR
    subst hq
    go_wp2_with fail
    refine (HS.out _ HU1.out).mono ?_
    rintro e w2 ⟨rfl, hu2⟩
    have HU2 : Hid (Upd [] w w2) := Lib.hid (HU1.out.trans hu2)
    clear hu2
    go_wp2_with fail
    go_ret
    exact ⟨by rw [hR2.out]; rfl, HU2.out⟩
  · have hR2 : Hid (R = false) := Lib.hid (by rw [hR.out, decide_eq_false hq]; rfl)
    have hqb : (C == 0) = false := by simpa using hq
    clear hR
    go_wp2_with fail
    go_ret
    exact ⟨by rw [hR2.out]; rfl, HU1.out⟩
end Go.Proofs.YtajppgngoffonaaGreatDoor
