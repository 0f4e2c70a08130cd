/- The rules' eval, and value. The rules' value. The rules' caught: a deferred call that turns what was given up with into an error. The rules' Eval. -/
import Derived.Lib.ItoaLen
import Derived.Defers
import Derived.Recover
import Derived.Test.YtajppgngoffonaaGreatDoorGEvC
import Derived.Test.YtajppgngoffonaaGreatDoorGEvE
import Derived.Test.YtajppgngoffonaaGreatDoorGXs
namespace Go.Proofs.YtajppgngoffonaaGreatDoor
open Go.RowKit

theorem okF_of_get {l : List Fd} (h : ∀ f ∈ l, OkF f) {k : ByteArray} {f : Fd} (hf : fieldV l k = .ok f) : OkF f := by
  unfold fieldV getF at hf
  split at hf
  · rename_i g hg
    simp only [Except.ok.injEq] at hf
    subst hf
    exact h g (List.mem_of_find?_eq_some hg)
  · cases hf

theorem itoa_size (n : Int) (h0 : -9223372036854775808 ≤ n) (h1 : n ≤ 9223372036854775807) : (itoaB n).size ≤ 21 := by
  show (Lib.itoa n).toArray.size ≤ 21
  rw [List.size_toArray]
  exact Lib.itoa_length_le n h0 h1

theorem nu_size (n : Int) : (nuF n).s.size ≤ 140737488355328 := by show (0 : Nat) ≤ _; omega
theorem tx_in (s : ByteArray) : In64 (txF s).n := by show In64 0; unfold In64; omega

theorem okF_eval (P : Pl) (hP : FitP P) : ∀ x : Xp, fitX x → ∀ f, evalX P x = .ok f → OkF f := by
  refine Ex.ind fun x ih hx f hf => ?_
  unfold evalX at hf
  rw [vals_list] at hf
  have hk := (fit_list _).1 hx.2
  unfold evalV at hf
  obtain ⟨⟨hx1, hx2, hx3⟩, -⟩ := hx
  split at hf
  · cases hf; exact ⟨nu_size _, hx2⟩
  split at hf
  · cases hf; exact ⟨hx3, tx_in _⟩
  split at hf
  · exact okF_of_get hP.2.1 hf
  split at hf
  · exact okF_of_get hP.2.2 hf
  split at hf
  · cases hf; exact ⟨hP.1, tx_in _⟩
  cases hl : x.kids.list with
  | nil => rw [hl] at hf; cases hf
  | cons y l =>
    rw [hl] at hf ih hk
    rw [List.map_cons] at hf
    cases hy : evalX P y with
    | error e => rw [hy] at hf; cases hf
    | ok a =>
      rw [hy] at hf
      have ha := ih y (by simp) (hk y (by simp)) a hy
      dsimp only at hf
      split at hf
      · split at hf
        · cases hf
          refine ⟨nu_size _, ?_⟩
          have := ha.1
          unfold In64 nuF
          dsimp only
          omega
        · cases hf
      split at hf
      · split at hf
        · cases hf
        · cases hf
          exact ⟨by have := itoa_size a.n ha.2.1 ha.2.2; show (itoaB a.n).size ≤ _; omega, tx_in _⟩
      cases l with
      | nil => cases hf
      | cons z l =>
        rw [List.map_cons] at hf
        cases hz : evalX P z with
        | error e => rw [hz] at hf; cases hf
        | ok b =>
          rw [hz] at hf
          have hb := ih z (by simp) (hk z (by simp)) b hz
          dsimp only at hf
          unfold twoV at hf
          split at hf
          · split at hf
            · split at hf
              · cases hf
              · rename_i h200
                cases hf
                refine ⟨?_, tx_in _⟩
                show (a.s ++ b.s).size ≤ _
                rw [ByteArray.size_append]
                omega
            · cases hf
          · split at hf
            · cases hf
            · split at hf
              · rename_i hw
                cases hf
                rw [withinB_iff] at hw
                exact ⟨nu_size _, by unfold In64 nuF; dsimp only; omega⟩
              · cases hf

theorem kids_cases {x : Xp} (h : formX x = true) : (1 ≤ x.kd ∧ x.kd ≤ 5) ∨ (6 ≤ x.kd ∧ x.kd ≤ 9 ∧ ∃ y z, x.kids.list = [y, z] ∧ formX y = true ∧ formX z = true) ∨ ((x.kd = 10 ∨ x.kd = 11) ∧ ∃ y, x.kids.list = [y] ∧ formX y = true) := by
  rw [formX_eq, Bool.and_eq_true, decide_eq_true_eq, List.all_eq_true] at h
  obtain ⟨hl, ha⟩ := h
  unfold arityN at hl
  split at hl
  · exact Or.inl (by assumption)
  split at hl
  · rename_i hk
    right; left
    refine ⟨hk.1, hk.2, ?_⟩
    match hq : x.kids.list, hl with
    | [y, z], _ => exact ⟨y, z, rfl, ha y (by rw [hq]; simp), ha z (by rw [hq]; simp)⟩
    | [], hl => simp at hl
    | [_], hl => simp at hl
    | _ :: _ :: _ :: _, hl => simp at hl; omega
  split at hl
  · rename_i hk
    right; right
    refine ⟨hk, ?_⟩
    match hq : x.kids.list, hl with
    | [y], _ => exact ⟨y, rfl, ha y (by rw [hq]; simp)⟩
    | [], hl => simp at hl
    | _ :: _ :: _, hl => simp at hl; omega
  · omega

theorem eval_ok (P : Pl) (hP : FitP P) (vs vg : Value) : ∀ (x : Xp), formX x = true → fitX x → ∀ (w : World), Tab w → PlAt w P vs vg → KidsAt w x.av x.kids →
    Calls Tryz.prog 66 #[aggP P vs vg, aggX x] w fun e w' => e = endV aggF (evalX P x) ∧ Upd [] w w' := by
  refine Ex.ind fun x ih hform hfit w hT hp hk => ?_
  have hkl := (kidsAt_iff _ _ _).1 hk
  have hfk := (fit_list _).1 hfit.2
  have hC : ∀ y ∈ x.kids.list, formX y = true → ∀ W, Upd [] w W → Calls Tryz.prog 66 #[aggP P vs vg, aggX y] W fun e w' => e = endV aggF (evalX P y) ∧ Upd [] W w' :=
    fun y hy hfy W u => ih y hy hfy (hfk y hy) W (hT.upd u) (hp.keep u) ((hkl.keep u).kids hy)
  have hv : evalX P x = evalV P x.kd x.n x.s (x.kids.list.map (evalX P)) := by rw [← vals_list]; rfl
  rcases kids_cases hform with h | ⟨h6, h9, y, z, hl, hfy, hfz⟩ | ⟨h10, y, hl, hfy⟩
  · exact eval_leaf P vs vg x h w hp hk
  · have n1 : ¬ x.kd = 1 := by omega
    have n2 : ¬ x.kd = 2 := by omega
    have n3 : ¬ x.kd = 3 := by omega
    have n4 : ¬ x.kd = 4 := by omega
    have n5 : ¬ x.kd = 5 := by omega
    have n10 : ¬ x.kd = 10 := by omega
    have n11 : ¬ x.kd = 11 := by omega
    have hy := hC y (by rw [hl]; simp) hfy
    have hz := hC z (by rw [hl]; simp) hfz
    have ho1 := okF_eval P hP y (hfk y (by rw [hl]; simp))
    have ho2 := okF_eval P hP z (hfk z (by rw [hl]; simp))
    rw [hl] at hv
    simp only [evalV, n1, n2, n3, n4, n5, n10, n11, if_false, List.map_cons, List.map_nil] at hv
    cases e1 : evalX P y with
    | error c =>
      rw [e1] at hy hv
      rw [hv]
      exact eval_e0 P vs vg x y [z] (by omega) hl c w hp hk hy
    | ok f =>
      rw [e1] at hy hv
      cases e2 : evalX P z with
      | error c =>
        rw [e2] at hz hv
        rw [hv]
        exact eval_e1 P vs vg x y z [] ⟨h6, h9⟩ hl f c w hp hk hy hz
      | ok g =>
        rw [e2] at hz hv
        rw [hv]
        by_cases k9 : x.kd = 9
        · rw [k9]
          exact eval_join P vs vg x y z [] k9 hl f g (ho1 f e1).1 (ho2 g e2).1 w hp hk hy hz
        · exact eval_num P vs vg x y z [] (by omega) hl f g (ho1 f e1).2 (ho2 g e2).2 w hp hk hy hz
  · have n1 : ¬ x.kd = 1 := by omega
    have n2 : ¬ x.kd = 2 := by omega
    have n3 : ¬ x.kd = 3 := by omega
    have n4 : ¬ x.kd = 4 := by omega
    have n5 : ¬ x.kd = 5 := by omega
    have hy := hC y (by rw [hl]; simp) hfy
    have ho1 := okF_eval P hP y (hfk y (by rw [hl]; simp))
    rw [hl] at hv
    simp only [evalV, n1, n2, n3, n4, n5, if_false, List.map_cons, List.map_nil] at hv
    cases e1 : evalX P y with
    | error c =>
      rw [e1] at hy hv
      rw [hv]
      exact eval_e0 P vs vg x y [] (by omega) hl c w hp hk hy
    | ok f =>
      rw [e1] at hy hv
      rw [hv]
      rcases h10 with h10 | h11
      · simp only [h10, if_true]
        exact eval_len P vs vg x y [] h10 hl f w hp hk hy
      · simp only [h11, if_true, show ¬ (11 : Int) = 10 by omega, if_false]
        exact eval_show P vs vg x y [] h11 hl f w hp hk hT (ho1 f e1).2 hy
end Go.Proofs.YtajppgngoffonaaGreatDoor

namespace Go.Proofs.YtajppgngoffonaaGreatDoor
open Go.RowKit

set_option maxRecDepth 100000 in
set_option maxHeartbeats 2000000 in
theorem value_ok (P : Pl) (hP : FitP P) (vs vg : Value) (x : Xp) (hfit : fitX x) (w : World) (hT : Tab w) (hp : PlAt w P vs vg) (hk : KidsAt w x.av x.kids) :
    Calls Tryz.prog 41 #[aggP P vs vg, aggX x] w fun e w' => e = endV aggF (valueX P x) ∧ Upd [] w w' := by
  have hst := EvIn.start P vs vg x w
  have HC := Lib.hid (count_ok x 0 _ (by omega) (hk.keep hst.upd))
  have HF := Lib.hid (fun W (u : Upd [] w W) => formed_ok x W (hk.keep u))
  have HE := Lib.hid (fun (h : formX x = true) W (u : Upd [] w W) => eval_ok P hP vs vg x h hfit W (hT.upd u) (hp.keep u) (hk.keep u))
  have HV : Hid (valueX P x = if 64 < cntX x 0 then .error 132 else if formX x then evalX P x else .error 132) := Lib.hid rfl
  generalize valueX P x = R at *
  obtain ⟨a, c, hav⟩ := hk.isSlice
  obtain ⟨sa, sc, hvs, -, -⟩ := hp.1.isSlice
  obtain ⟨ga, gc, hvg, -, -⟩ := hp.2.isSlice
  have HS := Lib.hid hst
  clear hst hT hp hk hfit hP
  subst hvs hvg
  obtain ⟨st, state, given⟩ := P
  obtain ⟨kd, n, s, av, kids⟩ := x
  dsimp only at hav HS HE HF HC HV
  subst hav
  go_enter Tryz.func41, Tryz.ntmps41
  go_wp2_with fail
  refine HC.out.mono ?_
  rintro e w1 ⟨rfl, hu1⟩
  have hst1 := HS.out.next hu1
  have p0 : w1.cell? ⟨w.heap.size, 0, none⟩ = some (.string st) := cell_blk hst1.pl 0
  have p1 : w1.cell? ⟨w.heap.size, 1, none⟩ = some (.slice sa state.length sc) := cell_blk hst1.pl 1
  have p2 : w1.cell? ⟨w.heap.size, 2, none⟩ = some (.slice ga given.length gc) := cell_blk hst1.pl 2
  have x0 : w1.cell? ⟨w.heap.size + 1, 0, none⟩ = some (.int .i64 kd) := cell_blk hst1.ex 0
  have x1 : w1.cell? ⟨w.heap.size + 1, 1, none⟩ = some (.int .i64 n) := cell_blk hst1.ex 1
  have x2 : w1.cell? ⟨w.heap.size + 1, 2, none⟩ = some (.string s) := cell_blk hst1.ex 2
  have x3 : w1.cell? ⟨w.heap.size + 1, 3, none⟩ = some (.slice a kids.list.length c) := cell_blk hst1.ex 3
  have HS1 := Lib.hid hst1
  clear hst1 hu1 HC HS
  generalize cntX ⟨kd, n, s, .slice a kids.list.length c, kids⟩ 0 = C at *
  by_cases h64 : 64 < C
  · have hR : Hid (R = .error 132) := Lib.hid (by rw [HV.out, if_pos h64])
    have hd : Hid (decide ((C : Int) ≤ 64) = false) := Lib.hid (decide_eq_false (by omega))
    have hi : ¬ ((C : Int) ≤ 64) := by omega
    clear h64
    go_wp2_with fail
    refine (need_no 132 _).mono ?_
    rintro e w2 ⟨rfl, hu2⟩
    go_wp2_with fail
    exact ⟨rfl, by rw [hR.out]; rfl, HS1.out.upd.trans hu2⟩
  · have hV2 : Hid (R = if formX ⟨kd, n, s, .slice a kids.list.length c, kids⟩ then evalX ⟨st, state, given⟩ ⟨kd, n, s, .slice a kids.list.length c, kids⟩ else .error 132) := Lib.hid (by rw [HV.out, if_neg h64])
    have hi : ((C : Int) ≤ 64) := by omega
    clear h64
    go_wp2_with fail
    refine (HF.out _ HS1.out.upd).mono ?_
    rintro e w2 ⟨rfl, hu2⟩
    have hst2 := HS1.out.next hu2
    have HS2 := Lib.hid hst2
    clear hst2 hu2 p0 p1 p2 x0 x1 x2 x3 HS1
    cases hfm : formX ⟨kd, n, s, .slice a kids.list.length c, kids⟩ with
    | false =>
      have hR : Hid (R = .error 132) := Lib.hid (by rw [hV2.out, hfm]; rfl)
      go_wp2_with fail
      refine (need_no 132 _).mono ?_
      rintro e w3 ⟨rfl, hu3⟩
      go_wp2_with fail
      exact ⟨rfl, by rw [hR.out]; rfl, HS2.out.upd.trans hu3⟩
    | true =>
      have hR : Hid (R = evalX ⟨st, state, given⟩ ⟨kd, n, s, .slice a kids.list.length c, kids⟩) := Lib.hid (by rw [hV2.out, hfm]; rfl)
      have HE2 := Lib.hid (HE.out hfm)
      clear hfm HE
      go_wp2_with fail
      refine (need_yes 132 _).mono ?_
      rintro e w3 ⟨rfl, hu3⟩
      have hst3 := HS2.out.next hu3
      have p0 : w3.cell? ⟨w.heap.size, 0, none⟩ = some (.string st) := cell_blk hst3.pl 0
      have p1 : w3.cell? ⟨w.heap.size, 1, none⟩ = some (.slice sa state.length sc) := cell_blk hst3.pl 1
      have p2 : w3.cell? ⟨w.heap.size, 2, none⟩ = some (.slice ga given.length gc) := cell_blk hst3.pl 2
      have x0 : w3.cell? ⟨w.heap.size + 1, 0, none⟩ = some (.int .i64 kd) := cell_blk hst3.ex 0
      have x1 : w3.cell? ⟨w.heap.size + 1, 1, none⟩ = some (.int .i64 n) := cell_blk hst3.ex 1
      have x2 : w3.cell? ⟨w.heap.size + 1, 2, none⟩ = some (.string s) := cell_blk hst3.ex 2
      have x3 : w3.cell? ⟨w.heap.size + 1, 3, none⟩ = some (.slice a kids.list.length c) := cell_blk hst3.ex 3
      have HS3 := Lib.hid hst3
      clear hst3 hu3 HS2
      go_wp2_with fail
      refine (HE2.out _ HS3.out.upd).mono ?_
      rintro e w4 ⟨rfl, hu4⟩
      have hst4 := HS3.out.next hu4
      have HS4 := Lib.hid hst4
      clear hu4 p0 p1 p2 x0 x1 x2 x3 HS3 HE2
      generalize evalX ⟨st, state, given⟩ ⟨kd, n, s, .slice a kids.list.length c, kids⟩ = r at *
      cases r with
      | error e0 =>
        dsimp only [endV]
        go_wp2_with fail
        exact ⟨rfl, by rw [hR.out]; rfl, HS4.out.upd⟩
      | ok f =>
        obtain ⟨fnm, ftx, fn, fs⟩ := f
        have z0 := cell_blk hst4.res 0
        have z1 := cell_blk hst4.res 1
        have z2 := cell_blk hst4.res 2
        have z3 := cell_blk hst4.res 3
        have fz := frozen_blk hst4.res
        clear hst4
        dsimp only [endV]
        go_wp2_with fail
        refine ret_field (x := ⟨fnm, ftx, fn, fs⟩) Tryz.results41 (by rfl) (box_set4 HS4.out.res _ _ _ _) (by rfl) ?_
        exact ⟨by rw [hR.out]; rfl, (((HS4.out.upd.setCellNew (by omega) 0 _).setCellNew (by omega) 1 _).setCellNew (by omega) 2 _).setCellNew (by omega) 3 _⟩
end Go.Proofs.YtajppgngoffonaaGreatDoor

namespace Go.Proofs.YtajppgngoffonaaGreatDoor
open Go.RowKit

theorem assert_wrong (e : Int) (w : World) : (Instr.typeAssert (.iface 124 (.agg #[.int .i64 e])) 20 124 true).run Tryz.prog w = .ok (.tuple #[.agg #[.int .i64 e], .bool true]) w := by
  kernel_rfl
theorem assert_nil (w : World) : (Instr.typeAssert .nilIface 20 124 true).run Tryz.prog w = .ok (.tuple #[.agg #[.int .i64 0], .bool false]) w := by
  kernel_rfl

abbrev boxI (n : Int) : Obj := .cells #[.int .i64 n] 46

theorem box_set1 {W : World} {B : Nat} {a0 : Value} {T : TypeId} (h : W.heap[B]? = some (.cells #[a0] T (0, 0))) (a : Value) : (W.setCell ⟨B, 0, none⟩ a).heap[B]? = some (.cells #[a] T (0, 0)) := by
  rw [heap_setCell, if_pos rfl, h]
  rfl

set_option maxRecDepth 100000 in
theorem caught_err (B : Nat) (c e : Int) (w : World) (hb : w.heap[B]? = some (boxI c)) :
    CallsD Tryz.prog 40 #[.pointer (some ⟨B, 0, none⟩)] (.panicking (chn e)) w fun r u' w' =>
      r = .returned (.tuple #[]) ∧ u' = .panicking [{ v := .iface 124 (.agg #[.int .i64 e]), recovered := true }] ∧ w'.heap[B]? = some (boxI e) ∧ Upd [B] w w' := by
  refine callsD_of_wpS Tryz.func40 rfl fun c₀ cs hu => ?_
  simp only [Tryz.ntmps40, List.size_toArray, List.length_cons, List.length_nil, Nat.reduceAdd, Nat.reduceSub, Array.replicate_succ, Array.replicate_zero, List.push_toArray, List.append_toArray, List.nil_append, List.cons_append]
  apply wpS_seq
  apply wpS_region
  simp [wpOpsS, go_sem, recoverD, hu, chn, Exit.thenS]
  have hta := assert_wrong e
  have hb1 := blk_alloc (o' := .cells #[.int .i64 e] 124) hb
  have hc : (w.alloc (.cells #[.int .i64 e] 124)).cell? ⟨B, 0, none⟩ = some (.int .i64 c) := cell_blk hb1 0
  have hz := frozen_blk hb1 0
  have hD : Hid (((w.alloc (.cells #[.int .i64 e] 124)).setCell ⟨B, 0, none⟩ (.int .i64 e)).heap[B]? = some (boxI e) ∧ Upd [B] w ((w.alloc (.cells #[.int .i64 e] 124)).setCell ⟨B, 0, none⟩ (.int .i64 e))) := Lib.hid ⟨box_set1 hb1 _, ((Upd.refl [B] w).alloc _).setCell (by simp) 0 _⟩
  clear hb hb1
  refine wpS_of_wp ?_
  go_wp2
  exact ⟨rfl, _, rfl, .tuple #[], by simp [results, Tryz.results40, go_sem], rfl, rfl, hD.out.1, hD.out.2⟩

set_option maxRecDepth 100000 in
theorem caught_idle (B : Nat) (w : World) :
    CallsD Tryz.prog 40 #[.pointer (some ⟨B, 0, none⟩)] .returning w fun r u' w' => r = .returned (.tuple #[]) ∧ u' = .returning ∧ Upd [] w w' := by
  refine callsD_of_wpS Tryz.func40 rfl fun c₀ cs hu => ?_
  simp only [Tryz.ntmps40, List.size_toArray, List.length_cons, List.length_nil, Nat.reduceAdd, Nat.reduceSub, Array.replicate_succ, Array.replicate_zero, List.push_toArray, List.append_toArray, List.nil_append, List.cons_append]
  apply wpS_seq
  apply wpS_region
  simp [wpOpsS, go_sem, recoverD, hu, Exit.thenS]
  have hta := assert_nil
  refine wpS_of_wp ?_
  go_wp2
  exact ⟨rfl, .returning, by rw [← hu], .tuple #[], by simp [results, Tryz.results40, go_sem], rfl, rfl, (Upd.refl [] w).alloc _⟩
end Go.Proofs.YtajppgngoffonaaGreatDoor

namespace Go.Proofs.YtajppgngoffonaaGreatDoor
open Go.RowKit

def evT : Rs → Value
  | .ok f => .tuple #[aggF f, .int .i64 0]
  | .error c => .tuple #[aggF noF, .int .i64 c]

/-- Where two results lie in variables. -/
theorem res_two {fn : Func} {tmps : Array Value} {W : World} {s1 s2 B1 B2 : Nat} {x : Fd} {n : Int} (hr : fn.results = #[.cell s1 64, .cell s2 46])
    (h1 : tmps.getD s1 undef = .pointer (some ⟨B1, 0, none⟩)) (h2 : tmps.getD s2 undef = .pointer (some ⟨B2, 0, none⟩)) (hb1 : W.heap[B1]? = some (boxF x)) (hb2 : W.heap[B2]? = some (boxI n)) :
    (results fn tmps).run Tryz.prog W = .ok (.tuple #[aggF x, .int .i64 n]) W := by
  have z0 : W.cell? ⟨B1, 0, none⟩ = some (.string x.nm) := cell_blk hb1 0
  have z1 : W.cell? ⟨B1, 1, none⟩ = some (.bool x.tx) := cell_blk hb1 1
  have z2 : W.cell? ⟨B1, 2, none⟩ = some (.int .i64 x.n) := cell_blk hb1 2
  have z3 : W.cell? ⟨B1, 3, none⟩ = some (.string x.s) := cell_blk hb1 3
  have y0 : W.cell? ⟨B2, 0, none⟩ = some (.int .i64 n) := cell_blk hb2 0
  simp only [Array.getD_eq_getD_getElem?] at h1 h2
  simp [results, hr, h1, h2, go_sem, z0, z1, z2, z3, y0]

set_option maxRecDepth 100000 in
set_option maxHeartbeats 2000000 in
theorem Eval_ok (P : Pl) (hP : FitP P) (vs vg : Value) (x : Xp) (hfit : fitX x) (w : World) (hT : Tab w) (hp : PlAt w P vs vg) (hk : KidsAt w x.av x.kids) :
    Calls Tryz.prog 22 #[aggX x, .string P.st, vs, vg] w fun e w' => e = .returned (evT (valueX P x)) ∧ Upd [] w w' := by
  have u0 : Upd [] w (((w.alloc (boxX x)).alloc (boxF noF)).alloc (boxI 0)) := (((Upd.refl [] w).alloc _).alloc _).alloc _
  have b1 : (((w.alloc (boxX x)).alloc (boxF noF)).alloc (boxI 0)).heap[w.heap.size + 1]? = some (boxF noF) := by rw [heap_alloc, if_neg (by simp), heap_alloc, if_pos (by simp)]
  have b2 : (((w.alloc (boxX x)).alloc (boxF noF)).alloc (boxI 0)).heap[w.heap.size + 1 + 1]? = some (boxI 0) := by rw [heap_alloc, if_pos (by simp)]
  have HV := Lib.hid (value_ok P hP vs vg x hfit _ (hT.upd u0) (hp.keep u0) (hk.keep u0))
  have H0 := Lib.hid (And.intro u0 (And.intro b1 b2))
  obtain ⟨a, c, hav⟩ := hk.isSlice
  obtain ⟨sa, sc, hvs, -, -⟩ := hp.1.isSlice
  obtain ⟨ga, gc, hvg, -, -⟩ := hp.2.isSlice
  clear hT hp hk hfit hP u0 b1 b2
  subst hvs hvg
  generalize valueX P x = r at *
  obtain ⟨st, state, given⟩ := P
  obtain ⟨kd, n, s, av, kids⟩ := x
  dsimp only at hav H0 HV
  subst hav
  go_enter_defers Tryz.func22, Tryz.ntmps22
  go_wp2_with fail
  refine HV.out.mono ?_
  rintro e w1 ⟨rfl, hu1⟩
  have hb1 := (hu1.block _ (lt_of_blk H0.out.2.1) (by simp)).trans H0.out.2.1
  have hb2 := (hu1.block _ (lt_of_blk H0.out.2.2) (by simp)).trans H0.out.2.2
  have HU : Hid (Upd [] w w1) := Lib.hid (H0.out.1.trans hu1)
  clear hu1 HV H0
  cases r with
  | error cc =>
    have HB1 := Lib.hid hb1
    have HB2 := Lib.hid hb2
    clear hb1 hb2
    dsimp only [endV]
    go_wp2_with fail
    refine leaves_cons (f := 40) (args := #[.pointer (some ⟨w.heap.size + 1 + 1, 0, none⟩)]) (by simp) (by simp [go_sem]) ?_
    refine (caught_err _ 0 cc _ HB2.out).mono ?_
    rintro e u' w2 ⟨rfl, rfl, hb, hu2⟩
    refine ⟨.tuple #[aggF noF, .int .i64 cc], ?_, rfl, ?_⟩
    · refine res_two Tryz.results22 (by rfl) (by rfl) (B1 := w.heap.size + 1) (B2 := w.heap.size + 1 + 1) ?_ hb
      exact (hu2.block _ (lt_of_blk HB1.out) (by simp)).trans HB1.out
    · exact HU.out.next hu2 (fun q hq hlt => by simp at hq; omega)
  | ok f =>
    obtain ⟨fnm, ftx, fn, fs⟩ := f
    have z0 := cell_blk hb1 0
    have z1 := cell_blk hb1 1
    have z2 := cell_blk hb1 2
    have z3 := cell_blk hb1 3
    have y0 := cell_blk hb2 0
    have fz := frozen_blk hb1
    have fy := frozen_blk hb2
    have HB1 := Lib.hid hb1
    have HB2 := Lib.hid hb2
    clear hb1 hb2
    dsimp only [endV]
    go_wp2_with fail
    refine leaves_cons (f := 40) (args := #[.pointer (some ⟨w.heap.size + 1 + 1, 0, none⟩)]) (by simp) (by simp [go_sem]) ?_
    refine (caught_idle _ _).mono ?_
    rintro e u' w2 ⟨rfl, rfl, hu2⟩
    have hW1 : (((((w1.setCell ⟨w.heap.size + 1, 0, none⟩ (.string fnm)).setCell ⟨w.heap.size + 1, 1, none⟩ (.bool ftx)).setCell ⟨w.heap.size + 1, 2, none⟩ (.int .i64 fn)).setCell ⟨w.heap.size + 1, 3, none⟩ (.string fs)).setCell ⟨w.heap.size + 1 + 1, 0, none⟩ (.int .i64 0)).heap[w.heap.size + 1]? = some (boxF ⟨fnm, ftx, fn, fs⟩) := by
      rw [heap_setCell, if_neg (by omega)]
      exact box_set4 HB1.out _ _ _ _
    have hW2 : (((((w1.setCell ⟨w.heap.size + 1, 0, none⟩ (.string fnm)).setCell ⟨w.heap.size + 1, 1, none⟩ (.bool ftx)).setCell ⟨w.heap.size + 1, 2, none⟩ (.int .i64 fn)).setCell ⟨w.heap.size + 1, 3, none⟩ (.string fs)).setCell ⟨w.heap.size + 1 + 1, 0, none⟩ (.int .i64 0)).heap[w.heap.size + 1 + 1]? = some (boxI 0) := by
      refine box_set1 ?_ _ (a0 := .int .i64 0)
      rw [heap_setCell, if_neg (by omega), heap_setCell, if_neg (by omega), heap_setCell, if_neg (by omega), heap_setCell, if_neg (by omega)]
      exact HB2.out
    refine ⟨.tuple #[aggF ⟨fnm, ftx, fn, fs⟩, .int .i64 0], ?_, rfl, ?_⟩
    · exact res_two Tryz.results22 (by rfl) (by rfl) (B1 := w.heap.size + 1) (B2 := w.heap.size + 1 + 1) ((hu2.block _ (lt_of_blk hW1) (by simp)).trans hW1) ((hu2.block _ (lt_of_blk hW2) (by simp)).trans hW2)
    · exact (((((HU.out.setCellNew (by omega) 0 _).setCellNew (by omega) 1 _).setCellNew (by omega) 2 _).setCellNew (by omega) 3 _).setCellNew (by omega) 0 _).trans hu2
end Go.Proofs.YtajppgngoffonaaGreatDoor
