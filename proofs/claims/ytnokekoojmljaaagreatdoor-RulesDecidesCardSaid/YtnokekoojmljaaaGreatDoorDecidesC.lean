/- RulesDecides returns true, whatever the arguments are, in whatever memory in which the listed tables read as they are laid, and leaves all that was there as it was. -/
import Derived.Test.YtnokekoojmljaaaGreatDoorGDcW
import Derived.Test.YtnokekoojmljaaaGreatDoorGLaid
import Derived.Test.YtnokekoojmljaaaGreatDoorGOp
namespace Go.Proofs.YtnokekoojmljaaaGreatDoor
open Go.ChangeShapes Go.WideShapes Go.ChangeAt Go.RowKit

namespace rulesDecides
set_option maxRecDepth 100000 in
theorem lifted (os : Os) (started : os.Started) (H : Type) (enc : TypeId × Value → H) :
    ReturnsInHanded {} Tryz.checked os 3 .any (fun w args => (Rows.rulesDecidesSpec.pre enc Tryz.prog Tryz.f3 [] false w args ∧ laidMetH Tryz.prog laid3 w) ∧ sizedMet enc Tryz.prog Tryz.f3 (OpenSpec.ofChange Rows.rulesDecidesSpec) false w args)
      (Rows.rulesDecidesSpec.post enc Tryz.prog Tryz.f3 false true false false) := by
  refine returnsInHanded_of_change_and (C := Tryz.checked) (X := fun w _ => laidMetH Tryz.prog laid3 w) (fun _ _ _ hh h => h.of_heap hh) own started (by kernel_rfl) Tryz.func3
    (ChangeSpec.witness_shaped (enc := enc) (C := Tryz.checked) (os := os) (X := fun w _ => laidMetH Tryz.prog laid3 w) false (World.doorLaid Tryz.prog 4000 os) #[.agg #[.slice none 0 0, .slice none 0 0], .string ByteArray.empty, .slice none 0 0, .string ByteArray.empty, .slice none 0 0] 8 rfl (World.shaped_of_RefB (by kernel_rfl) (by kernel_rfl)) (by kernel_rfl) (by kernel_rfl) (by kernel_rfl) (door_met os _)) ?_
  intro W base args ds gs before hval0 hW _ hsz0 hL _
  have hval : ∀ (j : Nat) t v, Tryz.f3.params[j]? = some t → args[j]? = some v → Value.okWide Tryz.prog W .any base t v := hval0
  have hW' := hW
  obtain ⟨p, q, hA0, hV, rfl, hfz, hnd⟩ := hW
  have hA : DataW.TrodAll enc Tryz.prog W 0 (fun _ => true) true Tryz.f3.params.toList args.toList ds p := hA0
  obtain ⟨rfl, rfl⟩ := trodVars_none hV
  have hsz : (DataW.weightsEach Tryz.prog (Tryz.f3.params.toList ++ []) (ds ++ [])).all (· ≤ reachBytes) = true := hsz0
  rw [Tryz.params3] at hA hval hsz
  obtain ⟨v0, vs0, d0, ds0, p0, q0, hargs, rfl, rfl, h0, r0⟩ := trodAll_cons hA
  obtain ⟨v1, vs1, d1, ds1, p1, q1, rfl, rfl, rfl, h1, r1⟩ := trodAll_cons r0
  obtain ⟨v2, vs2, d2, ds2, p2, q2, rfl, rfl, rfl, h2, r2⟩ := trodAll_cons r1
  obtain ⟨v3, vs3, d3, ds3, p3, q3, rfl, rfl, rfl, h3, r3⟩ := trodAll_cons r2
  obtain ⟨v4, vs4, d4, ds4, p4, q4, rfl, rfl, rfl, h4, r4⟩ := trodAll_cons r3
  obtain ⟨rfl, rfl, rfl⟩ := trodAll_nil r4
  obtain rfl : args = #[v0, v1, v2, v3, v4] := by cases args; simp_all
  obtain ⟨fu0, hf0⟩ := h0
  have w0 : Wt 25 d0 := wt_arg hsz (j := 0) rfl rfl
  obtain ⟨fu1, hf1⟩ := h1
  have w1 : Wt 9 d1 := wt_arg hsz (j := 1) rfl rfl
  obtain ⟨fu2, hf2⟩ := h2
  have w2 : Wt 26 d2 := wt_arg hsz (j := 2) rfl rfl
  obtain ⟨fu3, hf3⟩ := h3
  have w3 : Wt 9 d3 := wt_arg hsz (j := 3) rfl rfl
  obtain ⟨fu4, hf4⟩ := h4
  have w4 : Wt 26 d4 := wt_arg hsz (j := 4) rfl rfl
  obtain ⟨ca0, rfl, -⟩ := okWide_struct Tryz.underlying25 (hval 0 25 v0 rfl rfl)
  obtain ⟨hv, ev, hs, es, hca0, hh, he, hfit⟩ := open_rules hf0 w0
  have hca0 : ca0 = #[hv, ev] := by cases ca0; simpa [Value.cells] using hca0
  subst hca0
  obtain ⟨s, rfl⟩ := okWide_string Tryz.underlying9 (hval 1 9 v1 rfl rfl)
  obtain ⟨s', e1, z1, -⟩ := get_str (cs := [.string s]) hf1 w1
  simp only [List.cons.injEq, Value.string.injEq, and_true] at e1
  subst e1
  obtain ⟨sa2, sl2, sc2, rfl⟩ := okWide_slice Tryz.underlying26 (hval 2 26 v2 rfl rfl)
  obtain ⟨x2, st, e2, r2', hF2, z2⟩ := open_rec (cs := [.slice sa2 sl2 sc2]) hf2 w2
  simp only [List.cons.injEq, and_true] at e2
  subst e2
  obtain ⟨cm, rfl⟩ := okWide_string Tryz.underlying9 (hval 3 9 v3 rfl rfl)
  obtain ⟨cm', e3, z3, -⟩ := get_str (cs := [.string cm]) hf3 w3
  simp only [List.cons.injEq, Value.string.injEq, and_true] at e3
  subst e3
  obtain ⟨sa4, sl4, sc4, rfl⟩ := okWide_slice Tryz.underlying26 (hval 4 26 v4 rfl rfl)
  obtain ⟨x4, gv, e4, r4', hF4, z4⟩ := open_rec (cs := [.slice sa4 sl4 sc4]) hf4 w4
  simp only [List.cons.injEq, and_true] at e4
  subst e4
  have hP : FitP ⟨s, st, gv⟩ := ⟨by show s.size ≤ _; omega, fun f hf => (hF2 f hf).1, fun f hf => (hF4 f hf).1⟩
  have hev : ∃ a n c, ev = .slice a n c := by
    obtain ⟨a, c, e, -⟩ := he.isSlice
    exact ⟨a, _, c, e⟩
  refine (decides_walk ⟨s, st, gv⟩ hP _ _ hv ev hs cm W (tab_of_laid hL) ⟨r2', r4'⟩ hh hfit.2.2.1 hev ⟨z2, z4⟩).mono fun e W' ⟨he, hu⟩ => ?_
  subst he
  exact ⟨_, rfl, post_true (B := 4) rfl laidOut (by rw [Tryz.params3]; decide +kernel) rfl Tryz.underlying4 hW' hu rfl⟩

theorem row : Rows.rulesDecidesRow.holds Tryz.pinned (OpenSpec.ofChange Rows.rulesDecidesSpec) :=
  OpenClaim.holds_of_wide 3 Tryz.f3 rfl rfl rfl rfl rfl rfl rfl ⟨rfl, rfl, rfl, rfl, rfl⟩ rfl rfl rfl rfl rfl (by kernel_rfl) Tryz.func3 (by kernel_rfl)
    (of_decide_eq_true (by kernel_rfl)) (by unfold Func.isWrapper; first | (rw [if_pos (by decide +kernel)]; kernel_rfl) | (rw [if_neg (by decide +kernel)]; exact ⟨rfl, rfl⟩))
    (fun os started H enc _ => lifted os started H enc)

theorem proved : Rows.RulesDecidesCardSaid :=
  Claim7.holds_tied_plain_at .later [] [.data, .data, .data] true (true, "1b5bc7529b85d7974ffebafcd29c090748d9fc5cc8c12ba2d407251044382a93") true
    row (fun _ h => by cases h) (by kernel_rfl) (fun _ h => by cases h) rulesDecides_row_tie rfl ⟨rfl, rfl⟩ (by kernel_rfl) rfl
    (fun f fn hf hfn => by
      obtain rfl : f = 3 := Option.some.inj ((show Tryz.prog.funcNamed "cartulary/cartularylaw13.RulesDecides" = some 3 by kernel_rfl).symm.trans hf) |>.symm
      obtain rfl : fn = Tryz.f3 := (Option.some.inj (Tryz.func3.symm.trans hfn)).symm
      exact ⟨by kernel_rfl, fun j t ht => by
        rw [Tryz.params3] at ht
        have hm : t ∈ [25, 9, 26, 9, 26] := by simpa using Array.mem_of_getElem? ht
        have hall : ([25, 9, 26, 9, 26].all fun u => !Tryz.prog.wantsStandIn u) = true := by kernel_rfl
        exact (show Tryz.prog.wantsStandIn t = false by simpa using List.all_eq_true.1 hall t hm)⟩)
    (by kernel_rfl)
#print axioms proved
end rulesDecides
end Go.Proofs.YtnokekoojmljaaaGreatDoor
