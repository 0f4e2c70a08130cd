/- RulesFolds returns true, whatever the arguments are, in whatever memory in which the listed tables read as they are laid, and leaves all that was there as it was. -/
import Derived.Test.YtnokekoojmljaaaDoorGFoW
import Derived.Test.YtnokekoojmljaaaDoorGLaid
import Derived.Test.YtnokekoojmljaaaDoorGOp
namespace Go.Proofs.YtnokekoojmljaaaDoor
open Go.ChangeShapes Go.WideShapes Go.ChangeAt Go.RowKit

namespace rulesFolds
set_option maxRecDepth 100000 in
theorem lifted (os : Os) (started : os.Started) (H : Type) (enc : TypeId × Value → H) :
    ReturnsInHanded {} Tryd.checked os 5 .any (fun w args => (Rows.rulesFoldsSpec.pre enc Tryd.prog Tryd.f5 [] false w args ∧ laidMetH Tryd.prog laid3 w) ∧ sizedMet enc Tryd.prog Tryd.f5 (OpenSpec.ofChange Rows.rulesFoldsSpec) false w args)
      (Rows.rulesFoldsSpec.post enc Tryd.prog Tryd.f5 false true false false) := by
  refine returnsInHanded_of_change_and (C := Tryd.checked) (X := fun w _ => laidMetH Tryd.prog laid3 w) (fun _ _ _ hh h => h.of_heap hh) own started (by kernel_rfl) Tryd.func5
    (ChangeSpec.witness_shaped (enc := enc) (C := Tryd.checked) (os := os) (X := fun w _ => laidMetH Tryd.prog laid3 w) false (World.doorLaid Tryd.prog 4000 os) #[.agg #[.slice none 0 0, .slice none 0 0], .string ByteArray.empty, .slice none 0 0, .agg #[.string ByteArray.empty, .int .i64 0, .slice none 0 0]] 8 rfl (World.shaped_of_RefB (by kernel_rfl) (by kernel_rfl)) (by kernel_rfl) (by kernel_rfl) (by kernel_rfl) (door_met os _)) ?_
  intro W base args ds gs before hval0 hW _ hsz0 hL _
  have hval : ∀ (j : Nat) t v, Tryd.f5.params[j]? = some t → args[j]? = some v → Value.okWide Tryd.prog W .any base t v := hval0
  have hW' := hW
  obtain ⟨p, q, hA0, hV, rfl, hfz, hnd⟩ := hW
  have hA : DataW.TrodAll enc Tryd.prog W 0 (fun _ => true) true Tryd.f5.params.toList args.toList ds p := hA0
  obtain ⟨rfl, rfl⟩ := trodVars_none hV
  have hsz : (DataW.weightsEach Tryd.prog (Tryd.f5.params.toList ++ []) (ds ++ [])).all (· ≤ reachBytes) = true := hsz0
  rw [Tryd.params5] at hA hval hsz
  obtain ⟨v0, vs0, d0, ds0, p0, q0, hargs, rfl, rfl, h0, r0⟩ := trodAll_cons hA
  obtain ⟨v1, vs1, d1, ds1, p1, q1, rfl, rfl, rfl, h1, r1⟩ := trodAll_cons r0
  obtain ⟨v2, vs2, d2, ds2, p2, q2, rfl, rfl, rfl, h2, r2⟩ := trodAll_cons r1
  obtain ⟨v3, vs3, d3, ds3, p3, q3, rfl, rfl, rfl, h3, r3⟩ := trodAll_cons r2
  obtain ⟨rfl, rfl, rfl⟩ := trodAll_nil r3
  obtain rfl : args = #[v0, v1, v2, v3] := by cases args; simp_all
  obtain ⟨fu0, hf0⟩ := h0
  have w0 : Wt 26 d0 := wt_arg hsz (j := 0) rfl rfl
  obtain ⟨fu1, hf1⟩ := h1
  have w1 : Wt 9 d1 := wt_arg hsz (j := 1) rfl rfl
  obtain ⟨fu2, hf2⟩ := h2
  have w2 : Wt 30 d2 := wt_arg hsz (j := 2) rfl rfl
  obtain ⟨fu3, hf3⟩ := h3
  have w3 : Wt 32 d3 := wt_arg hsz (j := 3) rfl rfl
  obtain ⟨ca0, rfl, -⟩ := okWide_struct Tryd.underlying26 (hval 0 26 v0 rfl rfl)
  obtain ⟨hv, ev, hs, es, hca0, hh, he, hfit⟩ := open_rules hf0 w0
  have hca0 : ca0 = #[hv, ev] := by cases ca0; simpa [Value.cells] using hca0
  subst hca0
  obtain ⟨s, rfl⟩ := okWide_string Tryd.underlying9 (hval 1 9 v1 rfl rfl)
  obtain ⟨s', e1, z1, -⟩ := get_str (cs := [.string s]) hf1 w1
  simp only [List.cons.injEq, Value.string.injEq, and_true] at e1
  subst e1
  obtain ⟨sa2, sl2, sc2, rfl⟩ := okWide_slice Tryd.underlying30 (hval 2 30 v2 rfl rfl)
  obtain ⟨x2, st, e2, r2', hF2, z2⟩ := open_rec (cs := [.slice sa2 sl2 sc2]) hf2 w2
  simp only [List.cons.injEq, and_true] at e2
  subst e2
  obtain ⟨ca3, rfl, -⟩ := okWide_struct Tryd.underlying32 (hval 3 32 v3 rfl rfl)
  obtain ⟨ty, ver, fv, fl, hca3, hfr, hfF, hfz, hty, hver⟩ := open_ev hf3 w3
  have hca3 : ca3 = #[.string ty, .int .i64 ver, fv] := by cases ca3; simpa [Value.cells] using hca3
  subst hca3
  have hP : FitP ⟨s, st, fl⟩ := ⟨by show s.size ≤ _; omega, fun f hf => (hF2 f hf).1, fun f hf => (hfF f hf).1⟩
  refine (folds_walk ⟨s, st, fl⟩ hP _ fv hv ev hs es ty ver W (tab_of_laid hL) ⟨r2', hfr⟩ hh he hfit z2).mono fun e W' ⟨he, hu⟩ => ?_
  subst he
  exact ⟨_, rfl, post_true (B := 4) rfl laidOut (by rw [Tryd.params5]; decide +kernel) rfl Tryd.underlying4 hW' hu rfl⟩

theorem row : Rows.rulesFoldsRow.holds Tryd.pinned (OpenSpec.ofChange Rows.rulesFoldsSpec) :=
  OpenClaim.holds_of_wide 5 Tryd.f5 rfl rfl rfl rfl rfl rfl rfl ⟨rfl, rfl, rfl, rfl, rfl⟩ rfl rfl rfl rfl rfl (by kernel_rfl) Tryd.func5 (by kernel_rfl)
    (of_decide_eq_true (by kernel_rfl)) (by unfold Func.isWrapper; first | (rw [if_pos (by decide +kernel)]; kernel_rfl) | (rw [if_neg (by decide +kernel)]; exact ⟨rfl, rfl⟩))
    (fun os started H enc _ => lifted os started H enc)

theorem proved : Rows.RulesFoldsCardSaid :=
  Claim7.holds_tied_plain_at .later [] [.data, .data, .data] true (true, "96ea42aa55f012177b602be7559c56be3892a4e76a1f5e8f798b657525e4d6dd") true
    row (fun _ h => by cases h) (by kernel_rfl) (fun _ h => by cases h) rulesFolds_row_tie rfl ⟨rfl, rfl⟩ (by kernel_rfl) rfl
    (fun f fn hf hfn => by
      obtain rfl : f = 5 := Option.some.inj ((show Tryd.prog.funcNamed "cartulary/cartularylaw13.RulesFolds" = some 5 by kernel_rfl).symm.trans hf) |>.symm
      obtain rfl : fn = Tryd.f5 := (Option.some.inj (Tryd.func5.symm.trans hfn)).symm
      exact ⟨by kernel_rfl, fun j t ht => by
        rw [Tryd.params5] at ht
        have hm : t ∈ [26, 9, 30, 32] := by simpa using Array.mem_of_getElem? ht
        have hall : ([26, 9, 30, 32].all fun u => !Tryd.prog.wantsStandIn u) = true := by kernel_rfl
        exact (show Tryd.prog.wantsStandIn t = false by simpa using List.all_eq_true.1 hall t hm)⟩)
    (by kernel_rfl)
#print axioms proved
end rulesFolds
end Go.Proofs.YtnokekoojmljaaaDoor
