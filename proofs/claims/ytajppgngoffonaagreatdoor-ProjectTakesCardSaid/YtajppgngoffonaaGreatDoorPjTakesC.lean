/- ProjectTakes returns true, whatever the arguments are, in whatever memory in which the listed tables read as they are laid, and leaves all that was there as it was. -/
import Derived.Test.YtajppgngoffonaaGreatDoorGPtw
import Derived.Test.YtajppgngoffonaaGreatDoorGLaid
import Derived.Test.YtajppgngoffonaaGreatDoorGPop
namespace Go.Proofs.YtajppgngoffonaaGreatDoor
open Go.ChangeShapes Go.WideShapes Go.ChangeAt Go.RowKit

namespace projectTakes
set_option maxRecDepth 100000 in
theorem lifted (os : Os) (started : os.Started) (H : Type) (enc : TypeId × Value → H) :
    ReturnsInHanded {} Tryz.checked os 3 .any (fun w args => (Rows.projectTakesSpec.pre enc Tryz.prog Tryz.f3 [] false w args ∧ laidMetH Tryz.prog laid3 w) ∧ sizedMet enc Tryz.prog Tryz.f3 (OpenSpec.ofChange Rows.projectTakesSpec) false w args)
      (Rows.projectTakesSpec.post enc Tryz.prog Tryz.f3 false true false false) := by
  refine returnsInHanded_of_change_and (C := Tryz.checked) (X := fun w _ => laidMetH Tryz.prog laid3 w) (fun _ _ _ hh h => h.of_heap hh) own started (by kernel_rfl) Tryz.func3
    (ChangeSpec.witness_shaped (enc := enc) (C := Tryz.checked) (os := os) (X := fun w _ => laidMetH Tryz.prog laid3 w) false (World.doorLaid Tryz.prog 4000 os) #[.agg #[.string ByteArray.empty, .slice none 0 0], .slice none 0 0, .slice none 0 0, .string ByteArray.empty] 8 rfl (World.shaped_of_RefB (by kernel_rfl) (by kernel_rfl)) (by kernel_rfl) (by kernel_rfl) (by kernel_rfl) (door_met os _)) ?_
  intro W base args ds gs before hval0 hW _ hsz0 hL _
  have hval : ∀ (j : Nat) t v, Tryz.f3.params[j]? = some t → args[j]? = some v → Value.okWide Tryz.prog W .any base t v := hval0
  have hW' := hW
  obtain ⟨p, q, hA0, hV, rfl, hfz, hnd⟩ := hW
  have hA : DataW.TrodAll enc Tryz.prog W 0 (fun _ => true) true Tryz.f3.params.toList args.toList ds p := hA0
  obtain ⟨rfl, rfl⟩ := trodVars_none hV
  have hsz : (DataW.weightsEach Tryz.prog (Tryz.f3.params.toList ++ []) (ds ++ [])).all (· ≤ reachBytes) = true := hsz0
  rw [Tryz.params3] at hA hval hsz
  obtain ⟨v0, vs0, d0, ds0, p0, q0, hargs, rfl, rfl, h0, r0⟩ := trodAll_cons hA
  obtain ⟨v1, vs1, d1, ds1, p1, q1, rfl, rfl, rfl, h1, r1⟩ := trodAll_cons r0
  obtain ⟨v2, vs2, d2, ds2, p2, q2, rfl, rfl, rfl, h2, r2⟩ := trodAll_cons r1
  obtain ⟨v3, vs3, d3, ds3, p3, q3, rfl, rfl, rfl, h3, r3⟩ := trodAll_cons r2
  obtain ⟨rfl, rfl, rfl⟩ := trodAll_nil r3
  obtain rfl : args = #[v0, v1, v2, v3] := by cases args; simp_all
  obtain ⟨fu0, hf0⟩ := h0
  have w0 : Wt 24 d0 := wt_arg hsz (j := 0) rfl rfl
  obtain ⟨fu1, hf1⟩ := h1
  have w1 : Wt 25 d1 := wt_arg hsz (j := 1) rfl rfl
  obtain ⟨fu2, hf2⟩ := h2
  have w2 : Wt 26 d2 := wt_arg hsz (j := 2) rfl rfl
  obtain ⟨fu3, hf3⟩ := h3
  have w3 : Wt 9 d3 := wt_arg hsz (j := 3) rfl rfl
  obtain ⟨ca0, rfl, -⟩ := okWide_struct Tryz.underlying24 (hval 0 24 v0 rfl rfl)
  obtain ⟨nm, sv, sums, hca0, hn, hs, hfs, hsl⟩ := open_prj hf0 w0
  have hca0 : ca0 = #[.string nm, sv] := by cases ca0; simpa [Value.cells] using hca0
  subst hca0
  obtain ⟨sa1, sl1, sc1, rfl⟩ := okWide_slice Tryz.underlying25 (hval 1 25 v1 rfl rfl)
  obtain ⟨x1, us, e1, hus, hfu, hul⟩ := open_ups (cs := [.slice sa1 sl1 sc1]) hf1 w1
  simp only [List.cons.injEq, and_true] at e1
  subst e1
  obtain ⟨sa2, sl2, sc2, rfl⟩ := okWide_slice Tryz.underlying26 (hval 2 26 v2 rfl rfl)
  obtain ⟨x2, es, e2, hes, hfe, hel⟩ := open_ents (cs := [.slice sa2 sl2 sc2]) hf2 w2
  simp only [List.cons.injEq, and_true] at e2
  subst e2
  obtain ⟨key, rfl⟩ := okWide_string Tryz.underlying9 (hval 3 9 v3 rfl rfl)
  obtain ⟨key', e3, z3, z4⟩ := get_str (cs := [.string key]) hf3 w3
  simp only [List.cons.injEq, Value.string.injEq, and_true] at e3
  subst e3
  refine (takes_walk nm sv _ _ key sums us es W (tab_of_laid hL) hn hs hfs (by omega) hus (fun u hu => (hfu u hu).1) (by omega) (fun u hu => by have := (hfu u hu).2; omega) hes hfe (by omega) z4).mono fun e W' ⟨he, hu⟩ => ?_
  subst he
  exact ⟨_, rfl, post_true (B := 4) rfl laidOut (by rw [Tryz.params3]; decide +kernel) rfl Tryz.underlying4 hW' hu rfl⟩

theorem row : Rows.projectTakesRow.holds Tryz.pinned (OpenSpec.ofChange Rows.projectTakesSpec) :=
  OpenClaim.holds_of_wide 3 Tryz.f3 rfl rfl rfl rfl rfl rfl rfl ⟨rfl, rfl, rfl, rfl, rfl⟩ rfl rfl rfl rfl rfl (by kernel_rfl) Tryz.func3 (by kernel_rfl)
    (of_decide_eq_true (by kernel_rfl)) (by unfold Func.isWrapper; first | (rw [if_pos (by decide +kernel)]; kernel_rfl) | (rw [if_neg (by decide +kernel)]; exact ⟨rfl, rfl⟩))
    (fun os started H enc _ => lifted os started H enc)

theorem proved : Rows.ProjectTakesCardSaid :=
  Claim7.holds_tied_plain_at .later [] [.data, .data, .data] true (true, "aee4ea3688807689cf8048a0a80017c8930d36249af78e47980f08475a149167") true
    row (fun _ h => by cases h) (by kernel_rfl) (fun _ h => by cases h) projectTakes_row_tie rfl ⟨rfl, rfl⟩ (by kernel_rfl) rfl
    (fun f fn hf hfn => by
      obtain rfl : f = 3 := Option.some.inj ((show Tryz.prog.funcNamed "cartulary/cartularylaw17.ProjectTakes" = some 3 by kernel_rfl).symm.trans hf) |>.symm
      obtain rfl : fn = Tryz.f3 := (Option.some.inj (Tryz.func3.symm.trans hfn)).symm
      exact ⟨by kernel_rfl, fun j t ht => by
        rw [Tryz.params3] at ht
        have hm : t ∈ [24, 25, 26, 9] := by simpa using Array.mem_of_getElem? ht
        have hall : ([24, 25, 26, 9].all fun u => !Tryz.prog.wantsStandIn u) = true := by kernel_rfl
        exact (show Tryz.prog.wantsStandIn t = false by simpa using List.all_eq_true.1 hall t hm)⟩)
    (by kernel_rfl)
#print axioms proved
end projectTakes
end Go.Proofs.YtajppgngoffonaaGreatDoor
