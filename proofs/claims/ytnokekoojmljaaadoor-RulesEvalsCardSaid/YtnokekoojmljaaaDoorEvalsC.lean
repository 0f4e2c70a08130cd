/- RulesEvals returns true, whatever the arguments are, in whatever memory in which the listed tables read as they are laid, and leaves all that was there as it was. -/
import Derived.Test.YtnokekoojmljaaaDoorGEvalsW
import Derived.Test.YtnokekoojmljaaaDoorGLaid
import Derived.Test.YtnokekoojmljaaaDoorGOp
namespace Go.Proofs.YtnokekoojmljaaaDoor
open Go.ChangeShapes Go.WideShapes Go.ChangeAt Go.RowKit

namespace rulesEvals
set_option maxRecDepth 100000 in
theorem lifted (os : Os) (started : os.Started) (H : Type) (enc : TypeId × Value → H) :
    ReturnsInHanded {} Tryd.checked os 8 .any (fun w args => (Rows.rulesEvalsSpec.pre enc Tryd.prog Tryd.f8 [] false w args ∧ laidMetH Tryd.prog laid3 w) ∧ sizedMet enc Tryd.prog Tryd.f8 (OpenSpec.ofChange Rows.rulesEvalsSpec) false w args)
      (Rows.rulesEvalsSpec.post enc Tryd.prog Tryd.f8 false true false false) := by
  refine returnsInHanded_of_change_and (C := Tryd.checked) (X := fun w _ => laidMetH Tryd.prog laid3 w) (fun _ _ _ hh h => h.of_heap hh) own started (by kernel_rfl) Tryd.func8
    (ChangeSpec.witness_shaped (enc := enc) (C := Tryd.checked) (os := os) (X := fun w _ => laidMetH Tryd.prog laid3 w) false (World.doorLaid Tryd.prog 4000 os) #[.agg #[.int .i64 0, .bool false, .int .i64 0, .int .i64 0, .string ByteArray.empty, .slice none 0 0, .int .i64 0, .int .i64 0, .string ByteArray.empty, .slice none 0 0], .string ByteArray.empty, .slice none 0 0, .slice none 0 0] 8 rfl (World.shaped_of_RefB (by kernel_rfl) (by kernel_rfl)) (by kernel_rfl) (by kernel_rfl) (by kernel_rfl) (door_met os _)) ?_
  intro W base args ds gs before hval0 hW _ hsz0 hL _
  have hval : ∀ (j : Nat) t v, Tryd.f8.params[j]? = some t → args[j]? = some v → Value.okWide Tryd.prog W .any base t v := hval0
  have hW' := hW
  obtain ⟨p, q, hA0, hV, rfl, hfz, hnd⟩ := hW
  have hA : DataW.TrodAll enc Tryd.prog W 0 (fun _ => true) true Tryd.f8.params.toList args.toList ds p := hA0
  obtain ⟨rfl, rfl⟩ := trodVars_none hV
  have hsz : (DataW.weightsEach Tryd.prog (Tryd.f8.params.toList ++ []) (ds ++ [])).all (· ≤ reachBytes) = true := hsz0
  rw [Tryd.params8] at hA hval hsz
  obtain ⟨v0, vs0, d0, ds0, p0, q0, hargs, rfl, rfl, h0, r0⟩ := trodAll_cons hA
  obtain ⟨v1, vs1, d1, ds1, p1, q1, rfl, rfl, rfl, h1, r1⟩ := trodAll_cons r0
  obtain ⟨v2, vs2, d2, ds2, p2, q2, rfl, rfl, rfl, h2, r2⟩ := trodAll_cons r1
  obtain ⟨v3, vs3, d3, ds3, p3, q3, rfl, rfl, rfl, h3, r3⟩ := trodAll_cons r2
  obtain ⟨rfl, rfl, rfl⟩ := trodAll_nil r3
  obtain rfl : args = #[v0, v1, v2, v3] := by cases args; simp_all
  obtain ⟨fu0, hf0⟩ := h0
  have w0 : Wt 56 d0 := wt_arg hsz (j := 0) rfl rfl
  obtain ⟨fu1, hf1⟩ := h1
  have w1 : Wt 9 d1 := wt_arg hsz (j := 1) rfl rfl
  obtain ⟨fu2, hf2⟩ := h2
  have w2 : Wt 30 d2 := wt_arg hsz (j := 2) rfl rfl
  obtain ⟨fu3, hf3⟩ := h3
  have w3 : Wt 30 d3 := wt_arg hsz (j := 3) rfl rfl
  obtain ⟨ca0, rfl, -⟩ := okWide_struct Tryd.underlying56 (hval 0 56 v0 rfl rfl)
  obtain ⟨c, hca0, hka, hkb, hfit⟩ := open_cd hf0 w0
  have hca0 : ca0 = #[.int .i64 c.kd, .bool c.nt, .int .i64 c.a.kd, .int .i64 c.a.n, .string c.a.s, c.a.av, .int .i64 c.b.kd, .int .i64 c.b.n, .string c.b.s, c.b.av] := by cases ca0; simpa [Value.cells] using hca0
  subst hca0
  obtain ⟨s, rfl⟩ := okWide_string Tryd.underlying9 (hval 1 9 v1 rfl rfl)
  obtain ⟨s', e1, z1, -⟩ := get_str (cs := [.string s]) hf1 w1
  simp only [List.cons.injEq, Value.string.injEq, and_true] at e1
  subst e1
  obtain ⟨sa2, sl2, sc2, rfl⟩ := okWide_slice Tryd.underlying30 (hval 2 30 v2 rfl rfl)
  obtain ⟨x2, st, e2, r2', hF2, z2⟩ := open_rec (cs := [.slice sa2 sl2 sc2]) hf2 w2
  simp only [List.cons.injEq, and_true] at e2
  subst e2
  obtain ⟨sa3, sl3, sc3, rfl⟩ := okWide_slice Tryd.underlying30 (hval 3 30 v3 rfl rfl)
  obtain ⟨x3, gv, e3, r3', hF3, z3⟩ := open_rec (cs := [.slice sa3 sl3 sc3]) hf3 w3
  simp only [List.cons.injEq, and_true] at e3
  subst e3
  have hP : FitP ⟨s, st, gv⟩ := ⟨by show s.size ≤ _; omega, fun f hf => (hF2 f hf).1, fun f hf => (hF3 f hf).1⟩
  refine (evals_walk ⟨s, st, gv⟩ hP _ _ c hfit W (tab_of_laid hL) ⟨r2', r3'⟩ hka hkb).mono fun e W' ⟨he, hu⟩ => ?_
  subst he
  exact ⟨_, rfl, post_true (B := 4) rfl laidOut (by rw [Tryd.params8]; decide +kernel) rfl Tryd.underlying4 hW' hu rfl⟩

theorem row : Rows.rulesEvalsRow.holds Tryd.pinned (OpenSpec.ofChange Rows.rulesEvalsSpec) :=
  OpenClaim.holds_of_wide 8 Tryd.f8 rfl rfl rfl rfl rfl rfl rfl ⟨rfl, rfl, rfl, rfl, rfl⟩ rfl rfl rfl rfl rfl (by kernel_rfl) Tryd.func8 (by kernel_rfl)
    (of_decide_eq_true (by kernel_rfl)) (by unfold Func.isWrapper; first | (rw [if_pos (by decide +kernel)]; kernel_rfl) | (rw [if_neg (by decide +kernel)]; exact ⟨rfl, rfl⟩))
    (fun os started H enc _ => lifted os started H enc)

theorem proved : Rows.RulesEvalsCardSaid :=
  Claim7.holds_tied_plain_at .later [] [.data, .data, .data] true (true, "96ea42aa55f012177b602be7559c56be3892a4e76a1f5e8f798b657525e4d6dd") true
    row (fun _ h => by cases h) (by kernel_rfl) (fun _ h => by cases h) rulesEvals_row_tie rfl ⟨rfl, rfl⟩ (by kernel_rfl) rfl
    (fun f fn hf hfn => by
      obtain rfl : f = 8 := Option.some.inj ((show Tryd.prog.funcNamed "cartulary/cartularylaw13.RulesEvals" = some 8 by kernel_rfl).symm.trans hf) |>.symm
      obtain rfl : fn = Tryd.f8 := (Option.some.inj (Tryd.func8.symm.trans hfn)).symm
      exact ⟨by kernel_rfl, fun j t ht => by
        rw [Tryd.params8] at ht
        have hm : t ∈ [56, 9, 30, 30] := by simpa using Array.mem_of_getElem? ht
        have hall : ([56, 9, 30, 30].all fun u => !Tryd.prog.wantsStandIn u) = true := by kernel_rfl
        exact (show Tryd.prog.wantsStandIn t = false by simpa using List.all_eq_true.1 hall t hm)⟩)
    (by kernel_rfl)
#print axioms proved
end rulesEvals
end Go.Proofs.YtnokekoojmljaaaDoor
