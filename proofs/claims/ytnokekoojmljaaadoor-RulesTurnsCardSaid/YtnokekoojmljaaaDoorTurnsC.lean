/- RulesTurns returns true, whatever the arguments are, in whatever memory in which the listed tables read as they are laid, and leaves all that was there as it was. -/
import Derived.Test.YtnokekoojmljaaaDoorGTuW
import Derived.Test.YtnokekoojmljaaaDoorGLaid
import Derived.Test.YtnokekoojmljaaaDoorGOp
namespace Go.Proofs.YtnokekoojmljaaaDoor
open Go.ChangeShapes Go.WideShapes Go.ChangeAt Go.RowKit

namespace rulesTurns
set_option maxRecDepth 100000 in
theorem lifted (os : Os) (started : os.Started) (H : Type) (enc : TypeId × Value → H) :
    ReturnsInHanded {} Tryd.checked os 9 .any (fun w args => (Rows.rulesTurnsSpec.pre enc Tryd.prog Tryd.f9 [] false w args ∧ laidMetH Tryd.prog laid3 w) ∧ sizedMet enc Tryd.prog Tryd.f9 (OpenSpec.ofChange Rows.rulesTurnsSpec) false w args)
      (Rows.rulesTurnsSpec.post enc Tryd.prog Tryd.f9 false true false false) := by
  refine returnsInHanded_of_change_and (C := Tryd.checked) (X := fun w _ => laidMetH Tryd.prog laid3 w) (fun _ _ _ hh h => h.of_heap hh) own started (by kernel_rfl) Tryd.func9
    (ChangeSpec.witness_shaped (enc := enc) (C := Tryd.checked) (os := os) (X := fun w _ => laidMetH Tryd.prog laid3 w) false (World.doorLaid Tryd.prog 4000 os) #[.agg #[.int .i64 0, .int .i64 0, .string ByteArray.empty, .slice none 0 0], .agg #[.int .i64 0, .int .i64 0, .string ByteArray.empty, .slice none 0 0], .agg #[.int .i64 0, .bool false, .int .i64 0, .int .i64 0, .string ByteArray.empty, .slice none 0 0, .int .i64 0, .int .i64 0, .string ByteArray.empty, .slice none 0 0], .string ByteArray.empty, .slice none 0 0, .slice none 0 0] 8 rfl (World.shaped_of_RefB (by kernel_rfl) (by kernel_rfl)) (by kernel_rfl) (by kernel_rfl) (by kernel_rfl) (door_met os _)) ?_
  intro W base args ds gs before hval0 hW _ hsz0 hL _
  have hval : ∀ (j : Nat) t v, Tryd.f9.params[j]? = some t → args[j]? = some v → Value.okWide Tryd.prog W .any base t v := hval0
  have hW' := hW
  obtain ⟨p, q, hA0, hV, rfl, hfz, hnd⟩ := hW
  have hA : DataW.TrodAll enc Tryd.prog W 0 (fun _ => true) true Tryd.f9.params.toList args.toList ds p := hA0
  obtain ⟨rfl, rfl⟩ := trodVars_none hV
  have hsz : (DataW.weightsEach Tryd.prog (Tryd.f9.params.toList ++ []) (ds ++ [])).all (· ≤ reachBytes) = true := hsz0
  rw [Tryd.params9] at hA hval hsz
  obtain ⟨v0, vs0, d0, ds0, p0, q0, hargs, rfl, rfl, h0, r0⟩ := trodAll_cons hA
  obtain ⟨v1, vs1, d1, ds1, p1, q1, rfl, rfl, rfl, h1, r1⟩ := trodAll_cons r0
  obtain ⟨v2, vs2, d2, ds2, p2, q2, rfl, rfl, rfl, h2, r2⟩ := trodAll_cons r1
  obtain ⟨v3, vs3, d3, ds3, p3, q3, rfl, rfl, rfl, h3, r3⟩ := trodAll_cons r2
  obtain ⟨v4, vs4, d4, ds4, p4, q4, rfl, rfl, rfl, h4, r4⟩ := trodAll_cons r3
  obtain ⟨v5, vs5, d5, ds5, p5, q5, rfl, rfl, rfl, h5, r5⟩ := trodAll_cons r4
  obtain ⟨rfl, rfl, rfl⟩ := trodAll_nil r5
  obtain rfl : args = #[v0, v1, v2, v3, v4, v5] := by cases args; simp_all
  obtain ⟨fu0, hf0⟩ := h0
  have w0 : Wt 54 d0 := wt_arg hsz (j := 0) rfl rfl
  obtain ⟨fu1, hf1⟩ := h1
  have w1 : Wt 54 d1 := wt_arg hsz (j := 1) rfl rfl
  obtain ⟨fu2, hf2⟩ := h2
  have w2 : Wt 56 d2 := wt_arg hsz (j := 2) rfl rfl
  obtain ⟨fu3, hf3⟩ := h3
  have w3 : Wt 9 d3 := wt_arg hsz (j := 3) rfl rfl
  obtain ⟨fu4, hf4⟩ := h4
  have w4 : Wt 30 d4 := wt_arg hsz (j := 4) rfl rfl
  obtain ⟨fu5, hf5⟩ := h5
  have w5 : Wt 30 d5 := wt_arg hsz (j := 5) rfl rfl
  obtain ⟨ca0, rfl, -⟩ := okWide_struct Tryd.underlying54 (hval 0 54 v0 rfl rfl)
  obtain ⟨xa, hca0, hkxa, hfxa⟩ := open_xp _ _ _ hf0 w0
  have hca0 : ca0 = #[.int .i64 xa.kd, .int .i64 xa.n, .string xa.s, xa.av] := by cases ca0; simpa [Value.cells] using hca0
  subst hca0
  obtain ⟨ca1, rfl, -⟩ := okWide_struct Tryd.underlying54 (hval 1 54 v1 rfl rfl)
  obtain ⟨xb, hca1, hkxb, hfxb⟩ := open_xp _ _ _ hf1 w1
  have hca1 : ca1 = #[.int .i64 xb.kd, .int .i64 xb.n, .string xb.s, xb.av] := by cases ca1; simpa [Value.cells] using hca1
  subst hca1
  obtain ⟨ca2, rfl, -⟩ := okWide_struct Tryd.underlying56 (hval 2 56 v2 rfl rfl)
  obtain ⟨c, hca2, hka, hkb, hfit⟩ := open_cd hf2 w2
  have hca2 : ca2 = #[.int .i64 c.kd, .bool c.nt, .int .i64 c.a.kd, .int .i64 c.a.n, .string c.a.s, c.a.av, .int .i64 c.b.kd, .int .i64 c.b.n, .string c.b.s, c.b.av] := by cases ca2; simpa [Value.cells] using hca2
  subst hca2
  obtain ⟨s, rfl⟩ := okWide_string Tryd.underlying9 (hval 3 9 v3 rfl rfl)
  obtain ⟨s', e3, z3, -⟩ := get_str (cs := [.string s]) hf3 w3
  simp only [List.cons.injEq, Value.string.injEq, and_true] at e3
  subst e3
  obtain ⟨sa4, sl4, sc4, rfl⟩ := okWide_slice Tryd.underlying30 (hval 4 30 v4 rfl rfl)
  obtain ⟨x4, st, e4, r4', hF4, z4⟩ := open_rec (cs := [.slice sa4 sl4 sc4]) hf4 w4
  simp only [List.cons.injEq, and_true] at e4
  subst e4
  obtain ⟨sa5, sl5, sc5, rfl⟩ := okWide_slice Tryd.underlying30 (hval 5 30 v5 rfl rfl)
  obtain ⟨x5, gv, e5, r5', hF5, z5⟩ := open_rec (cs := [.slice sa5 sl5 sc5]) hf5 w5
  simp only [List.cons.injEq, and_true] at e5
  subst e5
  have hP : FitP ⟨s, st, gv⟩ := ⟨by show s.size ≤ _; omega, fun f hf => (hF4 f hf).1, fun f hf => (hF5 f hf).1⟩
  refine (turns_walk ⟨s, st, gv⟩ hP _ _ xa xb c hfxa hfxb hfit W (tab_of_laid hL) ⟨r4', r5'⟩ hkxa hkxb hka hkb).mono fun e W' ⟨he, hu⟩ => ?_
  subst he
  exact ⟨_, rfl, post_true (B := 4) rfl laidOut (by rw [Tryd.params9]; decide +kernel) rfl Tryd.underlying4 hW' hu rfl⟩

theorem row : Rows.rulesTurnsRow.holds Tryd.pinned (OpenSpec.ofChange Rows.rulesTurnsSpec) :=
  OpenClaim.holds_of_wide 9 Tryd.f9 rfl rfl rfl rfl rfl rfl rfl ⟨rfl, rfl, rfl, rfl, rfl⟩ rfl rfl rfl rfl rfl (by kernel_rfl) Tryd.func9 (by kernel_rfl)
    (of_decide_eq_true (by kernel_rfl)) (by unfold Func.isWrapper; first | (rw [if_pos (by decide +kernel)]; kernel_rfl) | (rw [if_neg (by decide +kernel)]; exact ⟨rfl, rfl⟩))
    (fun os started H enc _ => lifted os started H enc)

theorem proved : Rows.RulesTurnsCardSaid :=
  Claim7.holds_tied_plain_at .later [] [.data, .data, .data] true (true, "96ea42aa55f012177b602be7559c56be3892a4e76a1f5e8f798b657525e4d6dd") true
    row (fun _ h => by cases h) (by kernel_rfl) (fun _ h => by cases h) rulesTurns_row_tie rfl ⟨rfl, rfl⟩ (by kernel_rfl) rfl
    (fun f fn hf hfn => by
      obtain rfl : f = 9 := Option.some.inj ((show Tryd.prog.funcNamed "cartulary/cartularylaw13.RulesTurns" = some 9 by kernel_rfl).symm.trans hf) |>.symm
      obtain rfl : fn = Tryd.f9 := (Option.some.inj (Tryd.func9.symm.trans hfn)).symm
      exact ⟨by kernel_rfl, fun j t ht => by
        rw [Tryd.params9] at ht
        have hm : t ∈ [54, 54, 56, 9, 30, 30] := by simpa using Array.mem_of_getElem? ht
        have hall : ([54, 54, 56, 9, 30, 30].all fun u => !Tryd.prog.wantsStandIn u) = true := by kernel_rfl
        exact (show Tryd.prog.wantsStandIn t = false by simpa using List.all_eq_true.1 hall t hm)⟩)
    (by kernel_rfl)
#print axioms proved
end rulesTurns
end Go.Proofs.YtnokekoojmljaaaDoor
