/- FsdirAgain returns true, whatever the script of calls, the picks and the number are, in whatever memory, and leaves all that was there as it was. No condition. -/
import Derived.Test.YteepgehjkcahiaaGreatRows
import Derived.Test.YteepgehjkcahiaaGreatC39
namespace Go.Proofs.YteepgehjkcahiaaGreat
namespace fsdirAgain
open Go.ChangeShapes Go.WideShapes Go.ChangeAt Go.RowKit
theorem laidOut : laidOutB Tryz.prog = true := by kernel_rfl
theorem own : ownKnob Tryz.prog.godebug = none := by kernel_rfl

set_option maxRecDepth 100000 in
theorem lifted (os : Os) (started : os.Started) (H : Type) (enc : TypeId × Value → H) :
    ReturnsInHanded {} Tryz.checked os 6 .any (Rows.fsdirAgainSpec.pre6 enc Tryz.prog Tryz.f6 Rows.fsdirAgainRow.domain false) (Rows.fsdirAgainSpec.post enc Tryz.prog Tryz.f6 false true false false) := by
  refine returnsInHanded_of_change_sized (C := Tryz.checked) own started (by kernel_rfl) Tryz.func6
    (ChangeSpec.witness6 (enc := enc) (C := Tryz.checked) false ⟨#[], #[.slice none 0 0, .slice none 0 0, .int .i64 0], []⟩ 8 (by kernel_rfl) (by kernel_rfl) (by kernel_rfl) (by kernel_rfl)) ?_
  intro W base args ds gs before hval0 hW _ hsz0 _
  have hval : ∀ (j : Nat) t v, Tryz.f6.params[j]? = some t → args[j]? = some v → Value.okWide Tryz.prog W .any base t v := hval0
  have hW' := hW
  obtain ⟨p, q, hA0, hV, rfl, hfz, hnd⟩ := hW
  have hA : DataW.TrodAll enc Tryz.prog W 0 (fun _ => true) true Tryz.f6.params.toList args.toList ds p := hA0
  obtain ⟨rfl, rfl⟩ := trodVars_none hV
  have hsz : (DataW.weightsEach Tryz.prog (Tryz.f6.params.toList ++ []) (ds ++ [])).all (· ≤ reachBytes) = true := hsz0
  rw [Tryz.params6] at hA hval hsz
  obtain ⟨v1, vs1, d1, ds1, p1, q1, hargs, rfl, rfl, h1, r1⟩ := trodAll_cons hA
  obtain ⟨v2, vs2, d2, ds2, p2, q2, rfl, rfl, rfl, h2, r2⟩ := trodAll_cons r1
  obtain ⟨v3, vs3, d3, ds3, p3, q3, rfl, rfl, rfl, h3, r3⟩ := trodAll_cons r2
  obtain ⟨rfl, rfl, rfl⟩ := trodAll_nil r3
  obtain rfl : args = #[v1, v2, v3] := by cases args; simp_all
  obtain ⟨fu1, h1⟩ := h1
  obtain ⟨v, l, e1, hs, hok⟩ := open_calls h1 (wt_arg hsz (j := 0) rfl rfl)
  obtain rfl := arg_sl Tryz.underlying47 (hval 0 47 v1 rfl rfl) rfl e1
  obtain ⟨fu2, h2⟩ := h2
  obtain ⟨v', l', e2, hz1, -, hz3, hz4⟩ := open_zs h2 (wt_arg hsz (j := 1) rfl rfl)
  obtain rfl := arg_sl Tryz.underlying22 (hval 1 22 v2 rfl rfl) rfl e2
  obtain ⟨n, rfl, z3⟩ := arg_int (hval 2 3 v3 rfl rfl) h3
  obtain ⟨sa, sl, sc, rfl⟩ := okWide_slice Tryz.underlying47 (hval 0 47 v rfl rfl)
  obtain ⟨sb, tl, tc, rfl⟩ := okWide_slice Tryz.underlying22 (hval 1 22 v' rfl rfl)
  have hl : sl ≤ 9223372036854775807 := by
    obtain ⟨a, c, hv, q1, q2, -⟩ := hs
    simp only [Value.slice.injEq] at hv
    obtain ⟨-, rfl, rfl⟩ := hv
    unfold maxLen at q2
    omega
  refine (fsagain_walk W sa sb sl sc tl tc n l l' hs hok hl hz1 hz3 hz4 z3).mono fun e W' ⟨he, hu⟩ => ?_
  subst he
  exact ⟨_, rfl, post_true (B := 4) rfl laidOut (by rw [Tryz.params6]; decide +kernel) rfl Tryz.underlying4 hW' hu rfl⟩

theorem over : Rows.fsdirAgainRow.holds Tryz.pinned (OpenSpec.ofChange Rows.fsdirAgainSpec) :=
  OpenClaim.holds_of_wide 6 Tryz.f6 rfl rfl rfl rfl rfl rfl rfl ⟨rfl, rfl, rfl, rfl, rfl⟩ rfl rfl rfl rfl rfl (by kernel_rfl) Tryz.func6 (by kernel_rfl)
    (of_decide_eq_true (by kernel_rfl)) (by unfold Func.isWrapper; first | (rw [if_pos (by decide +kernel)]; kernel_rfl) | (rw [if_neg (by decide +kernel)]; exact ⟨rfl, rfl⟩))
    (fun os started H enc _ => lifted os started H enc)

theorem proved : Rows.FsdirAgainSaid := over
#print axioms proved
end fsdirAgain
end Go.Proofs.YteepgehjkcahiaaGreat
