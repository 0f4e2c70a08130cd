/- FsdirPlays returns true, whatever the number and the script of calls are, in whatever memory, and leaves all that was there as it was. No condition. -/
import Derived.Test.YteepgehjkcahiaaGreatRows
import Derived.Test.YteepgehjkcahiaaGreatC44
namespace Go.Proofs.YteepgehjkcahiaaGreat
namespace fsdirPlays
open Go.ChangeShapes Go.WideShapes Go.ChangeAt Go.RowKit
theorem laidOut : laidOutB Tryz.prog = true := by kernel_rfl
theorem own : ownKnob Tryz.prog.godebug = none := by kernel_rfl
set_option maxRecDepth 100000 in
theorem lifted (os : Os) (started : os.Started) (H : Type) (enc : TypeId × Value → H) :
  ReturnsInHanded {} Tryz.checked os 11 .any (Rows.fsdirPlaysSpec.pre6 enc Tryz.prog Tryz.f11 Rows.fsdirPlaysRow.domain false) (Rows.fsdirPlaysSpec.post enc Tryz.prog Tryz.f11 false true false false) := by
 refine returnsInHanded_of_change_sized (C := Tryz.checked) own started (by kernel_rfl) Tryz.func11
  (ChangeSpec.witness6 (enc := enc) (C := Tryz.checked) false ⟨#[], #[.int .i64 0, .slice none 0 0], []⟩ 8 (by kernel_rfl) (by kernel_rfl) (by kernel_rfl) (by kernel_rfl)) ?_
 intro W base args ds gs before hval0 hW _ hsz0 _
 have hval : ∀ (j : Nat) t v, Tryz.f11.params[j]? = some t → args[j]? = some v → Value.okWide Tryz.prog W .any base t v := hval0
 have hW' := hW
 obtain ⟨p, q, hA0, hV, rfl, hfz, hnd⟩ := hW
 have hA : DataW.TrodAll enc Tryz.prog W 0 (fun _ => true) true Tryz.f11.params.toList args.toList ds p := hA0
 obtain ⟨rfl, rfl⟩ := trodVars_none hV
 have hsz : (DataW.weightsEach Tryz.prog (Tryz.f11.params.toList ++ []) (ds ++ [])).all (· ≤ reachBytes) = true := hsz0
 rw [Tryz.params11] at hA hval hsz
 obtain ⟨v1, vs1, d1, ds1, p1, q1, hargs, rfl, rfl, h1, r1⟩ := trodAll_cons hA
 obtain ⟨v2, vs2, d2, ds2, p2, q2, rfl, rfl, rfl, h2, r2⟩ := trodAll_cons r1
 obtain ⟨rfl, rfl, rfl⟩ := trodAll_nil r2
 obtain rfl : args = #[v1, v2] := by cases args; simp_all
 obtain ⟨n, rfl, z1⟩ := arg_int (hval 0 3 v1 rfl rfl) h1
 obtain ⟨fu2, h2⟩ := h2
 obtain ⟨v, l, e2, hs, hok⟩ := open_calls h2 (wt_arg hsz (j := 1) rfl rfl)
 obtain rfl := arg_sl Tryz.underlying47 (hval 1 47 v2 rfl rfl) rfl e2
 obtain ⟨sa, sl, sc, rfl⟩ := okWide_slice Tryz.underlying47 (hval 1 47 v rfl rfl)
 have hl : sl ≤ 9223372036854775807 := by
  obtain ⟨a, c, hv, q1, q2, -⟩ := hs
  simp only [Value.slice.injEq] at hv
  obtain ⟨-, rfl, rfl⟩ := hv
  unfold maxLen at q2
  omega
 refine (fsplays_walk W n sa sl sc l hs hok hl z1).mono fun e W' ⟨he, hu⟩ => ?_
 subst he
 exact ⟨_, rfl, post_true (B := 4) rfl laidOut (by rw [Tryz.params11]; decide +kernel) rfl Tryz.underlying4 hW' hu rfl⟩
theorem over : Rows.fsdirPlaysRow.holds Tryz.pinned (OpenSpec.ofChange Rows.fsdirPlaysSpec) :=
 OpenClaim.holds_of_wide 11 Tryz.f11 rfl rfl rfl rfl rfl rfl rfl ⟨rfl, rfl, rfl, rfl, rfl⟩ rfl rfl rfl rfl rfl (by kernel_rfl) Tryz.func11 (by kernel_rfl)
  (of_decide_eq_true (by kernel_rfl)) (by unfold Func.isWrapper; first | (rw [if_pos (by decide +kernel)]; kernel_rfl) | (rw [if_neg (by decide +kernel)]; exact ⟨rfl, rfl⟩))
  (fun os started H enc _ => lifted os started H enc)
theorem proved : Rows.FsdirPlaysSaid := over
#print axioms proved
end fsdirPlays
end Go.Proofs.YteepgehjkcahiaaGreat
