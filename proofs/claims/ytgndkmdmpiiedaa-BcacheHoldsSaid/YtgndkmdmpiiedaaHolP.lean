/- BcacheHolds returns true, whatever the number, the keys and the pinned key are, in whatever memory, and leaves all that was there as it was. No condition. -/
import Derived.Test.YtgndkmdmpiiedaaRows
import Derived.Test.YtgndkmdmpiiedaaHol2
import Derived.Test.YtgndkmdmpiiedaaClose
import Derived.SliceStrings
namespace Go.Proofs.Ytgndkmdmpiiedaa
namespace bcacheHolds
open Go.ChangeShapes Go.WideShapes Go.ChangeAt Go.RowKit Go.ChangeMaps
theorem laidOut : laidOutB Try.prog = true := by kernel_rfl
theorem own : ownKnob Try.prog.godebug = none := by kernel_rfl
theorem cells9 : Try.prog.cellsOf 9 = 1 := by kernel_rfl

set_option maxRecDepth 100000 in
theorem lifted (os : Os) (started : os.Started) (H : Type) (enc : TypeId × Value → H) :
    ReturnsInHanded {} Try.checked os 4 .any (Rows.bcacheHoldsSpec.pre6 enc Try.prog Try.f4 Rows.bcacheHoldsRow.domain false) (Rows.bcacheHoldsSpec.post enc Try.prog Try.f4 false true false false) := by
  refine returnsInHanded_of_change (C := Try.checked) own started (by kernel_rfl) Try.func4
    (ChangeSpec.witness6 (enc := enc) (C := Try.checked) false ⟨#[], #[.int .i64 0, .slice none 0 0, .string ByteArray.empty], []⟩ 8 (by kernel_rfl) (by kernel_rfl) (by kernel_rfl) (by kernel_rfl)) ?_
  intro W base args ds gs before hval0 hW hcnd _
  have hval : ∀ (j : Nat) t v, Try.f4.params[j]? = some t → args[j]? = some v → Value.okWide Try.prog W .any base t v := hval0
  have hW' := hW
  obtain ⟨p, q, hA0, hV, rfl, hfz, hnd⟩ := hW
  have hA : DataW.TrodAll enc Try.prog W 0 (fun _ => true) true Try.f4.params.toList args.toList ds p := hA0
  rw [Try.params4] at hA hval
  obtain ⟨v0, vs0, d0, ds0, p0, q0, hargs, rfl, rfl, h0, r0⟩ := trodAll_cons hA
  obtain ⟨v1, vs1, d1, ds1, p1, q1, rfl, rfl, rfl, h1, r1⟩ := trodAll_cons r0
  obtain ⟨v2, vs2, d2, ds2, p2, q2, rfl, rfl, rfl, h2, r2⟩ := trodAll_cons r1
  obtain ⟨rfl, rfl, rfl⟩ := trodAll_nil r2
  obtain rfl : args = #[v0, v1, v2] := by cases args; simp_all
  obtain ⟨a0, rfl, e0, f0, w0⟩ := open_int Try.underlying3 (hval 0 3 v0 rfl rfl) h0
  obtain ⟨sa, sl, sc, rfl⟩ := okWide_slice Try.underlying33 (hval 1 33 v1 rfl rfl)
  obtain ⟨pin, rfl, e2, f2, w2⟩ := open_string Try.underlying9 (hval 2 9 v2 rfl rfl) h2
  obtain ⟨fuel, hf⟩ := h1
  have hb := bounds_i64 w0
  have hex : ∃ ss : List ByteArray, (∀ j, j < sl → ∃ b off, sa = some ⟨b, off, none⟩ ∧ W.cell? ⟨b, off + j, none⟩ = some (.string (ss.getD j ByteArray.empty))) ∧ sl ≤ 9223372036854775807 := by
    rcases open_strings Try.underlying33 Try.underlying9 cells9 hf with ⟨hcs, hx⟩ | ⟨a, len, cap, ss, hcs, _, hl, hm, hz, hx, hcell, _⟩
    · simp [Value.cells] at hcs
      obtain ⟨-, rfl, -⟩ := hcs
      exact ⟨[], fun j hj => absurd hj (by omega), by omega⟩
    · simp [Value.cells] at hcs
      obtain ⟨rfl, rfl, rfl⟩ := hcs
      unfold maxLen at hm
      simp at hz
      refine ⟨ss, fun j hj => ?_, by omega⟩
      have hp : 0 < ss.length := by omega
      obtain ⟨b, off, spot⟩ := a
      have hspot : spot = none := by simpa [Addr.add] using World.cell?_spot (hcell 0 hp)
      subst hspot
      exact ⟨b, off, rfl, by rw [← add_plain]; exact hcell j (by omega)⟩
  obtain ⟨ss, hc, hl⟩ := hex
  refine (walk a0 sa sl sc ss pin W hb.1 hb.2 hc hl).mono fun e W' ⟨he, hu⟩ => ?_
  subst he
  exact ⟨_, rfl, post_true (B := 4) rfl laidOut (by rw [Try.params4]; decide +kernel) rfl Try.underlying4 hW' hu rfl⟩

theorem over : Rows.bcacheHoldsRow.holds Try.pinned (OpenSpec.ofChange Rows.bcacheHoldsSpec) :=
  OpenClaim.holds_of_wide 4 Try.f4 rfl rfl rfl rfl rfl rfl rfl ⟨rfl, rfl, rfl, rfl, rfl⟩ rfl rfl rfl rfl rfl (by kernel_rfl) Try.func4 (by kernel_rfl)
    (of_decide_eq_true (by kernel_rfl)) (by unfold Func.isWrapper; first | (rw [if_pos (by decide +kernel)]; kernel_rfl) | (rw [if_neg (by decide +kernel)]; exact ⟨rfl, rfl⟩))
    (fun os started H enc _ => lifted os started H enc)

theorem proved : Rows.BcacheHoldsSaid := over
#print axioms proved
end bcacheHolds
end Go.Proofs.Ytgndkmdmpiiedaa
