/- BcachePlays returns true, whatever the number and the script are, in whatever memory, and leaves all that was there as it was. No condition. -/
import Derived.Test.YtgndkmdmpiiedaaRows
import Derived.Test.YtgndkmdmpiiedaaPl4
import Derived.Test.YtgndkmdmpiiedaaClose
import Derived.Deep.Slices
import Derived.Deep.Fields
import Derived.ChangeSame
namespace Go.Proofs.Ytgndkmdmpiiedaa
namespace bcachePlays
open Go.ChangeShapes Go.WideShapes Go.ChangeAt Go.RowKit Go.Deep
theorem laidOut : laidOutB Try.prog = true := by kernel_rfl
theorem own : ownKnob Try.prog.godebug = none := by kernel_rfl
theorem cells53 : Try.prog.cellsOf 53 = 4 := by kernel_rfl
theorem one3 : Try.prog.cellsOf 3 = 1 := by kernel_rfl
theorem one4 : Try.prog.cellsOf 4 = 1 := by kernel_rfl

theorem four {α : Type} {l : List α} (h : l.length = 4) : ∃ a b c d, l = [a, b, c, d] := by
  match l, h with
  | [a, b, c, d], _ => exact ⟨a, b, c, d, rfl⟩

section
variable {H : Type} {enc : TypeId × Value → H} {w : World} {base : Nat} {spare : Nat → Bool} {held : Bool}

/-- A script of calls: what its cells hold. -/
theorem open_calls {fuel : Nat} {a : Option Addr} {len cap : Nat} {x : DataW H × List MemPlace} (h : DataW.trod enc Try.prog w base spare held fuel 44 [.slice a len cap] = some x) :
    (∀ j, j < len → ∃ b off kind K V D, a = some ⟨b, off, none⟩ ∧ CallAt w b (off + j * 4) kind K V D) ∧ len ≤ 9223372036854775807 := by
  rcases open_slice Try.underlying44 h with ⟨h0, _⟩ | ⟨a', len', cap', m, n, D, Pl, hcs, hb, hl, hm, hmm, hx, hi⟩
  · simp at h0
    obtain ⟨-, rfl, -⟩ := h0
    exact ⟨fun j hj => absurd hj (by omega), by omega⟩
  · simp at hcs
    obtain ⟨rfl, rfl, rfl⟩ := hcs
    unfold maxLen at hm
    simp only [cells53] at hi
    refine ⟨fun j hj => ?_, by omega⟩
    obtain ⟨cs', hc, ht'⟩ := hi j (by rw [hmm]; split <;> omega)
    obtain ⟨ys, n', hn', hy, hlen, hyl, hf⟩ := DataW.trod_struct Try.underlying53 ht'
    obtain ⟨_, hcl, hat⟩ := World.cells?_some hc
    obtain ⟨k0, k1, k2, k3, rfl⟩ := four hcl
    have g0 : DataW.trod enc Try.prog w base spare held n' 3 (List.take (Try.prog.cellsOf 3) [k0, k1, k2, k3]) = ys[0]? := hf 0 _ rfl
    have g1 : DataW.trod enc Try.prog w base spare held n' 3 (List.take (Try.prog.cellsOf 3) [k1, k2, k3]) = ys[1]? := hf 1 _ rfl
    have g2 : DataW.trod enc Try.prog w base spare held n' 3 (List.take (Try.prog.cellsOf 3) [k2, k3]) = ys[2]? := hf 2 _ rfl
    have g3 : DataW.trod enc Try.prog w base spare held n' 4 (List.take (Try.prog.cellsOf 4) [k3]) = ys[3]? := hf 3 _ rfl
    have hyl4 : ys.length = 4 := hyl
    rw [one3, List.getElem?_eq_getElem (by omega)] at g0 g1 g2
    rw [one4, List.getElem?_eq_getElem (by omega)] at g3
    obtain ⟨kind, e0, -, -⟩ := DataW.trod_int Try.underlying3 g0
    obtain ⟨K, e1, -, -⟩ := DataW.trod_int Try.underlying3 g1
    obtain ⟨V, e2, -, -⟩ := DataW.trod_int Try.underlying3 g2
    obtain ⟨D, e3, -⟩ := DataW.trod_bool Try.underlying4 g3
    simp at e0 e1 e2 e3
    subst e0 e1 e2 e3
    have t0 := hat 0 (by omega)
    have t1 := hat 1 (by omega)
    have t2 := hat 2 (by omega)
    have t3 := hat 3 (by omega)
    obtain ⟨b, off, spot⟩ := a'
    have hspot : spot = none := by
      obtain ⟨ds, hd, -⟩ := hi 0 (by rw [hmm]; split <;> omega)
      obtain ⟨-, hdl, hdt⟩ := World.cells?_some hd
      obtain ⟨d0, d1, d2, d3, rfl⟩ := four hdl
      simpa [Addr.add] using World.cell?_spot ((hdt 0 (by omega)).trans rfl)
    subst hspot
    rw [add_plain, add_plain] at t0 t1 t2 t3
    exact ⟨b, off, kind, K, V, D, rfl, by simpa using t0, by simpa using t1, by simpa using t2, by simpa using t3⟩
end

set_option maxRecDepth 100000 in
theorem lifted (os : Os) (started : os.Started) (H : Type) (enc : TypeId × Value → H) :
    ReturnsInHanded {} Try.checked os 5 .any (Rows.bcachePlaysSpec.pre6 enc Try.prog Try.f5 Rows.bcachePlaysRow.domain false) (Rows.bcachePlaysSpec.post enc Try.prog Try.f5 false true false false) := by
  refine returnsInHanded_of_change (C := Try.checked) own started (by kernel_rfl) Try.func5
    (ChangeSpec.witness6 (enc := enc) (C := Try.checked) false ⟨#[], #[.int .i64 0, .slice none 0 0], []⟩ 8 (by kernel_rfl) (by kernel_rfl) (by kernel_rfl) (by kernel_rfl)) ?_
  intro W base args ds gs before hval0 hW hcnd _
  have hval : ∀ (j : Nat) t v, Try.f5.params[j]? = some t → args[j]? = some v → Value.okWide Try.prog W .any base t v := hval0
  have hW' := hW
  obtain ⟨p, q, hA0, hV, rfl, hfz, hnd⟩ := hW
  have hA : DataW.TrodAll enc Try.prog W 0 (fun _ => true) true Try.f5.params.toList args.toList ds p := hA0
  rw [Try.params5] at hA hval
  obtain ⟨v0, vs0, d0, ds0, p0, q0, hargs, rfl, rfl, h0, r0⟩ := trodAll_cons hA
  obtain ⟨v1, vs1, d1, ds1, p1, q1, rfl, rfl, rfl, h1, r1⟩ := trodAll_cons r0
  obtain ⟨rfl, rfl, rfl⟩ := trodAll_nil r1
  obtain rfl : args = #[v0, v1] := by cases args; simp_all
  obtain ⟨a0, rfl, e0, f0, w0⟩ := open_int Try.underlying3 (hval 0 3 v0 rfl rfl) h0
  obtain ⟨sa, sl, sc, rfl⟩ := okWide_slice Try.underlying44 (hval 1 44 v1 rfl rfl)
  obtain ⟨fuel, hf⟩ := h1
  obtain ⟨hc, hl⟩ := open_calls hf
  refine (walk a0 sa sl sc W hc hl).mono fun e W' ⟨he, hu⟩ => ?_
  subst he
  exact ⟨_, rfl, post_true (B := 4) rfl laidOut (by rw [Try.params5]; decide +kernel) rfl Try.underlying4 hW' hu rfl⟩

theorem over : Rows.bcachePlaysRow.holds Try.pinned (OpenSpec.ofChange Rows.bcachePlaysSpec) :=
  OpenClaim.holds_of_wide 5 Try.f5 rfl rfl rfl rfl rfl rfl rfl ⟨rfl, rfl, rfl, rfl, rfl⟩ rfl rfl rfl rfl rfl (by kernel_rfl) Try.func5 (by kernel_rfl)
    (of_decide_eq_true (by kernel_rfl)) (by unfold Func.isWrapper; first | (rw [if_pos (by decide +kernel)]; kernel_rfl) | (rw [if_neg (by decide +kernel)]; exact ⟨rfl, rfl⟩))
    (fun os started H enc _ => lifted os started H enc)

theorem proved : Rows.BcachePlaysSaid := over
#print axioms proved
end bcachePlays
end Go.Proofs.Ytgndkmdmpiiedaa
