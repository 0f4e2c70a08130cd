/- Segment: what the laid tables are; opening frames of an argument. SegmentCuts returns true, whatever the arguments are, in whatever memory in which the listed tables read as they are laid, and leaves all that was there as it was. -/
import Derived.LaidMore
import Derived.Stop.Joined
import Derived.SevenTiedAt
import Derived.Test.YtgpefiacbipfpaaGreatDoorRows
import Derived.Test.YtgpefiacbipfpaaGreatDoorTie
import Derived.Test.YtgpefiacbipfpaaGreatDoorCards
import Derived.Test.YtgpefiacbipfpaaGreatDoorC29
import Derived.Test.YtgpefiacbipfpaaGreatDoorC36
import Derived.Test.YtgpefiacbipfpaaGreatDoorC37
namespace Go.Proofs.YtgpefiacbipfpaaGreatDoor
open Go.ChangeShapes Go.WideShapes Go.ChangeAt Go.RowKit Go.Deep
theorem laidOut : laidOutB Tryz.prog = true := by kernel_rfl
theorem own : ownKnob Tryz.prog.godebug = none := by kernel_rfl
abbrev laid3 {H : Type} : List (String × DataW H) := [("math/bits.deBruijn32tab", Rows.laid_math_bits_deBruijn32tab), ("math/bits.deBruijn64tab", Rows.laid_math_bits_deBruijn64tab), ("internal/strconv.uint64pow10", Rows.laid_internal_strconv_uint64pow10)]
theorem door_met (os : Os) (args : Array Value) : laidMetH Tryz.prog laid3 ((World.doorLaid Tryz.prog 4000 os).forCall (fun _ _ => 0) ⟨#[], args, []⟩).memory :=
 laidMetH_of_parts3 (fuel := 8) (laidMet_of_run' 8 (by kernel_rfl) (by kernel_rfl)) (by kernel_rfl) (by kernel_rfl)
theorem cellsFr : Tryz.prog.cellsOf 25 = 2 := by kernel_rfl
theorem bytesFr : Tryz.prog.bytesOf 25 = 32 := by kernel_rfl
theorem len2 {α : Type} {l : List α} (h : l.length = 2) : ∃ a b, l = [a, b] := by
 match l, h with
 | [a, b], _ => exact ⟨a, b, rfl⟩
section
variable {H : Type} {enc : TypeId × Value → H} {w : World} {base : Nat} {spare : Nat → Bool} {held : Bool}
def FrOk (w : World) (x : FrR) : Prop := x.d.length ≤ 140737488351232 ∧ (x.d ≠ [] → ∀ g, x.dv.ownBlock = some g → g < w.heap.size) ∧ Rd w x.dv x.d
theorem open_fr {n : Nat} {cs : List Value} {y : DataW H × List MemPlace} (h : DataW.trod enc Tryz.prog w base spare held n 25 cs = some y) (hw : Wt 25 y.1) :
  ∃ x : FrR, cs = [.int .u8 x.k.toNat, x.dv] ∧ FrOk w x := by
 obtain ⟨ys, n', hn', rfl, hlen, hyl, hf⟩ := DataW.trod_struct Tryz.underlying25 h
 rw [cellsFr] at hlen
 obtain ⟨k0, k1, rfl⟩ := len2 hlen
 obtain ⟨y0, y1, rfl⟩ := len2 (show ys.length = 2 from hyl)
 have g0 : DataW.trod enc Tryz.prog w base spare held n' 5 (List.take (Tryz.prog.cellsOf 5) [k0, k1]) = some y0 := hf 0 _ rfl
 have g1 : DataW.trod enc Tryz.prog w base spare held n' 23 (List.take (Tryz.prog.cellsOf 23) [k1]) = some y1 := hf 1 _ rfl
 have w1 : Wt 23 y1.1 := wt_field Tryz.underlying25 hw (j := 1) rfl rfl
 rw [cells8] at g0
 rw [cellsBs] at g1
 obtain ⟨s, e0, -, z⟩ := DataW.trod_int Tryz.underlying5 g0
 have hz := wf8 z
 obtain ⟨dv, d, e1, hd, hd2, hd3⟩ := open_bs g1 w1
 simp at e0 e1
 subst e0 e1
 have e : ((UInt8.ofNat s.toNat).toNat : Int) = s := by
  rw [UInt8.toNat_ofNat']; omega
 exact ⟨⟨UInt8.ofNat s.toNat, k1, d⟩, by rw [e], hd2, hd3, hd⟩
theorem open_frs {n : Nat} {cs : List Value} {y : DataW H × List MemPlace} (h : DataW.trod enc Tryz.prog w base spare held n 22 cs = some y) (hw : Wt 22 y.1) :
  ∃ v l, cs = [v] ∧ RdFs w v l ∧ (∀ x ∈ l, FrOk w x) ∧ l.length ≤ 140737488355328 := by
 obtain ⟨v, l, e, z0, z1, z2, z3, z4⟩ := open_sl 2 (by omega) (CellsAt cFr) (FrOk w) Tryz.underlying22 cellsFr (fun n _ cs y hy hwy => by
  obtain ⟨x, e, hx⟩ := open_fr hy hwy
  refine ⟨x, fun b o hb j u hj => ?_, hx⟩
  subst e
  match j with
  | 0 => rw [← hj]; exact hb 0 (by simp)
  | 1 => rw [← hj]; exact hb 1 (by simp)
  | j + 2 => cases hj) h hw
 exact ⟨v, l, e, ⟨⟨z0, z3⟩, fun x hx => (z1 x hx).2.2⟩, z1, by rw [bytesFr] at z2; omega⟩
end
end Go.Proofs.YtgpefiacbipfpaaGreatDoor

namespace Go.Proofs.YtgpefiacbipfpaaGreatDoor
open Go.ChangeShapes Go.WideShapes Go.ChangeAt Go.RowKit
namespace segmentCuts
set_option maxRecDepth 100000 in
theorem lifted (os : Os) (started : os.Started) (H : Type) (enc : TypeId × Value → H) :
  ReturnsInHanded {} Tryz.checked os 3 .any (fun w args => (Rows.segmentCutsSpec.pre enc Tryz.prog Tryz.f3 [] false w args ∧ laidMetH Tryz.prog laid3 w) ∧ sizedMet enc Tryz.prog Tryz.f3 (OpenSpec.ofChange Rows.segmentCutsSpec) false w args)
   (Rows.segmentCutsSpec.post enc Tryz.prog Tryz.f3 false true false false) := by
 refine returnsInHanded_of_change_and (C := Tryz.checked) (X := fun w _ => laidMetH Tryz.prog laid3 w) (fun _ _ _ hh h => h.of_heap hh) own started (by kernel_rfl) Tryz.func3
  (ChangeSpec.witness_shaped (enc := enc) (C := Tryz.checked) (os := os) (X := fun w _ => laidMetH Tryz.prog laid3 w) false (World.doorLaid Tryz.prog 4000 os) #[.slice none 0 0, .int .i64 0, .agg #[.int .u8 0, .slice none 0 0]] 8 rfl (World.shaped_of_RefB (by kernel_rfl) (by kernel_rfl)) (by kernel_rfl) (by kernel_rfl) (by kernel_rfl) (door_met os _)) ?_
 intro W base args ds gs before hval0 hW _ hsz0 hL _
 have hval : ∀ (j : Nat) t v, Tryz.f3.params[j]? = some t → args[j]? = some v → Value.okWide Tryz.prog W .any base t v := hval0
 have hW' := hW
 obtain ⟨p, q, hA0, hV, rfl, hfz, hnd⟩ := hW
 have hA : DataW.TrodAll enc Tryz.prog W 0 (fun _ => true) true Tryz.f3.params.toList args.toList ds p := hA0
 obtain ⟨rfl, rfl⟩ := trodVars_none hV
 have hsz : (DataW.weightsEach Tryz.prog (Tryz.f3.params.toList ++ []) (ds ++ [])).all (· ≤ reachBytes) = true := hsz0
 rw [Tryz.params3] at hA hval hsz
 obtain ⟨v0, vs0, d0, ds0, p0, q0, hargs, rfl, rfl, h0, r0⟩ := trodAll_cons hA
 obtain ⟨v1, vs1, d1, ds1, p1, q1, rfl, rfl, rfl, h1, r1⟩ := trodAll_cons r0
 obtain ⟨v2, vs2, d2, ds2, p2, q2, rfl, rfl, rfl, h2, r2⟩ := trodAll_cons r1
 obtain ⟨rfl, rfl, rfl⟩ := trodAll_nil r2
 obtain rfl : args = #[v0, v1, v2] := by cases args; simp_all
 obtain ⟨fu0, hf0⟩ := h0
 have w0 : Wt 22 d0 := wt_arg hsz (j := 0) rfl rfl
 obtain ⟨fu1, hf1⟩ := h1
 have w1 : Wt 3 d1 := wt_arg hsz (j := 1) rfl rfl
 obtain ⟨fu2, hf2⟩ := h2
 have w2 : Wt 25 d2 := wt_arg hsz (j := 2) rfl rfl
 obtain ⟨sa0, sl0, sc0, rfl⟩ := okWide_slice Tryz.underlying22 (hval 0 22 v0 rfl rfl)
 obtain ⟨x0, Z, e0, hZ, hoZ, hlZ⟩ := open_frs (cs := [.slice sa0 sl0 sc0]) hf0 w0
 simp only [List.cons.injEq, and_true] at e0
 subst e0
 have hn0 : sl0 = Z.length := by
  obtain ⟨a, c, e, -⟩ := hZ.row.slice
  simp only [Value.slice.injEq] at e
  exact e.2.1
 obtain ⟨cu, rfl, z1⟩ := arg_int (hval 1 3 v1 rfl rfl) ⟨fu1, hf1⟩
 obtain ⟨ca2, rfl, -⟩ := okWide_struct Tryz.underlying25 (hval 2 25 v2 rfl rfl)
 obtain ⟨⟨xk, xv, xd⟩, hca2, hx⟩ := open_fr hf2 w2
 dsimp only at hca2
 have hca2' : ca2 = #[.int .u8 xk.toNat, xv] := by cases ca2; simpa [Value.cells] using hca2
 subst hca2'
 obtain ⟨x1, x2, hx3⟩ := hx
 dsimp only at x1 hx3
 obtain ⟨xa, xc, rfl, -⟩ := hx3.slice
 refine (cuts_walk W hZ hn0 (fun x hx => (hoZ x hx).1) (by omega) cu z1 xk hx3 x1).mono fun e W' ⟨he, hu⟩ => ?_
 subst he
 exact ⟨_, rfl, post_true (B := 4) rfl laidOut (by rw [Tryz.params3]; decide +kernel) rfl Tryz.underlying4 hW' hu rfl⟩
theorem row : Rows.segmentCutsRow.holds Tryz.pinned (OpenSpec.ofChange Rows.segmentCutsSpec) :=
 OpenClaim.holds_of_wide 3 Tryz.f3 rfl rfl rfl rfl rfl rfl rfl ⟨rfl, rfl, rfl, rfl, rfl⟩ rfl rfl rfl rfl rfl (by kernel_rfl) Tryz.func3 (by kernel_rfl)
  (of_decide_eq_true (by kernel_rfl)) (by unfold Func.isWrapper; first | (rw [if_pos (by decide +kernel)]; kernel_rfl) | (rw [if_neg (by decide +kernel)]; exact ⟨rfl, rfl⟩))
  (fun os started H enc _ => lifted os started H enc)
theorem proved : Rows.SegmentCutsCardSaid :=
 Claim7.holds_tied_plain_at .later [] [.data, .data, .data] true (true, "2da7ad387085d697f5f199b83c98b63b7c4ce4fbac82fa85d0e8f525b94c14d9") false
  row (fun _ h => by cases h) (by kernel_rfl) (fun _ h => by cases h) segmentCuts_row_tie rfl ⟨rfl, rfl⟩ (by kernel_rfl) rfl
  (fun f fn hf hfn => by
   obtain rfl : f = 3 := Option.some.inj ((show Tryz.prog.funcNamed "cartulary/cartularylaw09.SegmentCuts" = some 3 by kernel_rfl).symm.trans hf) |>.symm
   obtain rfl : fn = Tryz.f3 := (Option.some.inj (Tryz.func3.symm.trans hfn)).symm
   exact ⟨by kernel_rfl, fun j t ht => by
    rw [Tryz.params3] at ht
    have hm : t ∈ [22, 3, 25] := by simpa using Array.mem_of_getElem? ht
    have hall : ([22, 3, 25].all fun u => !Tryz.prog.wantsStandIn u) = true := by kernel_rfl
    exact (show Tryz.prog.wantsStandIn t = false by simpa using List.all_eq_true.1 hall t hm)⟩)
  (by kernel_rfl)
#print axioms proved
end segmentCuts
end Go.Proofs.YtgpefiacbipfpaaGreatDoor
