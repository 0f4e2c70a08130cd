/-
  No cell of these rows narrows 'for every input' (looked for: loops, veiled, ifaces, maps, wideKeys, modest, calm, conditions, laid).
  DERIVED. THE GIVEN ROWS OF THIS SEAT. 9 by the template 'for every input the law returns true; each argument reads behind the call as it read before'; 0 by the template 'total and deterministic' (their statements: YteepgehjkcahiaaGreatTotals.lean).
  GIVEN WITH THE SEED: the statements are not yours to turn. If you find one false, say at which input.
  Laid BY PROGRAM, IN A SANDBOX (cutbox-rows.mjs): the forced cells as the released guide's own fill.sh prints them over the translation d55ec558ef566ff5… (all of the seat's roots in one cut). By AI agents, Wed Nov 11 2026. No macro, syntax, notation, axiom, sorry.
-/
import Derived.Test.YteepgehjkcahiaaGreatChecked
import GoSem.Claim
import GoSem.ClaimJoined
import GoSem.ClaimMapViews
import Derived.JoinedTies
import Derived.KernelRfl
namespace Go.Proofs.YteepgehjkcahiaaGreat
/- THE CELL 'sum', in the pinned program and in every row, IS THE sha256 OF THE DUMP (.gsa) THAT YteepgehjkcahiaaGreatProg.lean LOADS. Nothing in Lean hashes anything: it is a label: what it is worth is what the hold of that sum in a sandbox is worth. -/
noncomputable def Tryz.pinned : Pinned := { name := "yteepgehjkcahiaagreat", sum := "d55ec558ef566ff5f0796de6c6468058cd13cb854112e7d5ada2118600f0d9bb", checked := Tryz.checked }
namespace Rows
def none {H : Type} : Left H := { results := [], args := [] }

/-- 'cartularylaw08.FsdirRoom': WHATEVER THE INPUT: true; the input reads as it did. -/
def fsdirRoomSpec : ChangeSpec := { name := "fsdirRoom", fn := fun _ => fun
  | [d] => { results := [.lit (.bool true)], args := [d] }
  | _ => none }
def fsdirRoomRow : OpenClaim := { program := "yteepgehjkcahiaagreat", sum := "d55ec558ef566ff5f0796de6c6468058cd13cb854112e7d5ada2118600f0d9bb", func := "cartulary/cartularylaw08.FsdirRoom", spec := "fsdirRoom", unfollowed := true, recurses := true, apart := false }
def FsdirRoomSaid : Prop := fsdirRoomRow.holds Tryz.pinned (OpenSpec.ofChange fsdirRoomSpec)

/-- ITS FALSE NEIGHBOUR: 'it returns false'. Refute it at one input. -/
def fsdirRoomWrong : ChangeSpec := { name := "fsdirRoom", fn := fun _ => fun
  | [d] => { results := [.lit (.bool false)], args := [d] }
  | _ => none }
def FsdirRoomWrongFalsely : Prop := fsdirRoomRow.holds Tryz.pinned (OpenSpec.ofChange fsdirRoomWrong)

/-- 'cartularylaw08.FsdirApart': WHATEVER THE INPUT: true; the input reads as it did. -/
def fsdirApartSpec : ChangeSpec := { name := "fsdirApart", fn := fun _ => fun
  | [d1, d2, d3] => { results := [.lit (.bool true)], args := [d1, d2, d3] }
  | _ => none }
def fsdirApartRow : OpenClaim := { program := "yteepgehjkcahiaagreat", sum := "d55ec558ef566ff5f0796de6c6468058cd13cb854112e7d5ada2118600f0d9bb", func := "cartulary/cartularylaw08.FsdirApart", spec := "fsdirApart", unfollowed := true, recurses := true, apart := false }
def FsdirApartSaid : Prop := fsdirApartRow.holds Tryz.pinned (OpenSpec.ofChange fsdirApartSpec)

/-- ITS FALSE NEIGHBOUR: 'it returns false'. Refute it at one input. -/
def fsdirApartWrong : ChangeSpec := { name := "fsdirApart", fn := fun _ => fun
  | [d1, d2, d3] => { results := [.lit (.bool false)], args := [d1, d2, d3] }
  | _ => none }
def FsdirApartWrongFalsely : Prop := fsdirApartRow.holds Tryz.pinned (OpenSpec.ofChange fsdirApartWrong)

/-- 'cartularylaw08.FsdirBack': WHATEVER THE INPUT: true; the input reads as it did. -/
def fsdirBackSpec : ChangeSpec := { name := "fsdirBack", fn := fun _ => fun
  | [d1, d2, d3, d4] => { results := [.lit (.bool true)], args := [d1, d2, d3, d4] }
  | _ => none }
def fsdirBackRow : OpenClaim := { program := "yteepgehjkcahiaagreat", sum := "d55ec558ef566ff5f0796de6c6468058cd13cb854112e7d5ada2118600f0d9bb", func := "cartulary/cartularylaw08.FsdirBack", spec := "fsdirBack", unfollowed := true, recurses := true, apart := false }
def FsdirBackSaid : Prop := fsdirBackRow.holds Tryz.pinned (OpenSpec.ofChange fsdirBackSpec)

/-- ITS FALSE NEIGHBOUR: 'it returns false'. Refute it at one input. -/
def fsdirBackWrong : ChangeSpec := { name := "fsdirBack", fn := fun _ => fun
  | [d1, d2, d3, d4] => { results := [.lit (.bool false)], args := [d1, d2, d3, d4] }
  | _ => none }
def FsdirBackWrongFalsely : Prop := fsdirBackRow.holds Tryz.pinned (OpenSpec.ofChange fsdirBackWrong)

/-- 'cartularylaw08.FsdirAgain': WHATEVER THE INPUT: true; the input reads as it did. -/
def fsdirAgainSpec : ChangeSpec := { name := "fsdirAgain", fn := fun _ => fun
  | [d1, d2, d3] => { results := [.lit (.bool true)], args := [d1, d2, d3] }
  | _ => none }
def fsdirAgainRow : OpenClaim := { program := "yteepgehjkcahiaagreat", sum := "d55ec558ef566ff5f0796de6c6468058cd13cb854112e7d5ada2118600f0d9bb", func := "cartulary/cartularylaw08.FsdirAgain", spec := "fsdirAgain", unfollowed := true, recurses := true, apart := false }
def FsdirAgainSaid : Prop := fsdirAgainRow.holds Tryz.pinned (OpenSpec.ofChange fsdirAgainSpec)

/-- ITS FALSE NEIGHBOUR: 'it returns false'. Refute it at one input. -/
def fsdirAgainWrong : ChangeSpec := { name := "fsdirAgain", fn := fun _ => fun
  | [d1, d2, d3] => { results := [.lit (.bool false)], args := [d1, d2, d3] }
  | _ => none }
def FsdirAgainWrongFalsely : Prop := fsdirAgainRow.holds Tryz.pinned (OpenSpec.ofChange fsdirAgainWrong)

/-- 'cartularylaw08.FsdirAtoms': WHATEVER THE INPUT: true; the input reads as it did. -/
def fsdirAtomsSpec : ChangeSpec := { name := "fsdirAtoms", fn := fun _ => fun
  | [d1, d2, d3, d4] => { results := [.lit (.bool true)], args := [d1, d2, d3, d4] }
  | _ => none }
def fsdirAtomsRow : OpenClaim := { program := "yteepgehjkcahiaagreat", sum := "d55ec558ef566ff5f0796de6c6468058cd13cb854112e7d5ada2118600f0d9bb", func := "cartulary/cartularylaw08.FsdirAtoms", spec := "fsdirAtoms", unfollowed := true, recurses := true, apart := false }
def FsdirAtomsSaid : Prop := fsdirAtomsRow.holds Tryz.pinned (OpenSpec.ofChange fsdirAtomsSpec)

/-- ITS FALSE NEIGHBOUR: 'it returns false'. Refute it at one input. -/
def fsdirAtomsWrong : ChangeSpec := { name := "fsdirAtoms", fn := fun _ => fun
  | [d1, d2, d3, d4] => { results := [.lit (.bool false)], args := [d1, d2, d3, d4] }
  | _ => none }
def FsdirAtomsWrongFalsely : Prop := fsdirAtomsRow.holds Tryz.pinned (OpenSpec.ofChange fsdirAtomsWrong)

/-- 'cartularylaw08.FsdirSwaps': WHATEVER THE INPUT: true; the input reads as it did. -/
def fsdirSwapsSpec : ChangeSpec := { name := "fsdirSwaps", fn := fun _ => fun
  | [d1, d2, d3, d4] => { results := [.lit (.bool true)], args := [d1, d2, d3, d4] }
  | _ => none }
def fsdirSwapsRow : OpenClaim := { program := "yteepgehjkcahiaagreat", sum := "d55ec558ef566ff5f0796de6c6468058cd13cb854112e7d5ada2118600f0d9bb", func := "cartulary/cartularylaw08.FsdirSwaps", spec := "fsdirSwaps", unfollowed := true, recurses := true, apart := false }
def FsdirSwapsSaid : Prop := fsdirSwapsRow.holds Tryz.pinned (OpenSpec.ofChange fsdirSwapsSpec)

/-- ITS FALSE NEIGHBOUR: 'it returns false'. Refute it at one input. -/
def fsdirSwapsWrong : ChangeSpec := { name := "fsdirSwaps", fn := fun _ => fun
  | [d1, d2, d3, d4] => { results := [.lit (.bool false)], args := [d1, d2, d3, d4] }
  | _ => none }
def FsdirSwapsWrongFalsely : Prop := fsdirSwapsRow.holds Tryz.pinned (OpenSpec.ofChange fsdirSwapsWrong)

/-- 'cartularylaw08.FsdirNone': WHATEVER THE INPUT: true; the input reads as it did. -/
def fsdirNoneSpec : ChangeSpec := { name := "fsdirNone", fn := fun _ => fun
  | [d1, d2, d3] => { results := [.lit (.bool true)], args := [d1, d2, d3] }
  | _ => none }
def fsdirNoneRow : OpenClaim := { program := "yteepgehjkcahiaagreat", sum := "d55ec558ef566ff5f0796de6c6468058cd13cb854112e7d5ada2118600f0d9bb", func := "cartulary/cartularylaw08.FsdirNone", spec := "fsdirNone", unfollowed := true, recurses := true, apart := false }
def FsdirNoneSaid : Prop := fsdirNoneRow.holds Tryz.pinned (OpenSpec.ofChange fsdirNoneSpec)

/-- ITS FALSE NEIGHBOUR: 'it returns false'. Refute it at one input. -/
def fsdirNoneWrong : ChangeSpec := { name := "fsdirNone", fn := fun _ => fun
  | [d1, d2, d3] => { results := [.lit (.bool false)], args := [d1, d2, d3] }
  | _ => none }
def FsdirNoneWrongFalsely : Prop := fsdirNoneRow.holds Tryz.pinned (OpenSpec.ofChange fsdirNoneWrong)

/-- 'cartularylaw08.FsdirUndo': WHATEVER THE INPUT: true; the input reads as it did. -/
def fsdirUndoSpec : ChangeSpec := { name := "fsdirUndo", fn := fun _ => fun
  | [d1, d2] => { results := [.lit (.bool true)], args := [d1, d2] }
  | _ => none }
def fsdirUndoRow : OpenClaim := { program := "yteepgehjkcahiaagreat", sum := "d55ec558ef566ff5f0796de6c6468058cd13cb854112e7d5ada2118600f0d9bb", func := "cartulary/cartularylaw08.FsdirUndo", spec := "fsdirUndo", unfollowed := true, recurses := true, apart := false }
def FsdirUndoSaid : Prop := fsdirUndoRow.holds Tryz.pinned (OpenSpec.ofChange fsdirUndoSpec)

/-- ITS FALSE NEIGHBOUR: 'it returns false'. Refute it at one input. -/
def fsdirUndoWrong : ChangeSpec := { name := "fsdirUndo", fn := fun _ => fun
  | [d1, d2] => { results := [.lit (.bool false)], args := [d1, d2] }
  | _ => none }
def FsdirUndoWrongFalsely : Prop := fsdirUndoRow.holds Tryz.pinned (OpenSpec.ofChange fsdirUndoWrong)

/-- 'cartularylaw08.FsdirPlays': WHATEVER THE INPUT: true; the input reads as it did. -/
def fsdirPlaysSpec : ChangeSpec := { name := "fsdirPlays", fn := fun _ => fun
  | [d1, d2] => { results := [.lit (.bool true)], args := [d1, d2] }
  | _ => none }
def fsdirPlaysRow : OpenClaim := { program := "yteepgehjkcahiaagreat", sum := "d55ec558ef566ff5f0796de6c6468058cd13cb854112e7d5ada2118600f0d9bb", func := "cartulary/cartularylaw08.FsdirPlays", spec := "fsdirPlays", unfollowed := true, recurses := true, apart := false }
def FsdirPlaysSaid : Prop := fsdirPlaysRow.holds Tryz.pinned (OpenSpec.ofChange fsdirPlaysSpec)

/-- ITS FALSE NEIGHBOUR: 'it returns false'. Refute it at one input. -/
def fsdirPlaysWrong : ChangeSpec := { name := "fsdirPlays", fn := fun _ => fun
  | [d1, d2] => { results := [.lit (.bool false)], args := [d1, d2] }
  | _ => none }
def FsdirPlaysWrongFalsely : Prop := fsdirPlaysRow.holds Tryz.pinned (OpenSpec.ofChange fsdirPlaysWrong)

/- THE SECOND FORM. 'bulk': how many values and letters a reading holds, each counted each time it is reached (what is shared counts as often as it is met; a slice's spare places count too). A statement '..UptoSaid' is the law's where the arguments, and the package variables that the reading takes, are together of bulk at most 1048576: NARROWER than '..Said'. Prove '..Said' where nothing that the law and all that it calls make is longer than what came in: it says more and counts as full. Else prove '..UptoSaid'. A law counts once. -/
mutual
def uptoBulk {H : Type} : DataW H → Nat
  | .lit (.string bytes) => bytes.length + 1
  | .lit _ => 1
  | .nil => 1
  | .ptr d => uptoBulk d + 1
  | .slice elems spare => uptoBulkAll elems + uptoBulkAll spare + 1
  | .agg parts => uptoBulkAll parts + 1
  | .iface _ d => uptoBulk d + 1
  | .map entries => uptoBulkEntries entries + 1
  | .held _ => 1
def uptoBulkAll {H : Type} : List (DataW H) → Nat
  | [] => 0
  | d :: r => uptoBulk d + uptoBulkAll r
def uptoBulkEntries {H : Type} : List (Lit × DataW H) → Nat
  | [] => 0
  | x :: r => uptoBulkEntry x + uptoBulkEntries r
def uptoBulkEntry {H : Type} : Lit × DataW H → Nat
  | (.string bytes, d) => bytes.length + uptoBulk d + 1
  | (_, d) => uptoBulk d + 1
 end
def uptoSmall : (H : Type) → List (DataW H) → Bool := fun _ ds => decide (uptoBulkAll ds ≤ 1048576)
def OpenSpec.upto (s : _root_.Go.ChangeSpec) : _root_.Go.OpenSpec := { _root_.Go.OpenSpec.ofChange s with cond := some uptoSmall }

/-- 'cartularylaw08.FsdirRoom', WHERE WHAT IT READS IS OF BULK AT MOST 1048576: true; the input reads as it did. -/
def fsdirRoomUptoRow : OpenClaim := { program := "yteepgehjkcahiaagreat", sum := "d55ec558ef566ff5f0796de6c6468058cd13cb854112e7d5ada2118600f0d9bb", func := "cartulary/cartularylaw08.FsdirRoom", spec := "fsdirRoom", unfollowed := true, recurses := true, apart := false, narrowed := true }
def FsdirRoomUptoSaid : Prop := fsdirRoomUptoRow.holds Tryz.pinned (OpenSpec.upto fsdirRoomSpec)

/-- 'cartularylaw08.FsdirApart', WHERE WHAT IT READS IS OF BULK AT MOST 1048576: true; the input reads as it did. -/
def fsdirApartUptoRow : OpenClaim := { program := "yteepgehjkcahiaagreat", sum := "d55ec558ef566ff5f0796de6c6468058cd13cb854112e7d5ada2118600f0d9bb", func := "cartulary/cartularylaw08.FsdirApart", spec := "fsdirApart", unfollowed := true, recurses := true, apart := false, narrowed := true }
def FsdirApartUptoSaid : Prop := fsdirApartUptoRow.holds Tryz.pinned (OpenSpec.upto fsdirApartSpec)

/-- 'cartularylaw08.FsdirBack', WHERE WHAT IT READS IS OF BULK AT MOST 1048576: true; the input reads as it did. -/
def fsdirBackUptoRow : OpenClaim := { program := "yteepgehjkcahiaagreat", sum := "d55ec558ef566ff5f0796de6c6468058cd13cb854112e7d5ada2118600f0d9bb", func := "cartulary/cartularylaw08.FsdirBack", spec := "fsdirBack", unfollowed := true, recurses := true, apart := false, narrowed := true }
def FsdirBackUptoSaid : Prop := fsdirBackUptoRow.holds Tryz.pinned (OpenSpec.upto fsdirBackSpec)

/-- 'cartularylaw08.FsdirAgain', WHERE WHAT IT READS IS OF BULK AT MOST 1048576: true; the input reads as it did. -/
def fsdirAgainUptoRow : OpenClaim := { program := "yteepgehjkcahiaagreat", sum := "d55ec558ef566ff5f0796de6c6468058cd13cb854112e7d5ada2118600f0d9bb", func := "cartulary/cartularylaw08.FsdirAgain", spec := "fsdirAgain", unfollowed := true, recurses := true, apart := false, narrowed := true }
def FsdirAgainUptoSaid : Prop := fsdirAgainUptoRow.holds Tryz.pinned (OpenSpec.upto fsdirAgainSpec)

/-- 'cartularylaw08.FsdirAtoms', WHERE WHAT IT READS IS OF BULK AT MOST 1048576: true; the input reads as it did. -/
def fsdirAtomsUptoRow : OpenClaim := { program := "yteepgehjkcahiaagreat", sum := "d55ec558ef566ff5f0796de6c6468058cd13cb854112e7d5ada2118600f0d9bb", func := "cartulary/cartularylaw08.FsdirAtoms", spec := "fsdirAtoms", unfollowed := true, recurses := true, apart := false, narrowed := true }
def FsdirAtomsUptoSaid : Prop := fsdirAtomsUptoRow.holds Tryz.pinned (OpenSpec.upto fsdirAtomsSpec)

/-- 'cartularylaw08.FsdirSwaps', WHERE WHAT IT READS IS OF BULK AT MOST 1048576: true; the input reads as it did. -/
def fsdirSwapsUptoRow : OpenClaim := { program := "yteepgehjkcahiaagreat", sum := "d55ec558ef566ff5f0796de6c6468058cd13cb854112e7d5ada2118600f0d9bb", func := "cartulary/cartularylaw08.FsdirSwaps", spec := "fsdirSwaps", unfollowed := true, recurses := true, apart := false, narrowed := true }
def FsdirSwapsUptoSaid : Prop := fsdirSwapsUptoRow.holds Tryz.pinned (OpenSpec.upto fsdirSwapsSpec)

/-- 'cartularylaw08.FsdirNone', WHERE WHAT IT READS IS OF BULK AT MOST 1048576: true; the input reads as it did. -/
def fsdirNoneUptoRow : OpenClaim := { program := "yteepgehjkcahiaagreat", sum := "d55ec558ef566ff5f0796de6c6468058cd13cb854112e7d5ada2118600f0d9bb", func := "cartulary/cartularylaw08.FsdirNone", spec := "fsdirNone", unfollowed := true, recurses := true, apart := false, narrowed := true }
def FsdirNoneUptoSaid : Prop := fsdirNoneUptoRow.holds Tryz.pinned (OpenSpec.upto fsdirNoneSpec)

/-- 'cartularylaw08.FsdirUndo', WHERE WHAT IT READS IS OF BULK AT MOST 1048576: true; the input reads as it did. -/
def fsdirUndoUptoRow : OpenClaim := { program := "yteepgehjkcahiaagreat", sum := "d55ec558ef566ff5f0796de6c6468058cd13cb854112e7d5ada2118600f0d9bb", func := "cartulary/cartularylaw08.FsdirUndo", spec := "fsdirUndo", unfollowed := true, recurses := true, apart := false, narrowed := true }
def FsdirUndoUptoSaid : Prop := fsdirUndoUptoRow.holds Tryz.pinned (OpenSpec.upto fsdirUndoSpec)

/-- 'cartularylaw08.FsdirPlays', WHERE WHAT IT READS IS OF BULK AT MOST 1048576: true; the input reads as it did. -/
def fsdirPlaysUptoRow : OpenClaim := { program := "yteepgehjkcahiaagreat", sum := "d55ec558ef566ff5f0796de6c6468058cd13cb854112e7d5ada2118600f0d9bb", func := "cartulary/cartularylaw08.FsdirPlays", spec := "fsdirPlays", unfollowed := true, recurses := true, apart := false, narrowed := true }
def FsdirPlaysUptoSaid : Prop := fsdirPlaysUptoRow.holds Tryz.pinned (OpenSpec.upto fsdirPlaysSpec)

end Rows
end Go.Proofs.YteepgehjkcahiaaGreat
