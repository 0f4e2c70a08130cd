/- Plain laws: sums and products the other way round; Not turns an answer; one handler alone. -/
import Derived.Test.YtnokekoojmljaaaDoorGXs
namespace Go.Proofs.YtnokekoojmljaaaDoor
open Go.RowKit

abbrev nilS : Value := .slice none 0 0

/-- An expression that has a value. -/
def valX (f : Fd) : Xp := if f.tx = true then ⟨2, 0, f.s, nilS, .nil⟩ else ⟨1, f.n, eB, nilS, .nil⟩
def pairX (kd : Int) (v : Value) (x y : Xp) : Xp := ⟨kd, 0, eB, v, .cons x.kd x.n x.s x.av x.kids (.cons y.kd y.n y.s y.av y.kids .nil)⟩
def vv (f : Fd) : Fd := if f.tx = true then txF f.s else nuF f.n

theorem pair_value (P : Pl) (kd : Int) (hk : kd = 6 ∨ kd = 7 ∨ kd = 8) (v : Value) (a b : Fd) : valueX P (pairX kd v (valX a) (valX b)) = twoV kd (vv a) (vv b) := by
  cases ha : a.tx <;> cases hb : b.tx <;> rcases hk with rfl | rfl | rfl <;>
    simp [valueX, pairX, valX, vv, ha, hb, cntX, Ex.cnt, formX, Ex.form, Ex.list, arityN, evalX, Ex.vals, evalV]

theorem two_comm (kd : Int) (hk : kd = 6 ∨ kd = 8) (a b : Fd) : twoV kd a b = twoV kd b a := by
  have h9 : ¬ kd = 9 := by omega
  have ho : opN kd a.n b.n = opN kd b.n a.n := by
    unfold opN
    rcases hk with rfl | rfl
    · simp [Int.add_comm]
    · simp [Int.mul_comm]
  unfold twoV
  rw [if_neg h9, if_neg h9, ho]
  cases a.tx <;> cases b.tx <;> simp

/-- A difference, and the other way round. -/
def Neg : Rs → Rs → Prop
  | .ok x, .ok y => x.n = - y.n ∧ withinB y.n = true
  | .error e, .error f => e = f
  | _, _ => False

theorem two_neg (a b : Fd) : Neg (twoV 7 a b) (twoV 7 b a) := by
  have ho : opN 7 a.n b.n = - opN 7 b.n a.n := by
    unfold opN
    simp
    omega
  have hw : ∀ n : Int, withinB (-n) = withinB n := by
    intro n
    unfold withinB
    by_cases h : -1000000000000000 ≤ n ∧ n ≤ 1000000000000000
    · rw [decide_eq_true h, decide_eq_true (by omega)]
    · rw [decide_eq_false h, decide_eq_false (by omega)]
  obtain ⟨anm, atx, an, as_⟩ := a
  obtain ⟨bnm, btx, bn, bs⟩ := b
  dsimp only at ho
  cases atx <;> cases btx
  · show Neg (if withinB (opN 7 an bn) = true then .ok (nuF (opN 7 an bn)) else .error 135) (if withinB (opN 7 bn an) = true then .ok (nuF (opN 7 bn an)) else .error 135)
    rw [ho, hw]
    cases hz : withinB (opN 7 bn an) with
    | true => exact ⟨rfl, hz⟩
    | false => exact rfl
  · exact rfl
  · exact rfl
  · exact rfl

theorem holds_not (P : Pl) (c : Cd) : holdsX P ⟨c.kd, !c.nt, c.a, c.b⟩ = match holdsX P c with | .error e => .error e | .ok x => .ok (!x) := by
  have hb : ∀ x y : Bool, (x != !y) = !(x != y) := by intro x y; cases x <;> cases y <;> rfl
  unfold holdsX
  have hh : hasC ⟨c.kd, !c.nt, c.a, c.b⟩ = hasC c := rfl
  rw [hh]
  dsimp only
  cases hasC c with
  | false => rfl
  | true =>
    simp only [if_true]
    by_cases h4 : c.kd = 4
    · rw [if_pos h4, if_pos h4, hb]
    · rw [if_neg h4, if_neg h4]
      cases valueX P c.a with
      | error e => rfl
      | ok a =>
        dsimp only
        cases valueX P c.b with
        | error e => rfl
        | ok b =>
          dsimp only
          by_cases h1 : c.kd = 1
          · rw [if_pos h1, if_pos h1, hb]
          · rw [if_neg h1, if_neg h1]
            by_cases h2 : a.tx = b.tx
            · rw [if_pos h2, if_pos h2, hb]
            · rw [if_neg h2, if_neg h2]

/-- A command is decided by its own handler. -/
theorem decide_one (hs : List Hdl) (P : Pl) (cmd : ByteArray) {h : Hdl} (hf : hs.find? (fun h => decide (h.cmd = cmd)) = some h) : decideX [h] P cmd = decideX hs P cmd := by
  have hc : decide (h.cmd = cmd) = true := by simpa using List.find?_some hf
  unfold decideX
  rw [hf, List.find?_cons, hc]
theorem decide_none (hs : List Hdl) (P : Pl) (cmd : ByteArray) (hf : hs.find? (fun h => decide (h.cmd = cmd)) = none) : decideX hs P cmd = .error 136 := by
  unfold decideX
  rw [hf]
end Go.Proofs.YtnokekoojmljaaaDoor
