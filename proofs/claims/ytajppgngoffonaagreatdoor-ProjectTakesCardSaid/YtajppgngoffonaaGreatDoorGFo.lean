/- The rules' Fold. -/
import Derived.Test.YtajppgngoffonaaGreatDoorGHd
import Derived.Test.YtajppgngoffonaaGreatDoorGLkG
namespace Go.Proofs.YtajppgngoffonaaGreatDoor
open Go.RowKit

abbrev aggV (ty : ByteArray) (ver : Int) (fv : Value) : Value := .agg #[.string ty, .int .i64 ver, fv]
abbrev boxV (ty : ByteArray) (ver : Int) (fv : Value) : Obj := .cells #[.string ty, .int .i64 ver, fv] 34

theorem find_idx {α : Type} (p : α → Bool) (l : List α) : (idxF p l = -1 ∧ l.find? p = none) ∨ ∃ (i : Nat) (hi : i < l.length), idxF p l = i ∧ l.find? p = some l[i] := by
  rcases idxF_cases p l with ⟨h1, h2⟩ | ⟨i, hi, h1, h2, h3⟩
  · exact .inl ⟨h1, List.find?_eq_none.2 fun x hx => by simp [h2 x hx]⟩
  · exact .inr ⟨i, hi, h1, List.find?_eq_some_iff_getElem.2 ⟨h2, i, hi, rfl, fun j hj => by simp [h3 j hj]⟩⟩

/-- Errors' numbers. -/
def ErrIn {α : Type} (r : Except Int α) : Prop := ∀ c, r = .error c → 132 ≤ c ∧ c ≤ 135
theorem errIn_ok {α : Type} (x : α) : ErrIn (.ok x : Except Int α) := fun c h => by cases h
theorem errIn_of {α : Type} (n : Int) (h1 : 132 ≤ n) (h2 : n ≤ 135) : ErrIn (.error n : Except Int α) := fun c h => by cases h; exact ⟨h1, h2⟩
theorem errIn_two (kd : Int) (a b : Fd) : ErrIn (twoV kd a b) := by
  unfold twoV
  repeat' split
  all_goals first | exact errIn_ok _ | exact errIn_of _ (by omega) (by omega)
theorem errIn_field (l : List Fd) (k : ByteArray) : ErrIn (fieldV l k) := by
  unfold fieldV
  split
  · exact errIn_ok _
  · exact errIn_of _ (by omega) (by omega)
theorem errIn_eval (P : Pl) : ∀ x : Xp, ErrIn (evalX P x) := by
  refine Ex.ind fun x ih => ?_
  unfold evalX
  rw [vals_list]
  have h : ∀ r ∈ x.kids.list.map (evalX P), ErrIn r := by
    intro r hr
    obtain ⟨y, hy, rfl⟩ := List.mem_map.1 hr
    exact ih y hy
  generalize x.kids.list.map (evalX P) = rs at *
  unfold evalV
  split
  · exact errIn_ok _
  split
  · exact errIn_ok _
  split
  · exact errIn_field _ _
  split
  · exact errIn_field _ _
  split
  · exact errIn_ok _
  match rs, h with
  | [], _ => exact errIn_of _ (by omega) (by omega)
  | .error e :: _, h => exact fun c hc => by cases hc; exact h _ (by simp) _ rfl
  | .ok a :: rest, h =>
    dsimp only
    split
    · split
      · exact errIn_ok _
      · exact errIn_of _ (by omega) (by omega)
    split
    · split
      · exact errIn_of _ (by omega) (by omega)
      · exact errIn_ok _
    match rest, h with
    | [], _ => exact errIn_of _ (by omega) (by omega)
    | .error e :: _, h => exact fun c hc => by cases hc; exact h _ (by simp) _ rfl
    | .ok b :: _, _ => exact errIn_two _ _ _
theorem errIn_value (P : Pl) (x : Xp) : ErrIn (valueX P x) := by
  unfold valueX
  split
  · exact errIn_of _ (by omega) (by omega)
  split
  · exact errIn_eval P x
  · exact errIn_of _ (by omega) (by omega)

/-- What an assignment of an event's comes to. -/
def putF (acc : List Fd) (nm : ByteArray) (r : Rs) : List Fd := match r with
  | .error _ => acc
  | .ok f => if (setF acc ⟨nm, f.tx, f.n, f.s⟩).length ≤ 16 then setF acc ⟨nm, f.tx, f.n, f.s⟩ else acc
theorem foldSets_cons (P : Pl) (a : Asg) (l : List Asg) (acc : List Fd) : foldSets P (a :: l) acc = foldSets P l (putF acc a.nm (valueX P a.e)) := by
  simp only [foldSets, putF]
  cases valueX P a.e <;> rfl
theorem putF_len (acc : List Fd) (nm : ByteArray) (r : Rs) : (putF acc nm r).length ≤ max acc.length 16 := by
  unfold putF
  split
  · omega
  · split
    · omega
    · omega
theorem foldSets_drop (P : Pl) (l : List Asg) (j : Nat) (hj : j < l.length) (acc : List Fd) : foldSets P (l.drop j) acc = foldSets P (l.drop (j + 1)) (putF acc l[j].nm (valueX P l[j].e)) := by
  rw [List.drop_eq_getElem_cons hj, foldSets_cons]

theorem dropF_length (l : List Fd) (k : ByteArray) : (dropF l k).length ≤ l.length := by
  unfold dropF
  exact (List.eraseP_sublist).length_le

end Go.Proofs.YtajppgngoffonaaGreatDoor
