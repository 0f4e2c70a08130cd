/- Bringing up, in plain words. -/
import Derived.Test.YtdokpfgdddfdfaaDoorDo
namespace Go.Proofs.YtdokpfgdddfdfaaDoor
open Go.RowKit

def stepU (us : List Up) (ty : ByteArray) : Nat → Int → List Fd → Int × List Fd
  | 0, v, r => (v, r)
  | f + 1, v, r => match findU us ty v with
    | none => (v, r)
    | some u => stepU us ty f (wrap64 (v + 1)) (u.ch.foldl doneF r)

def applyU (us : List Up) (ty : ByteArray) (v : Int) (r : List Fd) : Int × List Fd := stepU us ty (us.length + 1) v r

theorem setF_mem {l : List Fd} {x y : Fd} (h : y ∈ setF l x) : y = x ∨ y ∈ l := by
  unfold setF at h
  split at h
  · unfold insF at h
    rcases List.mem_append.1 h with h | h
    · exact Or.inr ((List.takeWhile_sublist _).subset h)
    · rcases List.mem_cons.1 h with rfl | h
      · exact Or.inl rfl
      · exact Or.inr ((List.dropWhile_sublist _).subset h)
  · rcases List.mem_or_eq_of_mem_set h with h | h
    · exact Or.inr h
    · exact Or.inl h

theorem dropF_mem {l : List Fd} {k : ByteArray} {y : Fd} (h : y ∈ dropF l k) : y ∈ l := List.mem_of_mem_eraseP h

theorem setF_length (l : List Fd) (x : Fd) : (setF l x).length ≤ l.length + 1 := by
  unfold setF
  split
  · obtain ⟨l1, l2, h1, h2, -⟩ := insF_split l x
    rw [h2, h1]
    simp
    omega
  · rw [List.length_set]; omega

theorem setF_length_there {l : List Fd} {x : Fd} (h : (getF l x.nm).isSome = true) : (setF l x).length = l.length := by
  unfold setF
  rcases posF_cases l x.nm with ⟨hp, -, hg⟩ | ⟨i, hi, hp, -, -, -⟩
  · rw [hg] at h; cases h
  · rw [if_neg (by omega), List.length_set]

theorem dropF_length_there {l : List Fd} {k : ByteArray} (h : (getF l k).isSome = true) : (dropF l k).length + 1 = l.length := by
  rcases posF_cases l k with ⟨-, -, hg⟩ | ⟨i, hi, hp, hk, -, -⟩
  · rw [hg] at h; cases h
  · unfold dropF
    rw [List.length_eraseP, if_pos (List.any_eq_true.2 ⟨l[i], List.getElem_mem hi, by simpa using hk⟩)]
    omega

theorem doneF_length (l : List Fd) (c : Ch) : (doneF l c).length ≤ max l.length 16 := by
  unfold doneF
  split
  · split
    · omega
    · rename_i h
      have := setF_length l c.f
      omega
  · cases hg : getF l c.nm with
    | none => simp only []; omega
    | some f =>
      have hm := getF_mem hg
      have hs : (getF l f.nm).isSome = true := by rw [hm.2, hg]; rfl
      simp only []
      split
      · have := dropF_length l f.nm; omega
      split
      · unfold renF
        split
        · omega
        · have h1 := dropF_length_there hs
          have h2 := setF_length (dropF l f.nm) { f with nm := c.to }
          omega
      split
      · unfold showF
        split
        · omega
        · rw [setF_length_there (by exact hs)]; omega
      split
      · unfold scaleF
        split
        · omega
        · split
          · rw [setF_length_there (by exact hs)]; omega
          · omega
      · omega

theorem doneF_fit {l : List Fd} {c : Ch} (h : ∀ x ∈ l, FitN x) (hc : FitN c.f) : ∀ x ∈ doneF l c, FitN x := by
  intro x hx
  unfold doneF at hx
  split at hx
  · split at hx
    · exact h x hx
    · rcases setF_mem hx with rfl | hx
      · exact hc
      · exact h x hx
  · cases hg : getF l c.nm with
    | none => rw [hg] at hx; exact h x hx
    | some f =>
      have hf := h f (getF_mem hg).1
      rw [hg] at hx
      simp only [] at hx
      split at hx
      · exact h x (dropF_mem hx)
      split at hx
      · unfold renF at hx
        split at hx
        · exact h x hx
        · rcases setF_mem hx with rfl | hx
          · exact hf
          · exact h x (dropF_mem hx)
      split at hx
      · unfold showF at hx
        split at hx
        · exact h x hx
        · rcases setF_mem hx with rfl | hx
          · exact ⟨by show (-9223372036854775808 : Int) ≤ 0; decide, by show (0 : Int) ≤ 9223372036854775807; decide⟩
          · exact h x hx
      split at hx
      · unfold scaleF at hx
        split at hx
        · exact h x hx
        · split at hx
          · rename_i n hn
            rcases setF_mem hx with rfl | hx
            · unfold scaleN at hn
              split at hn
              · rename_i hw
                cases hn
                have := (withinB_iff _).1 hw.2.2
                exact ⟨by show -9223372036854775808 ≤ f.n * c.f.n; omega, by show f.n * c.f.n ≤ 9223372036854775807; omega⟩
              · cases hn
            · exact h x hx
          · exact h x hx
      · exact h x hx

theorem foldF_length (ch : List Ch) : ∀ (l : List Fd) (N : Nat), l.length ≤ N → 16 ≤ N → (ch.foldl doneF l).length ≤ N := by
  induction ch with
  | nil => intro l N h _; exact h
  | cons c ch ih =>
    intro l N h h16
    exact ih _ N (by have := doneF_length l c; omega) h16

theorem foldF_fit (ch : List Ch) : ∀ (l : List Fd), (∀ x ∈ l, FitN x) → (∀ c ∈ ch, FitN c.f) → ∀ x ∈ ch.foldl doneF l, FitN x := by
  induction ch with
  | nil => intro l h _; exact h
  | cons c ch ih =>
    intro l h hc
    exact ih _ (doneF_fit h (hc c (by simp))) (fun c' hc' => hc c' (by simp [hc']))

/-- The version behind j rounds. -/
def verAt (v : Int) (j : Nat) : Int := wrap64 (v + j)

theorem verAt_inj {v : Int} {n : Nat} (hn : n ≤ 9223372036854775807) : ∀ i j, i < n → j < n → verAt v i = verAt v j → i = j := by
  intro i j hi hj h
  unfold verAt wrap64 at h
  omega

theorem verAt_succ (v : Int) (j : Nat) : wrap64 (verAt v j + 1) = verAt v (j + 1) := by
  unfold verAt wrap64
  omega

theorem verAt_zero {v : Int} (h : -9223372036854775808 ≤ v ∧ v ≤ 9223372036854775807) : verAt v 0 = v := by
  unfold verAt wrap64
  omega

/-- No more rounds than upcasters. -/
theorem rounds_le {us : List Up} {ty : ByteArray} {v : Int} {k : Nat} (hu : us.length ≤ 9223372036854775806) (hk : k ≤ us.length + 1) (h : ∀ j, j < k → (findU us ty (verAt v j)).isSome = true) : k ≤ us.length :=
  pigeon (fun j => verAt v j) k us (fun i j hi hj e => verAt_inj (v := v) (n := k) (by omega) i j hi hj e) (fun j hj => by
    obtain ⟨u, hu⟩ := Option.isSome_iff_exists.1 (h j hj)
    obtain ⟨h1, _, h3⟩ := findU_mem hu
    exact ⟨u, h1, h3⟩)
end Go.Proofs.YtdokpfgdddfdfaaDoor
