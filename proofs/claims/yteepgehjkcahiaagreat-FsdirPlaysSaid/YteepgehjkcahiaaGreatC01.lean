/- Runs of blocks in plain words: what they are together; which are free; what is taken. No program in sight. Lists in the order of their keys, as maps. No program in sight. Files in plain words: what lies where, what is free, what a directory says as bytes. No program in sight. -/
import Derived.WalkKit
import Derived.Test.YteepgehjkcahiaaGreatC00
namespace Go.Proofs.YteepgehjkcahiaaGreat
abbrev Run := Nat × Nat
def expand (l : List Run) : List Nat := l.flatMap fun r => List.range' r.1 r.2
theorem expand_app (a b : List Run) : expand (a ++ b) = expand a ++ expand b := by simp [expand]
theorem expand_one (r : Run) : expand [r] = List.range' r.1 r.2 := by simp [expand]
theorem expand_cons (r : Run) (l : List Run) : expand (r :: l) = List.range' r.1 r.2 ++ expand l := rfl
def lenR (l : List Run) : Nat := (l.map (·.2)).sum
theorem expand_len (l : List Run) : (expand l).length = lenR l := by
 induction l with
 | nil => rfl
 | cons r l ih => rw [expand_cons, List.length_append, ih, List.length_range']; simp [lenR]
def putRun (l : List Run) (r : Run) : List Run :=
 match l.getLast? with
 | some x => if x.1 + x.2 = r.1 then l.dropLast ++ [(x.1, x.2 + r.2)] else l ++ [r]
 | none => [r]
theorem putRun_nil (r : Run) : putRun [] r = [r] := rfl
theorem putRun_snoc (l : List Run) (x r : Run) : putRun (l ++ [x]) r = if x.1 + x.2 = r.1 then l ++ [(x.1, x.2 + r.2)] else l ++ [x] ++ [r] := by
 simp [putRun]
theorem expand_putRun (l : List Run) (r : Run) : expand (putRun l r) = expand l ++ List.range' r.1 r.2 := by
 rcases List.eq_nil_or_concat l with rfl | ⟨l, x, rfl⟩
 ·simp [putRun_nil, expand]
 ·rw [List.concat_eq_append, putRun_snoc]
  split
  ·rename_i h
   rw [expand_app, expand_app, expand_one, expand_one, List.append_assoc]
   congr 1
   simp only
   rw [← List.range'_append_1 (s := x.1) (m := x.2) (n := r.2), h]
  ·rw [expand_app, expand_one]
theorem expand_foldl (rs : List Run) : ∀ l : List Run, expand (rs.foldl putRun l) = expand l ++ expand rs := by
 induction rs with
 | nil => intro l; simp [expand]
 | cons r rs ih => intro l; rw [List.foldl_cons, ih, expand_putRun, List.append_assoc, expand_cons]
def Canon : List Run → Prop
 | [] => True
 | [r] => 1 ≤ r.2
 | r :: q :: l => 1 ≤ r.2 ∧ r.1 + r.2 ≠ q.1 ∧ Canon (q :: l)
theorem canon_snoc : ∀ (l : List Run) (x : Run), Canon (l ++ [x]) ↔ Canon l ∧ 1 ≤ x.2 ∧ ∀ y, l.getLast? = some y → y.1 + y.2 ≠ x.1
 | [], x => by simp [Canon]
 | [r], x => by
  simp only [List.cons_append, List.nil_append, Canon, List.getLast?_singleton, Option.some.injEq, forall_eq']
  exact and_congr_right fun _ => and_comm
 | r :: q :: l, x => by
  have ih := canon_snoc (q :: l) x
  have e : (r :: q :: l).getLast? = (q :: l).getLast? := List.getLast?_cons_cons
  simp only [List.cons_append] at ih ⊢
  rw [e]
  simp only [Canon]
  rw [ih]
  constructor
  ·rintro ⟨a, b, c, d⟩; exact ⟨⟨a, b, c⟩, d⟩
  ·rintro ⟨⟨a, b, c⟩, d⟩; exact ⟨a, b, c, d⟩
theorem canon_putRun {l : List Run} {r : Run} (h : Canon l) (hr : 1 ≤ r.2) : Canon (putRun l r) := by
 rcases List.eq_nil_or_concat l with rfl | ⟨l, x, rfl⟩
 ·exact hr
 ·rw [List.concat_eq_append] at *
  rw [putRun_snoc]
  split
  ·rw [canon_snoc] at h ⊢
   exact ⟨h.1, by have := h.2.1; show 1 ≤ x.2 + r.2; omega, h.2.2⟩
  ·rename_i hne
   rw [canon_snoc]
   exact ⟨h, hr, fun y hy => by simp at hy; subst hy; exact hne⟩
theorem canon_foldl (rs : List Run) : ∀ l : List Run, Canon l → (∀ r ∈ rs, 1 ≤ r.2) → Canon (rs.foldl putRun l) := by
 induction rs with
 | nil => intro l h _; exact h
 | cons r rs ih => intro l h hr; exact ih _ (canon_putRun h (hr r (by simp))) fun x hx => hr x (by simp [hx])
theorem canon_pos : ∀ {l : List Run}, Canon l → ∀ r ∈ l, 1 ≤ r.2
 | [], _, r, hr => by simp at hr
 | [x], h, r, hr => by simp at hr; subst hr; exact h
 | x :: y :: l, h, r, hr => by
  rcases List.mem_cons.1 hr with rfl | hr
  ·exact h.1
  ·exact canon_pos h.2.2 r hr
theorem canon_left : ∀ (rs m : List Run), Canon (m ++ rs) → Canon m := by
 intro rs
 generalize hn : rs.length = n
 induction n generalizing rs with
 | zero => intro m h; obtain rfl := List.eq_nil_of_length_eq_zero hn; simpa using h
 | succ n ih =>
  intro m h
  rcases List.eq_nil_or_concat rs with rfl | ⟨rs, x, rfl⟩
  ·simp at hn
  ·rw [List.concat_eq_append, ← List.append_assoc, canon_snoc] at h
   exact ih rs (by simp at hn; exact hn) m h.1
theorem foldl_canon : ∀ (rs l : List Run), Canon (l ++ rs) → rs.foldl putRun l = l ++ rs := by
 intro rs
 induction rs with
 | nil => intro l _; simp
 | cons r rs ih =>
  intro l h
  have e : l ++ r :: rs = (l ++ [r]) ++ rs := by simp
  have hc : Canon (l ++ [r]) := by
   rw [e] at h
   exact canon_left rs _ h
  have hp : putRun l r = l ++ [r] := by
   rcases List.eq_nil_or_concat l with rfl | ⟨l, x, rfl⟩
   ·rfl
   ·rw [List.concat_eq_append] at *
    rw [canon_snoc] at hc
    rw [putRun_snoc, if_neg (hc.2.2 x (by simp))]
  rw [List.foldl_cons, hp, ih (l ++ [r]) (by rw [← e]; exact h), ← e]
def runLen (f : Nat → Bool) (n : Nat) (i : Nat) : Nat := if i < n then if f i then runLen f n (i + 1) + 1 else 0 else 0
 termination_by n - i
def frees (f : Nat → Bool) (n : Nat) (i : Nat) : List Run :=
 if i < n then if runLen f n i = 0 then frees f n (i + 1) else (i, runLen f n i) :: frees f n (i + runLen f n i + 1) else []
 termination_by n - i
 decreasing_by all_goals omega
theorem runLen_le (f : Nat → Bool) (n i : Nat) : i + runLen f n i ≤ n ∨ n ≤ i := by
 induction h : n - i generalizing i with
 | zero => right; omega
 | succ m ih =>
  left
  rw [runLen]
  split
  ·split
   ·rcases ih (i + 1) (by omega) with q | q
    ·omega
    ·have : runLen f n (i + 1) = 0 := by rw [runLen, if_neg (by omega)]
     omega
   ·omega
  ·omega
def freeList (f : Nat → Bool) (n i : Nat) : List Nat := (List.range' i (n - i)).filter f
theorem freeList_step (f : Nat → Bool) (n i : Nat) (h : i < n) : freeList f n i = if f i then i :: freeList f n (i + 1) else freeList f n (i + 1) := by
 unfold freeList
 rw [show n - i = (n - (i + 1)) + 1 by omega, List.range'_succ, List.filter_cons]
theorem freeList_run (f : Nat → Bool) (n i : Nat) (h : i < n) : freeList f n i = List.range' i (runLen f n i) ++ freeList f n (i + runLen f n i) := by
 induction hm : n - i generalizing i with
 | zero => omega
 | succ m ih =>
  rw [runLen, if_pos h]
  split
  ·rename_i hf
   rw [freeList_step f n i h, if_pos hf]
   by_cases h1 : i + 1 < n
   ·rw [ih (i + 1) h1 (by omega), Nat.add_comm (runLen f n (i + 1)) 1, Nat.add_comm 1 (runLen f n (i + 1)), List.range'_succ, List.cons_append]
    congr 3
    omega
   ·have e : runLen f n (i + 1) = 0 := by rw [runLen, if_neg (by omega)]
    rw [e]
    simp [List.range'_succ]
  ·simp
theorem runLen_end (f : Nat → Bool) (n i : Nat) (h : i + runLen f n i < n) : f (i + runLen f n i) = false := by
 induction hm : n - i generalizing i with
 | zero => rcases runLen_le f n i with q | q <;> omega
 | succ m ih =>
  rw [runLen, if_pos (by omega)] at h ⊢
  split
  ·rename_i hf
   rw [if_pos hf] at h
   have := ih (i + 1) (by omega) (by omega)
   rw [show i + (runLen f n (i + 1) + 1) = i + 1 + runLen f n (i + 1) by omega]
   exact this
  ·rename_i hf
   simpa using hf
theorem expand_frees (f : Nat → Bool) (n i : Nat) : expand (frees f n i) = freeList f n i := by
 induction hm : n - i using Nat.strongRecOn generalizing i with
 | _ m ih =>
  subst hm
  rw [frees]
  split
  ·rename_i h
   have hl := runLen_le f n i
   split
   ·rename_i h0
    rw [ih _ (by omega) (i + 1) rfl]
    have := freeList_step f n i h
    have hf : f i = false := by have := runLen_end f n i (by omega); rwa [h0] at this
    rw [this, hf]; rfl
   ·rw [expand_cons, ih _ (by omega) _ rfl, freeList_run f n i h]
    congr 1
    by_cases h1 : i + runLen f n i < n
    ·rw [freeList_step f n _ h1, runLen_end f n i h1]; rfl
    ·unfold freeList
     rw [show n - (i + runLen f n i) = 0 by omega, show n - (i + runLen f n i + 1) = 0 by omega]; rfl
  ·unfold freeList
   rw [show n - i = 0 by omega]; rfl
theorem frees_pos (f : Nat → Bool) (n i : Nat) : ∀ r ∈ frees f n i, 1 ≤ r.2 ∧ r.1 + r.2 ≤ n := by
 induction hm : n - i using Nat.strongRecOn generalizing i with
 | _ m ih =>
  subst hm
  intro r hr
  rw [frees] at hr
  split at hr
  ·rename_i h
   have hl := runLen_le f n i
   split at hr
   ·exact ih _ (by omega) (i + 1) rfl r hr
   ·rcases List.mem_cons.1 hr with rfl | hr
    ·exact ⟨by show 1 ≤ runLen f n i; omega, by show i + runLen f n i ≤ n; omega⟩
    ·exact ih _ (by omega) _ rfl r hr
  ·simp at hr
def takeR : List Run → Nat → List Run
 | [], _ => []
 | r :: l, n => if n = 0 then [] else (r.1, min r.2 n) :: takeR l (n - min r.2 n)
theorem expand_takeR : ∀ (l : List Run) (n : Nat), expand (takeR l n) = (expand l).take n
 | [], n => by simp [takeR, expand]
 | r :: l, n => by
  rw [takeR]
  split
  ·rename_i h; subst h; simp [expand]
  ·rw [expand_cons, expand_cons, expand_takeR l, List.take_append, List.length_range']
   congr 1
   ·apply List.ext_getElem?
    intro i
    simp only [List.getElem?_take]
    grind
   ·congr 1
    omega
theorem takeR_pos : ∀ (l : List Run) (n : Nat), (∀ r ∈ l, 1 ≤ r.2) → ∀ r ∈ takeR l n, 1 ≤ r.2
 | [], n, _, r, hr => by simp [takeR] at hr
 | x :: l, n, h, r, hr => by
  rw [takeR] at hr
  split at hr
  ·simp at hr
  ·rcases List.mem_cons.1 hr with rfl | hr
   ·have := h x (by simp); show 1 ≤ min x.2 n; omega
   ·exact takeR_pos l _ (fun y hy => h y (by simp [hy])) r hr
theorem takeR_le : ∀ (l : List Run) (n m : Nat), (∀ r ∈ l, r.1 + r.2 ≤ m) → ∀ r ∈ takeR l n, r.1 + r.2 ≤ m
 | [], n, _, _, r, hr => by simp [takeR] at hr
 | x :: l, n, m, h, r, hr => by
  rw [takeR] at hr
  split at hr
  ·simp at hr
  ·rcases List.mem_cons.1 hr with rfl | hr
   ·have := h x (by simp); show x.1 + min x.2 n ≤ m; omega
   ·exact takeR_le l _ m (fun y hy => h y (by simp [hy])) r hr
theorem lenR_takeR (l : List Run) (n : Nat) (h : n ≤ lenR l) : lenR (takeR l n) = n := by
 rw [← expand_len, expand_takeR, List.length_take, expand_len]; omega
theorem mem_expand {l : List Run} {b : Nat} : b ∈ expand l ↔ ∃ r ∈ l, r.1 ≤ b ∧ b < r.1 + r.2 := by
 simp only [expand, List.mem_flatMap, List.mem_range'_1]
theorem mem_freeList {f : Nat → Bool} {n b : Nat} : b ∈ freeList f n 0 ↔ b < n ∧ f b = true := by
 simp only [freeList, List.mem_filter, List.mem_range'_1]
 constructor
 ·rintro ⟨⟨-, h⟩, g⟩; exact ⟨by omega, g⟩
 ·rintro ⟨h, g⟩; exact ⟨⟨by omega, by omega⟩, g⟩
theorem nodup_freeList (f : Nat → Bool) (n : Nat) : (freeList f n 0).Nodup := (List.nodup_range' ..).filter _
end Go.Proofs.YteepgehjkcahiaaGreat

namespace Go.Proofs.YteepgehjkcahiaaGreat
structure Ord {κ : Type} (lt : κ → κ → Bool) : Prop where
 irrefl : ∀ a, lt a a = false
 trans : ∀ a b c, lt a b = true → lt b c = true → lt a c = true
 total : ∀ a b, a = b ∨ lt a b = true ∨ lt b a = true
section
variable {κ α β : Type} [DecidableEq κ] {lt : κ → κ → Bool}
def putA (lt : κ → κ → Bool) : List (κ × α) → κ → α → List (κ × α)
 | [], k, x => [(k, x)]
 | p :: l, k, x => if lt p.1 k then p :: putA lt l k x else if p.1 = k then (k, x) :: l else (k, x) :: p :: l
def delA (l : List (κ × α)) (k : κ) : List (κ × α) := l.filter fun p => !decide (p.1 = k)
def getA (l : List (κ × α)) (k : κ) : Option α := (l.find? fun p => decide (p.1 = k)).map (·.2)
def Srt (lt : κ → κ → Bool) (l : List (κ × α)) : Prop := l.Pairwise fun p q => lt p.1 q.1 = true
theorem getA_nil (k : κ) : getA ([] : List (κ × α)) k = none := rfl
theorem getA_cons (p : κ × α) (l : List (κ × α)) (k : κ) : getA (p :: l) k = if p.1 = k then some p.2 else getA l k := by
 unfold getA
 by_cases h : p.1 = k <;> simp [h]
end
section
variable {κ α β : Type} {lt : κ → κ → Bool}
theorem Srt.tail {p : κ × α} {l : List (κ × α)} (h : Srt lt (p :: l)) : Srt lt l := (List.pairwise_cons.1 h).2
end
section
variable {κ α β : Type} [DecidableEq κ] {lt : κ → κ → Bool}
end
section
variable {κ α β : Type} {lt : κ → κ → Bool}
theorem Srt.head {p : κ × α} {l : List (κ × α)} (h : Srt lt (p :: l)) : ∀ q ∈ l, lt p.1 q.1 = true := (List.pairwise_cons.1 h).1
end
section
variable {κ α β : Type} [DecidableEq κ] {lt : κ → κ → Bool}
theorem getA_mem {l : List (κ × α)} {k : κ} {x : α} (h : getA l k = some x) : (k, x) ∈ l := by
 induction l with
 | nil => cases h
 | cons p l ih =>
  rw [getA_cons] at h
  split at h
  ·rename_i e
   obtain ⟨a, b⟩ := p
   cases h; subst e; simp
  ·exact List.mem_cons_of_mem _ (ih h)
theorem getA_none {l : List (κ × α)} {k : κ} : getA l k = none ↔ ∀ p ∈ l, p.1 ≠ k := by
 induction l with
 | nil => simp [getA]
 | cons p l ih => rw [getA_cons]; split <;> simp_all
variable (O : Ord lt)
include O
end
section
variable {κ α β : Type} {lt : κ → κ → Bool}
variable (O : Ord lt)
include O
theorem Ord.ne {a b : κ} (h : lt a b = true) : a ≠ b := by
 rintro rfl
 rw [O.irrefl] at h; cases h
end
section
variable {κ α β : Type} [DecidableEq κ] {lt : κ → κ → Bool}
variable (O : Ord lt)
include O
end
section
variable {κ α β : Type} {lt : κ → κ → Bool}
variable (O : Ord lt)
include O
theorem Ord.asymm {a b : κ} (h : lt a b = true) : lt b a = false := by
 cases g : lt b a with
 | false => rfl
 | true => have := O.trans _ _ _ h g; rw [O.irrefl] at this; cases this
end
section
variable {κ α β : Type} [DecidableEq κ] {lt : κ → κ → Bool}
variable (O : Ord lt)
include O
theorem getA_of_mem {l : List (κ × α)} (h : Srt lt l) {p : κ × α} (hp : p ∈ l) : getA l p.1 = some p.2 := by
 induction l with
 | nil => simp at hp
 | cons q l ih =>
  rw [getA_cons]
  rcases List.mem_cons.1 hp with rfl | hp
  ·rw [if_pos rfl]
  ·rw [if_neg (O.ne (h.head p hp)), ih h.tail hp]
end
section
variable {κ α β : Type} [DecidableEq κ] {lt : κ → κ → Bool}
theorem mem_putA {l : List (κ × α)} {k : κ} {x : α} {p : κ × α} (h : p ∈ putA lt l k x) : p = (k, x) ∨ (p ∈ l) := by
 induction l with
 | nil => simpa [putA] using h
 | cons q l ih =>
  simp only [putA] at h
  split at h
  ·rcases List.mem_cons.1 h with rfl | h
   ·exact .inr (by simp)
   ·rcases ih h with h | h
    ·exact .inl h
    ·exact .inr (by simp [h])
  ·split at h
   ·rcases List.mem_cons.1 h with h | h
    ·exact .inl h
    ·exact .inr (by simp [h])
   ·rcases List.mem_cons.1 h with h | h
    ·exact .inl h
    ·exact .inr h
end
section
variable {κ α β : Type} [DecidableEq κ] {lt : κ → κ → Bool}
variable (O : Ord lt)
include O
theorem srt_putA {l : List (κ × α)} (h : Srt lt l) (k : κ) (x : α) : Srt lt (putA lt l k x) := by
 induction l with
 | nil => exact List.pairwise_singleton ..
 | cons q l ih =>
  simp only [putA]
  split
  ·rename_i hq
   refine List.pairwise_cons.2 ⟨fun p hp => ?_, ih h.tail⟩
   rcases mem_putA hp with rfl | hp
   ·exact hq
   ·exact h.head p hp
  ·rename_i hq
   split
   ·rename_i e
    subst e
    exact List.pairwise_cons.2 ⟨fun p hp => h.head p hp, h.tail⟩
   ·rename_i e
    have hk : lt k q.1 = true := by rcases O.total q.1 k with g | g | g
                                    ·exact absurd g e
                                    ·exact absurd g hq
                                    ·exact g
    refine List.pairwise_cons.2 ⟨fun p hp => ?_, h⟩
    rcases List.mem_cons.1 hp with rfl | hp
    ·exact hk
    ·exact O.trans _ _ _ hk (h.head p hp)
theorem getA_putA {l : List (κ × α)} (h : Srt lt l) (k : κ) (x : α) (j : κ) : getA (putA lt l k x) j = if k = j then some x else getA l j := by
 induction l with
 | nil => simp only [putA, getA_cons, getA_nil]
 | cons q l ih =>
  simp only [putA]
  split
  ·rename_i hq
   rw [getA_cons, ih h.tail, getA_cons]
   by_cases hj : k = j
   ·subst hj; rw [if_neg (O.ne hq), if_pos rfl, if_pos rfl]
   ·rw [if_neg hj, if_neg hj]
  ·split
   ·rename_i e
    rw [getA_cons, getA_cons]
    by_cases hj : k = j
    ·rw [if_pos hj, if_pos hj]
    ·rw [if_neg hj, if_neg hj, if_neg (by rw [e]; exact hj)]
   ·rw [getA_cons]
end
section
variable {κ α β : Type} [DecidableEq κ] {lt : κ → κ → Bool}
theorem srt_delA {l : List (κ × α)} (h : Srt lt l) (k : κ) : Srt lt (delA l k) := List.Pairwise.filter _ h
end
section
variable {κ α β : Type} [DecidableEq κ] {lt : κ → κ → Bool}
variable (O : Ord lt)
include O
end
section
variable {κ α β : Type} [DecidableEq κ] {lt : κ → κ → Bool}
theorem mem_delA {l : List (κ × α)} {k : κ} {p : κ × α} : p ∈ delA l k ↔ p ∈ l ∧ p.1 ≠ k := by simp [delA]
end
section
variable {κ α β : Type} [DecidableEq κ] {lt : κ → κ → Bool}
variable (O : Ord lt)
include O
end
section
variable {κ α β : Type} [DecidableEq κ] {lt : κ → κ → Bool}
theorem getA_delA (l : List (κ × α)) (k j : κ) : getA (delA l k) j = if k = j then none else getA l j := by
 induction l with
 | nil => simp [delA, getA]
 | cons p l ih =>
  unfold delA at ih ⊢
  rw [List.filter_cons]
  by_cases hp : p.1 = k
  ·simp only [hp, decide_true, Bool.not_true, Bool.false_eq_true, if_false]
   rw [ih, getA_cons]
   by_cases hj : k = j
   ·rw [if_pos hj, if_pos hj]
   ·rw [if_neg hj, if_neg hj, if_neg (by rw [hp]; exact hj)]
  ·simp only [hp, decide_false, Bool.not_false, if_true]
   rw [getA_cons, ih, getA_cons]
   by_cases hj : k = j
   ·rw [if_pos hj, if_pos hj, if_neg (by rw [← hj]; exact hp)]
   ·rw [if_neg hj, if_neg hj]
end
section
variable {κ α β : Type} [DecidableEq κ] {lt : κ → κ → Bool}
variable (O : Ord lt)
include O
theorem len_delA {l : List (κ × α)} (h : Srt lt l) {k : κ} {x : α} (hg : getA l k = some x) : (delA l k).length + 1 = l.length := by
 induction l with
 | nil => cases hg
 | cons p l ih =>
  unfold delA at ih ⊢
  rw [List.filter_cons]
  by_cases hp : p.1 = k
  ·simp only [hp, decide_true, Bool.not_true, Bool.false_eq_true, if_false, List.length_cons]
   congr 2
   rw [List.filter_eq_self]
   intro q hq
   have := O.ne (h.head q hq)
   rw [hp] at this
   simp [Ne.symm this]
  ·rw [getA_cons, if_neg hp] at hg
   simp only [hp, decide_false, Bool.not_false, if_true, List.length_cons]
   rw [ih h.tail hg]
theorem len_putA {l : List (κ × α)} (h : Srt lt l) (k : κ) (x : α) : (putA lt l k x).length = if (getA l k).isSome then l.length else l.length + 1 := by
 induction l with
 | nil => rfl
 | cons q l ih =>
  simp only [putA]
  rw [getA_cons]
  split
  ·rename_i hq
   rw [List.length_cons, ih h.tail, if_neg (O.ne hq)]
   split <;> simp
  ·rename_i hq
   split
   ·rfl
   ·rename_i e
    have hk : lt k q.1 = true := by rcases O.total q.1 k with g | g | g
                                    ·exact absurd g e
                                    ·exact absurd g hq
                                    ·exact g
    have : getA l k = none := getA_none.2 fun p hp => fun e2 => by
     have := O.trans _ _ _ hk (h.head p hp)
     rw [e2, O.irrefl] at this; cases this
    rw [this]; rfl
theorem srt_ext {l r : List (κ × α)} (h : Srt lt l) (g : Srt lt r) (e : ∀ k, getA l k = getA r k) : l = r := by
 induction l generalizing r with
 | nil =>
  cases r with
  | nil => rfl
  | cons q r => have := e q.1; rw [getA_nil, getA_cons, if_pos rfl] at this; cases this
 | cons p l ih =>
  cases r with
  | nil => have := e p.1; rw [getA_nil, getA_cons, if_pos rfl] at this; cases this
  | cons q r =>
   have hpq : p = q := by
    have h1 := getA_mem (by have := e p.1; rw [getA_cons, if_pos rfl] at this; exact this.symm)
    have h2 := getA_mem (by have := e q.1; rw [getA_cons (l := r), if_pos rfl] at this; exact this)
    rcases List.mem_cons.1 h1 with h1 | h1
    ·exact h1
    ·rcases List.mem_cons.1 h2 with h2 | h2
     ·exact h2.symm
     ·have a := g.head _ h1
      have b := h.head _ h2
      have := O.trans _ _ _ a b
      rw [O.irrefl] at this; cases this
   subst hpq
   congr 1
   refine ih h.tail g.tail fun k => ?_
   have := e k
   rw [getA_cons, getA_cons] at this
   by_cases hk : p.1 = k
   ·subst hk
    have a : ∀ {m : List (κ × α)}, (∀ q ∈ m, lt p.1 q.1 = true) → getA m p.1 = none := fun hm => getA_none.2 fun q hq => Ne.symm (O.ne (hm q hq))
    rw [a h.head, a g.head]
   ·rwa [if_neg hk, if_neg hk] at this
end
section
variable {κ α β : Type} [DecidableEq κ] {lt : κ → κ → Bool}
end
section
variable {κ α β : Type} [DecidableEq κ] {lt : κ → κ → Bool}
variable (O : Ord lt)
include O
end
section
variable {κ α β : Type} [DecidableEq κ] {lt : κ → κ → Bool}
end
section
variable {κ α β : Type} [DecidableEq κ] {lt : κ → κ → Bool}
variable (O : Ord lt)
include O
end
section
variable {κ α β : Type} [DecidableEq κ] {lt : κ → κ → Bool}
end
section
variable {κ α β : Type} [DecidableEq κ] {lt : κ → κ → Bool}
variable (O : Ord lt)
include O
theorem putA_perm {l : List (κ × α)} (h : Srt lt l) (k : κ) (x : α) : (putA lt l k x).Perm ((k, x) :: delA l k) := by
 induction l with
 | nil => exact .refl _
 | cons q l ih =>
  have hd : ∀ {m : List (κ × α)}, (∀ p ∈ m, p.1 ≠ k) → delA m k = m := fun hm => List.filter_eq_self.2 fun p hp => by simp [hm p hp]
  simp only [putA]
  split
  ·rename_i hq
   have hne := O.ne hq
   have : delA (q :: l) k = q :: delA l k := by simp [delA, hne]
   rw [this]
   exact (List.Perm.cons q (ih h.tail)).trans (List.Perm.swap ..)
  ·rename_i hq
   split
   ·rename_i e
    have : delA (q :: l) k = delA l k := by simp [delA, e]
    rw [this, hd fun p hp => by have := O.ne (h.head p hp); rw [e] at this; exact Ne.symm this]
   ·rename_i e
    have hk : lt k q.1 = true := by rcases O.total q.1 k with g | g | g
                                    ·exact absurd g e
                                    ·exact absurd g hq
                                    ·exact g
    rw [hd fun p hp => ?_]
    rcases List.mem_cons.1 hp with rfl | hp
    ·exact e
    ·exact Ne.symm (O.ne (O.trans _ _ _ hk (h.head p hp)))
end
end Go.Proofs.YteepgehjkcahiaaGreat

namespace Go.Proofs.YteepgehjkcahiaaGreat
structure Fil where
 runs : List Run
 data : Bs
def Fil.blks (f : Fil) : List Nat := expand f.runs
def blocksN (n : Nat) : Nat := (n + 511) / 512
structure FilOk (room : Nat) (f : Fil) : Prop where
 canon : Canon f.runs
 le : ∀ r ∈ f.runs, r.1 + r.2 ≤ room
 len : lenR f.runs = blocksN f.data.length
 most : f.data.length ≤ 32768
abbrev Files := List (Bs × Fil)
def ltN (a b : Bs) : Bool := Op.bytesLess a b
def allBlks (fs : Files) : List Nat := fs.flatMap fun p => p.2.blks
structure FilesOk (room : Nat) (fs : Files) : Prop where
 srt : Srt ltN fs
 few : fs.length ≤ 64
 name : ∀ p ∈ fs, 1 ≤ p.1.length ∧ p.1.length ≤ 40
 ok : ∀ p ∈ fs, FilOk room p.2
 nodup : (allBlks fs).Nodup
theorem FilOk.blks_len {room : Nat} {f : Fil} (h : FilOk room f) : f.blks.length = blocksN f.data.length := by rw [Fil.blks, expand_len, h.len]
theorem FilOk.blks_lt {room : Nat} {f : Fil} (h : FilOk room f) : ∀ b ∈ f.blks, b < room := by
 intro b hb
 obtain ⟨r, hr, h1, h2⟩ := mem_expand.1 hb
 have := h.le r hr
 omega
theorem FilesOk.lt {room : Nat} {fs : Files} (h : FilesOk room fs) : ∀ b ∈ allBlks fs, b < room := by
 intro b hb
 obtain ⟨p, hp, hb⟩ := List.mem_flatMap.1 hb
 exact (h.ok p hp).blks_lt b hb
theorem nodup_le : ∀ {n : Nat} {l : List Nat}, l.Nodup → (∀ b ∈ l, b < n) → l.length ≤ n := by
 intro n
 induction n with
 | zero =>
  intro l _ hn
  cases l with
  | nil => simp
  | cons b l => exact absurd (hn b (by simp)) (by omega)
 | succ n ih =>
  intro l h hn
  have h1 := ih (l := l.erase n) (h.erase n) fun b hb => by
   have hm := List.mem_of_mem_erase hb
   have := hn b hm
   have hne : b ≠ n := fun e => by subst e; exact (List.Nodup.not_mem_erase h) hb
   omega
  have h2 := List.length_erase (a := n) (l := l)
  split at h2 <;> omega
theorem FilesOk.many {room : Nat} {fs : Files} (h : FilesOk room fs) : (allBlks fs).length ≤ room := nodup_le h.nodup h.lt
theorem FilesOk.nil (room : Nat) : FilesOk room [] := ⟨List.Pairwise.nil, by simp, by simp, by simp, by simp [allBlks]⟩
def magicF : Bs := [102, 105, 108, 101, 115]
def runB (r : Run) : Bs := putU r.1 ++ putU r.2
def filB (f : Fil) : Bs := putU f.data.length ++ putU f.runs.length ++ f.runs.flatMap runB
def entB (p : Bs × Fil) : Bs := (putU p.1.length ++ p.1) ++ filB p.2
def dirRaw (fs : Files) : Bs := magicF ++ putU fs.length ++ fs.flatMap entB
def dirB (fs : Files) : Bs := dirRaw fs ++ List.replicate (8192 - (dirRaw fs).length) 0
theorem runs_len {room : Nat} {l : List Run} (hl : ∀ r ∈ l, r.1 + r.2 ≤ room) (hr : room ≤ 512) : (l.flatMap runB).length ≤ 4 * l.length := by
 induction l with
 | nil => simp
 | cons r l ih =>
  have h := hl r (by simp)
  have h1 : (putU r.1).length ≤ 2 := putU_len 1 _ (by omega)
  have h2 : (putU r.2).length ≤ 2 := putU_len 1 _ (by omega)
  have h3 := ih fun x hx => hl x (by simp [hx])
  simp only [List.flatMap_cons, List.length_append, List.length_cons, runB] at *
  omega
theorem runs_few {l : List Run} (h : ∀ r ∈ l, 1 ≤ r.2) : l.length ≤ lenR l := by
 induction l with
 | nil => simp
 | cons r l ih =>
  have := ih fun x hx => h x (by simp [hx])
  have := h r (by simp)
  simp only [lenR, List.map_cons, List.sum_cons, List.length_cons] at *
  omega
theorem entB_len {room : Nat} {p : Bs × Fil} (h : FilOk room p.2) (hn : p.1.length ≤ 40) (hr : room ≤ 512) : (entB p).length ≤ 46 + 4 * p.2.blks.length := by
 have h1 := runs_len h.le hr
 have h2 := runs_few (canon_pos h.canon)
 have h3 : (putU p.1.length).length ≤ 1 := putU_len 0 _ (by omega)
 have h4 : (putU p.2.data.length).length ≤ 3 := putU_len 2 _ (by have := h.most; omega)
 have h5 : lenR p.2.runs ≤ 64 := by rw [h.len]; have := h.most; unfold blocksN; omega
 have h6 : (putU p.2.runs.length).length ≤ 1 := putU_len 0 _ (by omega)
 rw [Fil.blks, expand_len]
 simp only [entB, filB, List.length_append]
 omega
theorem ents_len {room : Nat} (hr : room ≤ 512) : ∀ {fs : Files}, (∀ p ∈ fs, FilOk room p.2) → (∀ p ∈ fs, p.1.length ≤ 40) → (fs.flatMap entB).length ≤ 46 * fs.length + 4 * (allBlks fs).length
 | [], _, _ => by simp
 | p :: fs, h, g => by
  have h1 := ents_len hr (fs := fs) (fun x hx => h x (by simp [hx])) (fun x hx => g x (by simp [hx]))
  have h2 := entB_len (h p (by simp)) (g p (by simp)) hr
  simp only [allBlks, List.flatMap_cons, List.length_append, List.length_cons] at *
  omega
theorem FilesOk.raw_len {room : Nat} {fs : Files} (h : FilesOk room fs) (hr : room ≤ 512) : (dirRaw fs).length ≤ 8000 := by
 have h1 := ents_len hr h.ok fun p hp => (h.name p hp).2
 have h2 := h.many
 have h3 := h.few
 have h4 : (putU fs.length).length ≤ 1 := putU_len 0 _ (by omega)
 simp only [dirRaw, magicF, List.length_append, List.length_cons, List.length_nil]
 omega
theorem FilesOk.dir_len {room : Nat} {fs : Files} (h : FilesOk room fs) (hr : room ≤ 512) : (dirB fs).length = 8192 := by
 have := h.raw_len hr
 simp only [dirB, List.length_append, List.length_replicate]
 omega
def blkOf (b : Bs) (n : Nat) : Bs := (b.drop (n * 512)).take 512
theorem blkOf_len {b : Bs} (h : b.length = 8192) {n : Nat} (hn : n < 16) : (blkOf b n).length = 512 := by
 rw [blkOf, List.length_take, List.length_drop, h]; omega
def writesF (a b : Bs) : List Wr := (List.range 16).filterMap fun n => if blkOf a n = blkOf b n then none else some (n, blkOf b n)
theorem mem_writesF {a b : Bs} {x : Wr} : x ∈ writesF a b ↔ x.1 < 16 ∧ blkOf a x.1 ≠ blkOf b x.1 ∧ x.2 = blkOf b x.1 := by
 simp only [writesF, List.mem_filterMap, List.mem_range]
 constructor
 ·rintro ⟨n, hn, h⟩
  split at h
  ·cases h
  ·cases h; exact ⟨hn, by assumption, rfl⟩
 ·rintro ⟨h1, h2, h3⟩
  refine ⟨x.1, h1, ?_⟩
  rw [if_neg h2]
  cases x; simp_all
theorem over_writesF {a b : Bs} (hb : b.length = 8192) : Over (writesF a b) (blkOf a) (blkOf b) where
 wok := ⟨by
     have := List.length_filterMap_le (fun n => if blkOf a n = blkOf b n then none else some (n, blkOf b n)) (List.range 16)
     rwa [List.length_range] at this,
  fun x hx => by have := (mem_writesF.1 hx).1; omega, fun x hx => by obtain ⟨h1, -, h3⟩ := mem_writesF.1 hx; rw [h3]; exact blkOf_len hb h1⟩
 low := fun x hx => (mem_writesF.1 hx).1
 is := fun x hx => (mem_writesF.1 hx).2.2
 rest := fun n hn h => by
  by_cases e : blkOf a n = blkOf b n
  ·exact e
  ·exact absurd (List.mem_map.2 ⟨(n, blkOf b n), mem_writesF.2 ⟨hn, e, rfl⟩, rfl⟩) h
def HoldsB (c : Nat → Bs) (bl : List Nat) (X : Bs) : Prop := ∀ j b i, bl[j]? = some b → i < 512 → 512 * j + i < X.length → (c b)[i]? = X[512 * j + i]?
def Holds (c : Nat → Bs) (f : Fil) : Prop := HoldsB c f.blks f.data
def dataV (l : Nat → Cell) (b : Nat) : Bs := (l (36 + b)).view
def Sure (l : Nat → Cell) (f : Fil) : Prop := ∀ c : Nat → Bs, (∀ b, c b ∈ (l (36 + b)).poss) → Holds c f
theorem Sure.holds {l : Nat → Cell} {f : Fil} (h : Sure l f) : Holds (dataV l) f := h _ fun b => (l (36 + b)).view_mem
theorem Holds.congr {c c' : Nat → Bs} {f : Fil} (h : Holds c f) (e : ∀ b ∈ f.blks, c' b = c b) : Holds c' f := by
 intro j b i hj hi hx
 rw [e b (List.mem_of_getElem? hj)]
 exact h j b i hj hi hx
theorem sure_of_still {l : Nat → Cell} {f : Fil} (h : Holds (dataV l) f) (g : ∀ b ∈ f.blks, (l (36 + b)).pend = []) : Sure l f := by
 intro c hc
 refine h.congr fun b hb => ?_
 have := hc b
 rw [Cell.poss, g b hb, List.mem_singleton] at this
 rw [this, dataV, Cell.view, g b hb]
 rfl
def Kin (f g : Fil) : Prop := (∀ b ∈ f.blks, b ∉ g.blks) ∨ (g.blks <+: f.blks ∧ g.data <+: f.data)
structure FsInv (l : Nat → Cell) (room k s : Nat) (fs last : Files) : Prop where
 few : room ≤ 476
 quiet : Quiet l k s (blkOf (dirB last))
 sized : Sized l
 now : FilesOk room fs
 was : FilesOk room last
 holds : ∀ p ∈ fs, Holds (dataV l) p.2
 sure : ∀ p ∈ last, Sure l p.2
 kin : ∀ p ∈ fs, ∀ q ∈ last, Kin p.2 q.2
structure Rest (l : Nat → Cell) (room k : Nat) (fs : Files) : Prop where
 few : room ≤ 476
 recov : Recov l k (blkOf (dirB fs))
 sized : Sized l
 ok : FilesOk room fs
 pend : ∀ i, (l i).pend = []
 holds : ∀ p ∈ fs, Holds (dataV l) p.2
end Go.Proofs.YteepgehjkcahiaaGreat
