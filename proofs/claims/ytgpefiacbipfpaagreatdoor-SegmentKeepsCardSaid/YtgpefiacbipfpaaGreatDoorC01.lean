/- Lists in the order of their keys, as maps. No program in sight. Files in plain words: what lies where, what is free, what a directory says as bytes. No program in sight. What calls do to files, in plain words, and what a crash leaves of that. No program in sight. The ground of the walks: what a call leaves of the memory; rows of things of k cells, that are read, or of the call's own. -/
import Derived.WalkKit
import Derived.ProofKit
import Derived.OpenShut
import Derived.Handy
import Derived.Lib.Hide
import Derived.Deep.LoopGhost
import Derived.Below
import Derived.Deep.RegionHeld3
import Derived.Deep.AppendLies
import Derived.Deep.RegionLaw
import Derived.Maps.AppendAt
import Derived.Laws.AppendOwn
import Derived.Test.YtgpefiacbipfpaaGreatDoorC00
import Derived.Test.YtgpefiacbipfpaaGreatDoorChecked
namespace Go.Proofs.YtgpefiacbipfpaaGreatDoor
structure Ord {κ : Type} (lt : κ → κ → Bool) : Prop where
 irrefl : ∀ a, lt a a = false
 trans : ∀ a b c, lt a b = true → lt b c = true → lt a c = true
 total : ∀ a b, a = b ∨ lt a b = true ∨ lt b a = true
section
variable {κ α β : Type} [DecidableEq κ] {lt : κ → κ → Bool}
def putA (lt : κ → κ → Bool) : List (κ × α) → κ → α → List (κ × α)
 | [], k, x => [(k, x)]
 | p :: l, k, x => if lt p.1 k then p :: putA lt l k x else if p.1 = k then (k, x) :: l else (k, x) :: p :: l
def delA (l : List (κ × α)) (k : κ) : List (κ × α) := l.filter fun p => !decide (p.1 = k)
def getA (l : List (κ × α)) (k : κ) : Option α := (l.find? fun p => decide (p.1 = k)).map (·.2)
def Srt (lt : κ → κ → Bool) (l : List (κ × α)) : Prop := l.Pairwise fun p q => lt p.1 q.1 = true
theorem getA_nil (k : κ) : getA ([] : List (κ × α)) k = none := rfl
theorem getA_cons (p : κ × α) (l : List (κ × α)) (k : κ) : getA (p :: l) k = if p.1 = k then some p.2 else getA l k := by
 unfold getA
 by_cases h : p.1 = k <;> simp [h]
end
section
variable {κ α β : Type} {lt : κ → κ → Bool}
theorem Srt.tail {p : κ × α} {l : List (κ × α)} (h : Srt lt (p :: l)) : Srt lt l := (List.pairwise_cons.1 h).2
end
section
variable {κ α β : Type} [DecidableEq κ] {lt : κ → κ → Bool}
end
section
variable {κ α β : Type} {lt : κ → κ → Bool}
theorem Srt.head {p : κ × α} {l : List (κ × α)} (h : Srt lt (p :: l)) : ∀ q ∈ l, lt p.1 q.1 = true := (List.pairwise_cons.1 h).1
end
section
variable {κ α β : Type} [DecidableEq κ] {lt : κ → κ → Bool}
theorem getA_mem {l : List (κ × α)} {k : κ} {x : α} (h : getA l k = some x) : (k, x) ∈ l := by
 induction l with
 | nil => cases h
 | cons p l ih =>
  rw [getA_cons] at h
  split at h
  ·rename_i e
   obtain ⟨a, b⟩ := p
   cases h; subst e; simp
  ·exact List.mem_cons_of_mem _ (ih h)
theorem getA_none {l : List (κ × α)} {k : κ} : getA l k = none ↔ ∀ p ∈ l, p.1 ≠ k := by
 induction l with
 | nil => simp [getA]
 | cons p l ih => rw [getA_cons]; split <;> simp_all
variable (O : Ord lt)
include O
end
section
variable {κ α β : Type} {lt : κ → κ → Bool}
variable (O : Ord lt)
include O
theorem Ord.ne {a b : κ} (h : lt a b = true) : a ≠ b := by
 rintro rfl
 rw [O.irrefl] at h; cases h
end
section
variable {κ α β : Type} [DecidableEq κ] {lt : κ → κ → Bool}
variable (O : Ord lt)
include O
end
section
variable {κ α β : Type} {lt : κ → κ → Bool}
variable (O : Ord lt)
include O
theorem Ord.asymm {a b : κ} (h : lt a b = true) : lt b a = false := by
 cases g : lt b a with
 | false => rfl
 | true => have := O.trans _ _ _ h g; rw [O.irrefl] at this; cases this
end
section
variable {κ α β : Type} [DecidableEq κ] {lt : κ → κ → Bool}
variable (O : Ord lt)
include O
theorem getA_of_mem {l : List (κ × α)} (h : Srt lt l) {p : κ × α} (hp : p ∈ l) : getA l p.1 = some p.2 := by
 induction l with
 | nil => simp at hp
 | cons q l ih =>
  rw [getA_cons]
  rcases List.mem_cons.1 hp with rfl | hp
  ·rw [if_pos rfl]
  ·rw [if_neg (O.ne (h.head p hp)), ih h.tail hp]
end
section
variable {κ α β : Type} [DecidableEq κ] {lt : κ → κ → Bool}
theorem mem_putA {l : List (κ × α)} {k : κ} {x : α} {p : κ × α} (h : p ∈ putA lt l k x) : p = (k, x) ∨ (p ∈ l) := by
 induction l with
 | nil => simpa [putA] using h
 | cons q l ih =>
  simp only [putA] at h
  split at h
  ·rcases List.mem_cons.1 h with rfl | h
   ·exact .inr (by simp)
   ·rcases ih h with h | h
    ·exact .inl h
    ·exact .inr (by simp [h])
  ·split at h
   ·rcases List.mem_cons.1 h with h | h
    ·exact .inl h
    ·exact .inr (by simp [h])
   ·rcases List.mem_cons.1 h with h | h
    ·exact .inl h
    ·exact .inr h
end
section
variable {κ α β : Type} [DecidableEq κ] {lt : κ → κ → Bool}
variable (O : Ord lt)
include O
theorem srt_putA {l : List (κ × α)} (h : Srt lt l) (k : κ) (x : α) : Srt lt (putA lt l k x) := by
 induction l with
 | nil => exact List.pairwise_singleton ..
 | cons q l ih =>
  simp only [putA]
  split
  ·rename_i hq
   refine List.pairwise_cons.2 ⟨fun p hp => ?_, ih h.tail⟩
   rcases mem_putA hp with rfl | hp
   ·exact hq
   ·exact h.head p hp
  ·rename_i hq
   split
   ·rename_i e
    subst e
    exact List.pairwise_cons.2 ⟨fun p hp => h.head p hp, h.tail⟩
   ·rename_i e
    have hk : lt k q.1 = true := by rcases O.total q.1 k with g | g | g
                                    ·exact absurd g e
                                    ·exact absurd g hq
                                    ·exact g
    refine List.pairwise_cons.2 ⟨fun p hp => ?_, h⟩
    rcases List.mem_cons.1 hp with rfl | hp
    ·exact hk
    ·exact O.trans _ _ _ hk (h.head p hp)
theorem getA_putA {l : List (κ × α)} (h : Srt lt l) (k : κ) (x : α) (j : κ) : getA (putA lt l k x) j = if k = j then some x else getA l j := by
 induction l with
 | nil => simp only [putA, getA_cons, getA_nil]
 | cons q l ih =>
  simp only [putA]
  split
  ·rename_i hq
   rw [getA_cons, ih h.tail, getA_cons]
   by_cases hj : k = j
   ·subst hj; rw [if_neg (O.ne hq), if_pos rfl, if_pos rfl]
   ·rw [if_neg hj, if_neg hj]
  ·split
   ·rename_i e
    rw [getA_cons, getA_cons]
    by_cases hj : k = j
    ·rw [if_pos hj, if_pos hj]
    ·rw [if_neg hj, if_neg hj, if_neg (by rw [e]; exact hj)]
   ·rw [getA_cons]
end
section
variable {κ α β : Type} [DecidableEq κ] {lt : κ → κ → Bool}
theorem srt_delA {l : List (κ × α)} (h : Srt lt l) (k : κ) : Srt lt (delA l k) := List.Pairwise.filter _ h
end
section
variable {κ α β : Type} [DecidableEq κ] {lt : κ → κ → Bool}
variable (O : Ord lt)
include O
end
section
variable {κ α β : Type} [DecidableEq κ] {lt : κ → κ → Bool}
theorem mem_delA {l : List (κ × α)} {k : κ} {p : κ × α} : p ∈ delA l k ↔ p ∈ l ∧ p.1 ≠ k := by simp [delA]
end
section
variable {κ α β : Type} [DecidableEq κ] {lt : κ → κ → Bool}
variable (O : Ord lt)
include O
end
section
variable {κ α β : Type} [DecidableEq κ] {lt : κ → κ → Bool}
theorem getA_delA (l : List (κ × α)) (k j : κ) : getA (delA l k) j = if k = j then none else getA l j := by
 induction l with
 | nil => simp [delA, getA]
 | cons p l ih =>
  unfold delA at ih ⊢
  rw [List.filter_cons]
  by_cases hp : p.1 = k
  ·simp only [hp, decide_true, Bool.not_true, Bool.false_eq_true, if_false]
   rw [ih, getA_cons]
   by_cases hj : k = j
   ·rw [if_pos hj, if_pos hj]
   ·rw [if_neg hj, if_neg hj, if_neg (by rw [hp]; exact hj)]
  ·simp only [hp, decide_false, Bool.not_false, if_true]
   rw [getA_cons, ih, getA_cons]
   by_cases hj : k = j
   ·rw [if_pos hj, if_pos hj, if_neg (by rw [← hj]; exact hp)]
   ·rw [if_neg hj, if_neg hj]
end
section
variable {κ α β : Type} [DecidableEq κ] {lt : κ → κ → Bool}
variable (O : Ord lt)
include O
theorem len_putA {l : List (κ × α)} (h : Srt lt l) (k : κ) (x : α) : (putA lt l k x).length = if (getA l k).isSome then l.length else l.length + 1 := by
 induction l with
 | nil => rfl
 | cons q l ih =>
  simp only [putA]
  rw [getA_cons]
  split
  ·rename_i hq
   rw [List.length_cons, ih h.tail, if_neg (O.ne hq)]
   split <;> simp
  ·rename_i hq
   split
   ·rfl
   ·rename_i e
    have hk : lt k q.1 = true := by rcases O.total q.1 k with g | g | g
                                    ·exact absurd g e
                                    ·exact absurd g hq
                                    ·exact g
    have : getA l k = none := getA_none.2 fun p hp => fun e2 => by
     have := O.trans _ _ _ hk (h.head p hp)
     rw [e2, O.irrefl] at this; cases this
    rw [this]; rfl
theorem srt_ext {l r : List (κ × α)} (h : Srt lt l) (g : Srt lt r) (e : ∀ k, getA l k = getA r k) : l = r := by
 induction l generalizing r with
 | nil =>
  cases r with
  | nil => rfl
  | cons q r => have := e q.1; rw [getA_nil, getA_cons, if_pos rfl] at this; cases this
 | cons p l ih =>
  cases r with
  | nil => have := e p.1; rw [getA_nil, getA_cons, if_pos rfl] at this; cases this
  | cons q r =>
   have hpq : p = q := by
    have h1 := getA_mem (by have := e p.1; rw [getA_cons, if_pos rfl] at this; exact this.symm)
    have h2 := getA_mem (by have := e q.1; rw [getA_cons (l := r), if_pos rfl] at this; exact this)
    rcases List.mem_cons.1 h1 with h1 | h1
    ·exact h1
    ·rcases List.mem_cons.1 h2 with h2 | h2
     ·exact h2.symm
     ·have a := g.head _ h1
      have b := h.head _ h2
      have := O.trans _ _ _ a b
      rw [O.irrefl] at this; cases this
   subst hpq
   congr 1
   refine ih h.tail g.tail fun k => ?_
   have := e k
   rw [getA_cons, getA_cons] at this
   by_cases hk : p.1 = k
   ·subst hk
    have a : ∀ {m : List (κ × α)}, (∀ q ∈ m, lt p.1 q.1 = true) → getA m p.1 = none := fun hm => getA_none.2 fun q hq => Ne.symm (O.ne (hm q hq))
    rw [a h.head, a g.head]
   ·rwa [if_neg hk, if_neg hk] at this
end
section
variable {κ α β : Type} [DecidableEq κ] {lt : κ → κ → Bool}
end
section
variable {κ α β : Type} [DecidableEq κ] {lt : κ → κ → Bool}
variable (O : Ord lt)
include O
end
section
variable {κ α β : Type} [DecidableEq κ] {lt : κ → κ → Bool}
end
section
variable {κ α β : Type} [DecidableEq κ] {lt : κ → κ → Bool}
variable (O : Ord lt)
include O
end
section
variable {κ α β : Type} [DecidableEq κ] {lt : κ → κ → Bool}
end
section
variable {κ α β : Type} [DecidableEq κ] {lt : κ → κ → Bool}
variable (O : Ord lt)
include O
theorem putA_perm {l : List (κ × α)} (h : Srt lt l) (k : κ) (x : α) : (putA lt l k x).Perm ((k, x) :: delA l k) := by
 induction l with
 | nil => exact .refl _
 | cons q l ih =>
  have hd : ∀ {m : List (κ × α)}, (∀ p ∈ m, p.1 ≠ k) → delA m k = m := fun hm => List.filter_eq_self.2 fun p hp => by simp [hm p hp]
  simp only [putA]
  split
  ·rename_i hq
   have hne := O.ne hq
   have : delA (q :: l) k = q :: delA l k := by simp [delA, hne]
   rw [this]
   exact (List.Perm.cons q (ih h.tail)).trans (List.Perm.swap ..)
  ·rename_i hq
   split
   ·rename_i e
    have : delA (q :: l) k = delA l k := by simp [delA, e]
    rw [this, hd fun p hp => by have := O.ne (h.head p hp); rw [e] at this; exact Ne.symm this]
   ·rename_i e
    have hk : lt k q.1 = true := by rcases O.total q.1 k with g | g | g
                                    ·exact absurd g e
                                    ·exact absurd g hq
                                    ·exact g
    rw [hd fun p hp => ?_]
    rcases List.mem_cons.1 hp with rfl | hp
    ·exact e
    ·exact Ne.symm (O.ne (O.trans _ _ _ hk (h.head p hp)))
end
end Go.Proofs.YtgpefiacbipfpaaGreatDoor

namespace Go.Proofs.YtgpefiacbipfpaaGreatDoor
structure Fil where
 runs : List Run
 data : Bs
def Fil.blks (f : Fil) : List Nat := expand f.runs
def blocksN (n : Nat) : Nat := (n + 511) / 512
structure FilOk (room : Nat) (f : Fil) : Prop where
 canon : Canon f.runs
 le : ∀ r ∈ f.runs, r.1 + r.2 ≤ room
 len : lenR f.runs = blocksN f.data.length
 most : f.data.length ≤ 32768
abbrev Files := List (Bs × Fil)
def ltN (a b : Bs) : Bool := Op.bytesLess a b
def allBlks (fs : Files) : List Nat := fs.flatMap fun p => p.2.blks
structure FilesOk (room : Nat) (fs : Files) : Prop where
 srt : Srt ltN fs
 few : fs.length ≤ 64
 name : ∀ p ∈ fs, 1 ≤ p.1.length ∧ p.1.length ≤ 40
 ok : ∀ p ∈ fs, FilOk room p.2
 nodup : (allBlks fs).Nodup
theorem FilOk.blks_len {room : Nat} {f : Fil} (h : FilOk room f) : f.blks.length = blocksN f.data.length := by rw [Fil.blks, expand_len, h.len]
theorem FilOk.blks_lt {room : Nat} {f : Fil} (h : FilOk room f) : ∀ b ∈ f.blks, b < room := by
 intro b hb
 obtain ⟨r, hr, h1, h2⟩ := mem_expand.1 hb
 have := h.le r hr
 omega
theorem FilesOk.lt {room : Nat} {fs : Files} (h : FilesOk room fs) : ∀ b ∈ allBlks fs, b < room := by
 intro b hb
 obtain ⟨p, hp, hb⟩ := List.mem_flatMap.1 hb
 exact (h.ok p hp).blks_lt b hb
theorem nodup_le : ∀ {n : Nat} {l : List Nat}, l.Nodup → (∀ b ∈ l, b < n) → l.length ≤ n := by
 intro n
 induction n with
 | zero =>
  intro l _ hn
  cases l with
  | nil => simp
  | cons b l => exact absurd (hn b (by simp)) (by omega)
 | succ n ih =>
  intro l h hn
  have h1 := ih (l := l.erase n) (h.erase n) fun b hb => by
   have hm := List.mem_of_mem_erase hb
   have := hn b hm
   have hne : b ≠ n := fun e => by subst e; exact (List.Nodup.not_mem_erase h) hb
   omega
  have h2 := List.length_erase (a := n) (l := l)
  split at h2 <;> omega
theorem FilesOk.many {room : Nat} {fs : Files} (h : FilesOk room fs) : (allBlks fs).length ≤ room := nodup_le h.nodup h.lt
theorem FilesOk.nil (room : Nat) : FilesOk room [] := ⟨List.Pairwise.nil, by simp, by simp, by simp, by simp [allBlks]⟩
def magicF : Bs := [102, 105, 108, 101, 115]
def runB (r : Run) : Bs := putU r.1 ++ putU r.2
def filB (f : Fil) : Bs := putU f.data.length ++ putU f.runs.length ++ f.runs.flatMap runB
def entB (p : Bs × Fil) : Bs := (putU p.1.length ++ p.1) ++ filB p.2
def dirRaw (fs : Files) : Bs := magicF ++ putU fs.length ++ fs.flatMap entB
def dirB (fs : Files) : Bs := dirRaw fs ++ List.replicate (8192 - (dirRaw fs).length) 0
theorem runs_len {room : Nat} {l : List Run} (hl : ∀ r ∈ l, r.1 + r.2 ≤ room) (hr : room ≤ 512) : (l.flatMap runB).length ≤ 4 * l.length := by
 induction l with
 | nil => simp
 | cons r l ih =>
  have h := hl r (by simp)
  have h1 : (putU r.1).length ≤ 2 := putU_len 1 _ (by omega)
  have h2 : (putU r.2).length ≤ 2 := putU_len 1 _ (by omega)
  have h3 := ih fun x hx => hl x (by simp [hx])
  simp only [List.flatMap_cons, List.length_append, List.length_cons, runB] at *
  omega
theorem runs_few {l : List Run} (h : ∀ r ∈ l, 1 ≤ r.2) : l.length ≤ lenR l := by
 induction l with
 | nil => simp
 | cons r l ih =>
  have := ih fun x hx => h x (by simp [hx])
  have := h r (by simp)
  simp only [lenR, List.map_cons, List.sum_cons, List.length_cons] at *
  omega
theorem entB_len {room : Nat} {p : Bs × Fil} (h : FilOk room p.2) (hn : p.1.length ≤ 40) (hr : room ≤ 512) : (entB p).length ≤ 46 + 4 * p.2.blks.length := by
 have h1 := runs_len h.le hr
 have h2 := runs_few (canon_pos h.canon)
 have h3 : (putU p.1.length).length ≤ 1 := putU_len 0 _ (by omega)
 have h4 : (putU p.2.data.length).length ≤ 3 := putU_len 2 _ (by have := h.most; omega)
 have h5 : lenR p.2.runs ≤ 64 := by rw [h.len]; have := h.most; unfold blocksN; omega
 have h6 : (putU p.2.runs.length).length ≤ 1 := putU_len 0 _ (by omega)
 rw [Fil.blks, expand_len]
 simp only [entB, filB, List.length_append]
 omega
theorem ents_len {room : Nat} (hr : room ≤ 512) : ∀ {fs : Files}, (∀ p ∈ fs, FilOk room p.2) → (∀ p ∈ fs, p.1.length ≤ 40) → (fs.flatMap entB).length ≤ 46 * fs.length + 4 * (allBlks fs).length
 | [], _, _ => by simp
 | p :: fs, h, g => by
  have h1 := ents_len hr (fs := fs) (fun x hx => h x (by simp [hx])) (fun x hx => g x (by simp [hx]))
  have h2 := entB_len (h p (by simp)) (g p (by simp)) hr
  simp only [allBlks, List.flatMap_cons, List.length_append, List.length_cons] at *
  omega
theorem FilesOk.raw_len {room : Nat} {fs : Files} (h : FilesOk room fs) (hr : room ≤ 512) : (dirRaw fs).length ≤ 8000 := by
 have h1 := ents_len hr h.ok fun p hp => (h.name p hp).2
 have h2 := h.many
 have h3 := h.few
 have h4 : (putU fs.length).length ≤ 1 := putU_len 0 _ (by omega)
 simp only [dirRaw, magicF, List.length_append, List.length_cons, List.length_nil]
 omega
theorem FilesOk.dir_len {room : Nat} {fs : Files} (h : FilesOk room fs) (hr : room ≤ 512) : (dirB fs).length = 8192 := by
 have := h.raw_len hr
 simp only [dirB, List.length_append, List.length_replicate]
 omega
def blkOf (b : Bs) (n : Nat) : Bs := (b.drop (n * 512)).take 512
theorem blkOf_len {b : Bs} (h : b.length = 8192) {n : Nat} (hn : n < 16) : (blkOf b n).length = 512 := by
 rw [blkOf, List.length_take, List.length_drop, h]; omega
def writesF (a b : Bs) : List Wr := (List.range 16).filterMap fun n => if blkOf a n = blkOf b n then none else some (n, blkOf b n)
theorem mem_writesF {a b : Bs} {x : Wr} : x ∈ writesF a b ↔ x.1 < 16 ∧ blkOf a x.1 ≠ blkOf b x.1 ∧ x.2 = blkOf b x.1 := by
 simp only [writesF, List.mem_filterMap, List.mem_range]
 constructor
 ·rintro ⟨n, hn, h⟩
  split at h
  ·cases h
  ·cases h; exact ⟨hn, by assumption, rfl⟩
 ·rintro ⟨h1, h2, h3⟩
  refine ⟨x.1, h1, ?_⟩
  rw [if_neg h2]
  cases x; simp_all
theorem over_writesF {a b : Bs} (hb : b.length = 8192) : Over (writesF a b) (blkOf a) (blkOf b) where
 wok := ⟨by
     have := List.length_filterMap_le (fun n => if blkOf a n = blkOf b n then none else some (n, blkOf b n)) (List.range 16)
     rwa [List.length_range] at this,
  fun x hx => by have := (mem_writesF.1 hx).1; omega, fun x hx => by obtain ⟨h1, -, h3⟩ := mem_writesF.1 hx; rw [h3]; exact blkOf_len hb h1⟩
 low := fun x hx => (mem_writesF.1 hx).1
 is := fun x hx => (mem_writesF.1 hx).2.2
 rest := fun n hn h => by
  by_cases e : blkOf a n = blkOf b n
  ·exact e
  ·exact absurd (List.mem_map.2 ⟨(n, blkOf b n), mem_writesF.2 ⟨hn, e, rfl⟩, rfl⟩) h
def HoldsB (c : Nat → Bs) (bl : List Nat) (X : Bs) : Prop := ∀ j b i, bl[j]? = some b → i < 512 → 512 * j + i < X.length → (c b)[i]? = X[512 * j + i]?
def Holds (c : Nat → Bs) (f : Fil) : Prop := HoldsB c f.blks f.data
def dataV (l : Nat → Cell) (b : Nat) : Bs := (l (36 + b)).view
def Sure (l : Nat → Cell) (f : Fil) : Prop := ∀ c : Nat → Bs, (∀ b, c b ∈ (l (36 + b)).poss) → Holds c f
theorem Sure.holds {l : Nat → Cell} {f : Fil} (h : Sure l f) : Holds (dataV l) f := h _ fun b => (l (36 + b)).view_mem
theorem Holds.congr {c c' : Nat → Bs} {f : Fil} (h : Holds c f) (e : ∀ b ∈ f.blks, c' b = c b) : Holds c' f := by
 intro j b i hj hi hx
 rw [e b (List.mem_of_getElem? hj)]
 exact h j b i hj hi hx
theorem sure_of_still {l : Nat → Cell} {f : Fil} (h : Holds (dataV l) f) (g : ∀ b ∈ f.blks, (l (36 + b)).pend = []) : Sure l f := by
 intro c hc
 refine h.congr fun b hb => ?_
 have := hc b
 rw [Cell.poss, g b hb, List.mem_singleton] at this
 rw [this, dataV, Cell.view, g b hb]
 rfl
def Kin (f g : Fil) : Prop := (∀ b ∈ f.blks, b ∉ g.blks) ∨ (g.blks <+: f.blks ∧ g.data <+: f.data)
structure FsInv (l : Nat → Cell) (room k s : Nat) (fs last : Files) : Prop where
 few : room ≤ 476
 quiet : Quiet l k s (blkOf (dirB last))
 sized : Sized l
 now : FilesOk room fs
 was : FilesOk room last
 holds : ∀ p ∈ fs, Holds (dataV l) p.2
 sure : ∀ p ∈ last, Sure l p.2
 kin : ∀ p ∈ fs, ∀ q ∈ last, Kin p.2 q.2
structure Rest (l : Nat → Cell) (room k : Nat) (fs : Files) : Prop where
 few : room ≤ 476
 recov : Recov l k (blkOf (dirB fs))
 sized : Sized l
 ok : FilesOk room fs
 pend : ∀ i, (l i).pend = []
 holds : ∀ p ∈ fs, Holds (dataV l) p.2
end Go.Proofs.YtgpefiacbipfpaaGreatDoor

namespace Go.Proofs.YtgpefiacbipfpaaGreatDoor
theorem bsLess_trans : ∀ x y z : List UInt8, Op.bytesLess x y = true → Op.bytesLess y z = true → Op.bytesLess x z = true
 | _, [], _, h, _ => by cases ‹List UInt8› <;> simp [Op.bytesLess] at h
 | x, b :: y, [], _, h => by simp [Op.bytesLess] at h
 | [], b :: y, c :: z, _, _ => rfl
 | a :: x, b :: y, c :: z, h, g => by
  simp only [Op.bytesLess, Bool.or_eq_true, Bool.and_eq_true, decide_eq_true_eq, beq_iff_eq, UInt8.lt_iff_toNat_lt] at h g ⊢
  rcases h with h | ⟨rfl, h⟩
  ·rcases g with g | ⟨rfl, g⟩
   ·exact Or.inl (by omega)
   ·exact Or.inl h
  ·rcases g with g | ⟨rfl, g⟩
   ·exact Or.inl g
   ·exact Or.inr ⟨rfl, bsLess_trans x y z h g⟩
theorem bsLess_irrefl : ∀ x : List UInt8, Op.bytesLess x x = false
 | [] => rfl
 | a :: x => by simp [Op.bytesLess, bsLess_irrefl x]
theorem bsLess_total : ∀ x y : List UInt8, x = y ∨ Op.bytesLess x y = true ∨ Op.bytesLess y x = true
 | [], [] => Or.inl rfl
 | [], _ :: _ => Or.inr (Or.inl rfl)
 | _ :: _, [] => Or.inr (Or.inr rfl)
 | a :: x, b :: y => by
  simp only [Op.bytesLess, Bool.or_eq_true, Bool.and_eq_true, decide_eq_true_eq, beq_iff_eq, UInt8.lt_iff_toNat_lt, List.cons.injEq]
  rcases Nat.lt_trichotomy a.toNat b.toNat with h | h | h
  ·exact Or.inr (Or.inl (Or.inl h))
  ·have h := UInt8.toNat_inj.1 h
   subst h
   rcases bsLess_total x y with rfl | h | h
   ·exact Or.inl ⟨rfl, rfl⟩
   ·exact Or.inr (Or.inl (Or.inr ⟨rfl, h⟩))
   ·exact Or.inr (Or.inr (Or.inr ⟨rfl, h⟩))
  ·exact Or.inr (Or.inr (Or.inl h))
theorem ordN : Ord ltN := ⟨bsLess_irrefl, bsLess_trans, bsLess_total⟩
theorem FsInv.crash {l l' : Nat → Cell} {room k s : Nat} {fs last : Files} (h : FsInv l room k s fs last) (c : CrashOf l l') : Rest l' room k last where
 few := h.few
 recov := ⟨s, .inl (h.quiet.crash c)⟩
 sized := fun i b hb => by
  obtain ⟨h1, h2⟩ := c i
  rw [Cell.poss, h1, List.mem_singleton] at hb
  subst hb
  exact h.sized i _ h2
 ok := h.was
 pend := fun i => (c i).1
 holds := fun p hp => h.sure p hp _ fun b => by
  obtain ⟨h1, h2⟩ := c (36 + b)
  show (l' (36 + b)).view ∈ _
  rw [Cell.view, h1]
  exact h2
theorem mem_all {fs : Files} {p : Bs × Fil} (hp : p ∈ fs) {b : Nat} (hb : b ∈ p.2.blks) : b ∈ allBlks fs := List.mem_flatMap.2 ⟨p, hp, hb⟩
theorem apart_of {fs : Files} (h : (allBlks fs).Nodup) : ∀ {p q : Bs × Fil}, p ∈ fs → q ∈ fs → p.1 ≠ q.1 → ∀ b ∈ p.2.blks, b ∉ q.2.blks := by
 induction fs with
 | nil => intro p q hp; simp at hp
 | cons x fs ih =>
  intro p q hp hq hne b hb hb'
  simp only [allBlks, List.flatMap_cons, List.nodup_append] at h
  obtain ⟨-, h2, h3⟩ := h
  rcases List.mem_cons.1 hp with hp1 | hp1
  ·rcases List.mem_cons.1 hq with hq1 | hq1
   ·exact hne (by rw [hp1, hq1])
   ·exact h3 b (by rw [← hp1]; exact hb) b (mem_all (fs := fs) hq1 hb') rfl
  ·rcases List.mem_cons.1 hq with hq1 | hq1
   ·exact h3 b (by rw [← hq1]; exact hb') b (mem_all (fs := fs) hp1 hb) rfl
   ·exact ih h2 hp1 hq1 hne b hb hb'
theorem del_ok {room : Nat} {fs : Files} (h : FilesOk room fs) (nm : Bs) : FilesOk room (delA fs nm) where
 srt := srt_delA h.srt nm
 few := Nat.le_trans (List.length_filter_le ..) h.few
 name := fun p hp => h.name p (mem_delA.1 hp).1
 ok := fun p hp => h.ok p (mem_delA.1 hp).1
 nodup := by
  have : (allBlks (delA fs nm)).Sublist (allBlks fs) := by
   have h0 : (delA fs nm).Sublist fs := List.filter_sublist
   clear h
   generalize delA fs nm = r at h0
   unfold allBlks
   induction h0 with
   | slnil => exact .slnil
   | cons a _ ih => rw [List.flatMap_cons]; exact ih.trans (List.sublist_append_right ..)
   | cons_cons a _ ih => rw [List.flatMap_cons, List.flatMap_cons]; exact (List.Sublist.refl _).append ih
  exact h.nodup.sublist this
theorem FsInv.remove {l : Nat → Cell} {room k s : Nat} {fs last : Files} (h : FsInv l room k s fs last) (nm : Bs) : FsInv l room k s (delA fs nm) last :=
 ⟨h.few, h.quiet, h.sized, del_ok h.now nm, h.was, fun p hp => h.holds p (mem_delA.1 hp).1, h.sure, fun p hp => h.kin p (mem_delA.1 hp).1⟩
theorem perm_all {a b : Files} (h : a.Perm b) : (allBlks a).Perm (allBlks b) := h.flatMap_right _
theorem put_ok {room : Nat} {fs : Files} (h : FilesOk room fs) {nm : Bs} {f : Fil} (hn : 1 ≤ nm.length ∧ nm.length ≤ 40) (hf : FilOk room f) (h64 : (putA ltN fs nm f).length ≤ 64)
  (hnd : f.blks.Nodup) (hd : ∀ b ∈ f.blks, b ∉ allBlks (delA fs nm)) : FilesOk room (putA ltN fs nm f) where
 srt := srt_putA ordN h.srt nm f
 few := h64
 name := fun p hp => by rcases mem_putA hp with rfl | hp; exact hn; exact h.name p hp
 ok := fun p hp => by rcases mem_putA hp with rfl | hp; exact hf; exact h.ok p hp
 nodup := by
  rw [(perm_all (putA_perm ordN h.srt nm f)).nodup_iff]
  simp only [allBlks, List.flatMap_cons, List.nodup_append]
  exact ⟨hnd, (del_ok h nm).nodup, fun a ha b hb e => hd a ha (e ▸ hb)⟩
theorem put_mem {fs : Files} (h : Srt ltN fs) {nm : Bs} {f : Fil} {p : Bs × Fil} (hp : p ∈ putA ltN fs nm f) : p = (nm, f) ∨ (p ∈ fs ∧ p.1 ≠ nm) := by
 have := (putA_perm ordN h nm f).mem_iff.1 hp
 rcases List.mem_cons.1 this with h | h
 ·exact .inl h
 ·exact .inr (mem_delA.1 h)
def emptyF : Fil := ⟨[], []⟩
theorem emptyF_ok (room : Nat) : FilOk room emptyF := ⟨trivial, by simp [emptyF], rfl, by simp [emptyF]⟩
theorem emptyF_blks : emptyF.blks = [] := rfl
theorem FsInv.create {l : Nat → Cell} {room k s : Nat} {fs last : Files} (h : FsInv l room k s fs last) {nm : Bs} (hn : 1 ≤ nm.length ∧ nm.length ≤ 40) (hg : getA fs nm = none) (h64 : fs.length < 64) : FsInv l room k s (putA ltN fs nm emptyF) last :=
 ⟨h.few, h.quiet, h.sized, put_ok h.now hn (emptyF_ok room) (by rw [len_putA ordN h.now.srt, hg]; exact h64) (by simp [emptyF_blks]) (by simp [emptyF_blks]), h.was,
  fun p hp => by
   rcases put_mem h.now.srt hp with rfl | ⟨hp, -⟩
   ·intro j b i hj; simp [emptyF_blks] at hj
   ·exact h.holds p hp,
  h.sure, fun p hp => by
   rcases put_mem h.now.srt hp with rfl | ⟨hp, -⟩
   ·intro q _; exact .inl (by simp [emptyF_blks])
   ·exact h.kin p hp⟩
theorem kin_refl (f : Fil) : Kin f f := .inr ⟨List.prefix_refl _, List.prefix_refl _⟩
theorem FilesOk.kin {room : Nat} {fs : Files} (h : FilesOk room fs) : ∀ p ∈ fs, ∀ q ∈ fs, Kin p.2 q.2 := by
 intro p hp q hq
 by_cases e : p.1 = q.1
 ·have h1 := getA_of_mem ordN h.srt hp
  have h2 := getA_of_mem ordN h.srt hq
  rw [e, h2] at h1
  rw [Option.some.inj h1]
  exact kin_refl _
 ·exact .inl (apart_of h.nodup hp hq e)
theorem FsInv.reset {l : Nat → Cell} {room k s : Nat} {fs last : Files} (h : FsInv l room k s fs last) : FsInv l room k s last last :=
 ⟨h.few, h.quiet, h.sized, h.was, h.was, fun p hp => (h.sure p hp).holds, h.sure, h.was.kin⟩
def syncT (k s : Nat) (fs last : Files) : List DOp := commitT (k + 1) s (writesF (dirB last) (dirB fs))
theorem FsInv.sync {l : Nat → Cell} {room k s : Nat} {fs last : Files} (h : FsInv l room k s fs last) (hk : k < 2 ^ 61) :
  Along (fun l1 => ∀ l', CrashOf l1 l' → ∃ k', k' ≤ k + 1 ∧ (Rest l' room k' last ∨ Rest l' room k' fs)) (syncT k s fs last) l ∧ FsInv (exec (syncT k s fs last) l) room (k + 1) (1 - s) fs fs := by
 have hfew := h.few
 have hd := h.now.dir_len (by omega)
 have ho := over_writesF (a := dirB last) hd
 obtain ⟨h1, h2, h3⟩ := h.quiet.commit ho (by omega : k < 2 ^ 62)
 have hsz : ∀ o ∈ syncT k s fs last, OpSized o := sized_commit (by omega) ho.wok
 have hs := h.quiet.slots.two
 refine ⟨fun p q e l' c => ?_, ?_⟩
 ·have hszp : Sized (exec p l) := h.sized.exec fun o hp => hsz o (by rw [e]; simp [hp])
  have hsz' : Sized l' := fun i b hb => by
   obtain ⟨c1, c2⟩ := c i
   rw [Cell.poss, c1, List.mem_singleton] at hb
   subst hb
   exact hszp i _ c2
  have hR : ∀ {k'}, Recov l' k' (blkOf (dirB last)) → Rest l' room k' last := fun hr => ⟨hfew, hr, hsz', h.was, fun i => (c i).1, fun x hx => h.sure x hx _ fun b => by
   obtain ⟨c1, c2⟩ := c (36 + b)
   show (l' (36 + b)).view ∈ _
   rw [Cell.view, c1]
   refine (poss_exec p fun o hp => ?_).2 _ c2
   exact not_commit ho.wok ho.low hs (by omega) o (by rw [show commitT (k + 1) s (writesF (dirB last) (dirB fs)) = p ++ q from e]; simp [hp])⟩
  rcases h1 p q e l' c with hr | ⟨hr, hi⟩
  ·exact ⟨k, by omega, .inl (hR hr)⟩
  ·have hF : ∀ {k'}, Recov l' k' (blkOf (dirB fs)) → Rest l' room k' fs := fun hr => ⟨hfew, hr, hsz', h.now, fun i => (c i).1, fun x hx => (h.holds x hx).congr fun b _ => by
    show (l' (36 + b)).view = (l (36 + b)).view
    rw [hi _ (by omega)]; rfl⟩
   rcases hr with hr | hr
   ·exact ⟨k, by omega, .inr (hF hr)⟩
   ·exact ⟨k + 1, by omega, .inr (hF hr)⟩
 ·have hH : ∀ x ∈ fs, Holds (dataV (exec (syncT k s fs last) l)) x.2 := fun x hx => (h.holds x hx).congr fun b _ => by
   show (exec (syncT k s fs last) l (36 + b)).view = _
   unfold syncT
   rw [h3 _ (by omega)]; rfl
  exact ⟨hfew, h2, h.sized.exec hsz, h.now, h.now, hH, fun x hx => sure_of_still (hH x hx) fun b _ => by unfold syncT; rw [h3 _ (by omega)], h.now.kin⟩
theorem Rest.mount {l : Nat → Cell} {room k : Nat} {fs : Files} (h : Rest l room k fs) (hk : k < 2 ^ 61) : ∃ s w, s < 2 ∧ WOk w ∧ (∀ x ∈ w, x.1 < 16) ∧ ((w = [] ∧ Quiet l k s (blkOf (dirB fs))) ∨ Redo l k s w (blkOf (dirB fs))) ∧
  Along (fun l1 => ∀ l', CrashOf l1 l' → ∃ k', k' ≤ k + 1 ∧ Rest l' room k' fs) (openT k s w) l ∧ FsInv (exec (openT k s w) l) room (k + 1) (1 - s) fs fs := by
 have hfew := h.few
 have hmain : ∀ {s w}, s < 2 → WOk w → (∀ x ∈ w, x.1 < 16) → Along (Opens k (blkOf (dirB fs))) (openT k s w) l → Quiet (exec (openT k s w) l) (k + 1) (1 - s) (blkOf (dirB fs)) →
   Along (fun l1 => ∀ l', CrashOf l1 l' → ∃ k', k' ≤ k + 1 ∧ Rest l' room k' fs) (openT k s w) l ∧ FsInv (exec (openT k s w) l) room (k + 1) (1 - s) fs fs := by
  intro s w hs hw hl h1 h2
  have hsz : ∀ o ∈ openT k s w, OpSized o := sized_open (by omega) hw
  have hst : ∀ i, 36 ≤ i → ∀ t q, openT k s w = t ++ q → exec t l i = l i := by
   intro i hi t q e
   have hp := h.pend i
   have e0 : l i = ⟨(l i).safe, []⟩ := by cases hc : l i with | mk a p => rw [hc] at hp; simp at hp; rw [hp]
   have := still_exec t e0 fun o ho => not_open hl hs hi o (by rw [e]; simp [ho])
   rw [this, ← e0]
  refine ⟨fun p q e l' c => ?_, ?_⟩
  ·have hszp : Sized (exec p l) := h.sized.exec fun o hp => hsz o (by rw [e]; simp [hp])
   have hF : ∀ {k'}, Recov l' k' (blkOf (dirB fs)) → Rest l' room k' fs := fun hr => ⟨hfew, hr, fun i b hb => by
     obtain ⟨c1, c2⟩ := c i
     rw [Cell.poss, c1, List.mem_singleton] at hb
     subst hb
     exact hszp i _ c2, h.ok, fun i => (c i).1, fun x hx => (h.holds x hx).congr fun b _ => by
    show (l' (36 + b)).view = (l (36 + b)).view
    have e1 := hst (36 + b) (by omega) p q e
    rw [c.still (by rw [e1]; exact h.pend _), e1]⟩
   rcases h1 p q e l' c with hr | hr
   ·exact ⟨k, by omega, hF hr⟩
   ·exact ⟨k + 1, by omega, hF hr⟩
  ·have e1 : ∀ i, 36 ≤ i → exec (openT k s w) l i = l i := fun i hi => hst i hi _ [] (by simp)
   have hH : ∀ x ∈ fs, Holds (dataV (exec (openT k s w) l)) x.2 := fun x hx => (h.holds x hx).congr fun b _ => by
    show (exec (openT k s w) l (36 + b)).view = _
    rw [e1 _ (by omega)]; rfl
   exact ⟨hfew, h2, h.sized.exec hsz, h.ok, h.ok, hH, fun x hx => sure_of_still (hH x hx) fun b _ => by rw [e1 _ (by omega)]; exact h.pend _, h.ok.kin⟩
 obtain ⟨s, hq | ⟨w, hr⟩⟩ := h.recov
 ·obtain ⟨h1, h2⟩ := quiet_open hq (by omega : k < 2 ^ 62)
  have hw : WOk [] := ⟨by simp, by simp, by simp⟩
  exact ⟨s, [], hq.slots.two, hw, by simp, .inl ⟨rfl, hq⟩, hmain hq.slots.two hw (by simp) h1 h2⟩
 ·obtain ⟨h1, h2⟩ := redo_open hr (by omega : k < 2 ^ 62)
  exact ⟨s, w, hr.slots.two, hr.wok, hr.low, .inr hr, hmain hr.slots.two hr.wok hr.low h1 h2⟩
end Go.Proofs.YtgpefiacbipfpaaGreatDoor

namespace Go.Proofs.YtgpefiacbipfpaaGreatDoor
open Go.RowKit
def Obj.put (o : Nat) (v : Value) : Obj → Obj
 | .cells c e f => .cells (c.setIfInBounds o v) e f
 | x => x
theorem heap_setCell (w : World) (b o : Nat) (v : Value) (k : Nat) :
  (w.setCell ⟨b, o, none⟩ v).heap[k]? = if k = b then (w.heap[k]?).map (Obj.put o v) else w.heap[k]? := by
 simp only [World.setCell, Array.getElem?_modify]
 by_cases h : b = k
 ·subst h
  simp only [if_true]
  cases w.heap[b]? with
  | none => rfl
  | some x => cases x <;> rfl
 ·rw [if_neg h, if_neg (fun e => h e.symm)]
theorem heap_alloc (w : World) (o : Obj) (k : Nat) : (w.alloc o).heap[k]? = if k = w.heap.size then some o else w.heap[k]? := by
 show (w.heap.push o)[k]? = _
 rw [Array.getElem?_push]
theorem heap_drew (w : World) : w.drew.heap = w.heap := rfl
theorem cell_blk {w : World} {b : Nat} {c : Array Value} {e : TypeId} {f : Nat × Nat} (h : w.heap[b]? = some (.cells c e f)) (o : Nat) : w.cell? ⟨b, o, none⟩ = c[o]? := by
 simp [World.cell?, h]
theorem frozen_blk {w : World} {b : Nat} {c : Array Value} {e : TypeId} (h : w.heap[b]? = some (.cells c e (0, 0))) (o : Nat) : w.frozen? ⟨b, o, none⟩ = false := by
 simp [World.frozen?, h]
theorem lt_of_blk {w : World} {b : Nat} {o : Obj} (h : w.heap[b]? = some o) : b < w.heap.size := by
 rcases Nat.lt_or_ge b w.heap.size with h' | h'
 ·exact h'
 ·simp [Array.getElem?_eq_none h'] at h
structure Upd (F : List Nat) (w w' : World) : Prop where
 os : w'.os = w.os
 output : w'.output = w.output
 size : w.heap.size ≤ w'.heap.size
 block : ∀ k, k < w.heap.size → k ∉ F → w'.heap[k]? = w.heap[k]?
theorem Upd.refl (F : List Nat) (w : World) : Upd F w w := ⟨rfl, rfl, Nat.le_refl _, fun _ _ _ => rfl⟩
theorem Upd.trans {F : List Nat} {a b c : World} (h : Upd F a b) (g : Upd F b c) : Upd F a c :=
 ⟨g.os.trans h.os, g.output.trans h.output, Nat.le_trans h.size g.size, fun k hk hn => (g.block k (Nat.lt_of_lt_of_le hk h.size) hn).trans (h.block k hk hn)⟩
theorem Upd.next {F G : List Nat} {a b c : World} (h : Upd F a b) (g : Upd G b c) (hs : ∀ k, k ∈ G → k < a.heap.size → k ∈ F) : Upd F a c :=
 ⟨g.os.trans h.os, g.output.trans h.output, Nat.le_trans h.size g.size, fun k hk hn => (g.block k (Nat.lt_of_lt_of_le hk h.size) (fun q => hn (hs k q hk))).trans (h.block k hk hn)⟩
theorem Upd.mono {F G : List Nat} {w w' : World} (h : Upd F w w') (hs : ∀ k, k ∈ F → k < w.heap.size → k ∈ G) : Upd G w w' :=
 ⟨h.os, h.output, h.size, fun k hk hn => h.block k hk (fun hf => hn (hs k hf hk))⟩
theorem Upd.alike {F : List Nat} {w w' w'' : World} (h : Upd F w w') (g : w''.Alike w') : Upd F w w'' :=
 ⟨g.2.1.trans h.os, g.2.2.trans h.output, by rw [g.1]; exact h.size, fun k hk hn => by rw [g.1]; exact h.block k hk hn⟩
theorem Upd.setCell {F : List Nat} {w w' : World} (h : Upd F w w') {b : Nat} (hb : b ∈ F) (o : Nat) (v : Value) : Upd F w (w'.setCell ⟨b, o, none⟩ v) :=
 h.trans ⟨rfl, rfl, by simp, fun k _ hn => by rw [heap_setCell, if_neg (by rintro rfl; exact hn hb)]⟩
theorem Upd.setCellNew {F : List Nat} {w w' : World} (h : Upd F w w') {b : Nat} (hb : w.heap.size ≤ b) (o : Nat) (v : Value) : Upd F w (w'.setCell ⟨b, o, none⟩ v) :=
 ⟨h.os, h.output, by simpa using h.size, fun k hk hn => by rw [heap_setCell, if_neg (by omega)]; exact h.block k hk hn⟩
theorem Upd.alloc {F : List Nat} {w w' : World} (h : Upd F w w') (o : Obj) : Upd F w (w'.alloc o) :=
 h.trans ⟨rfl, rfl, by simp, fun k hk _ => by rw [heap_alloc, if_neg (by omega)]⟩
theorem Upd.drew {F : List Nat} {w w' : World} (h : Upd F w w') : Upd F w w'.drew := ⟨h.os, h.output, h.size, h.block⟩
theorem alike_drew (w : World) : w.drew.Alike w := ⟨rfl, rfl, rfl⟩
theorem alike_refl (w : World) : w.Alike w := ⟨rfl, rfl, rfl⟩
theorem bytes_beq (a b : ByteArray) : (a == b) = decide (a = b) := by
 cases a with | mk a => cases b with | mk b =>
 rw [Bool.eq_iff_iff]
 show ByteArray.beq ⟨a⟩ ⟨b⟩ = true ↔ _
 simp only [ByteArray.beq, decide_eq_true_eq, ByteArray.mk.injEq]
 exact beq_iff_eq
theorem Upd.grown {F : List Nat} {w a b : World} {row : Option Nat} (h : Upd F w a) (hg : a.grownBy b row) (hr : ∀ k, row = some k → w.heap.size ≤ k) : Upd F w b :=
 ⟨hg.os.trans h.os, hg.output.trans h.output, Nat.le_trans h.size hg.size, fun k hk hn => (hg.block k (Nat.lt_of_lt_of_le hk h.size) (fun e => by have := hr k e.symm; omega)).trans (h.block k hk hn)⟩
theorem own_upd {F : List Nat} {w w' : World} {base : Nat} {e : TypeId} {size : Nat} {v : Value} {n : Nat} {xs : List Value} (h : w.ownsRow base e size v n xs) (u : Upd F w w') (hF : ∀ k ∈ F, v.ownBlock ≠ some k) : w'.ownsRow base e size v n xs := by
 have hlt := h.lt
 obtain ⟨h1, h2⟩ := h
 refine ⟨h1, ?_⟩
 rcases h2 with h2 | ⟨g, cap, cur, hv, hg, hh, r⟩
 ·exact Or.inl h2
 ·subst hv
  have := (hlt g rfl).2
  exact Or.inr ⟨g, cap, cur, rfl, hg, by rw [u.block g this (fun q => hF g q rfl)]; exact hh, r⟩
theorem Upd.below {F : List Nat} {w a b : World} (h : Upd F w a) {B : Nat} (g : Below B a b) (hB : w.heap.size ≤ B) : Upd F w b :=
 ⟨g.os.trans h.os, g.output.trans h.output, Nat.le_trans h.size g.size, fun k hk hn => (g.block k (Nat.lt_of_lt_of_le hk hB)).trans (h.block k hk hn)⟩
theorem cell_keep {w w' : World} (u : Upd [] w w') {b o : Nat} {v : Value} (h : w.cell? ⟨b, o, none⟩ = some v) : w'.cell? ⟨b, o, none⟩ = some v :=
 (World.cell?_of_block (u.block b (World.block_lt_of_cell? _ _ h) (by simp))).trans h
def SlAt {α : Type} (k : Nat) (At : World → Nat → Nat → α → Prop) (w : World) (v : Value) (l : List α) : Prop :=
 ∃ a cap, v = .slice a l.length cap ∧ l.length ≤ cap ∧ cap ≤ maxLen ∧ ∀ i (h : i < l.length), ∃ b off, a = some ⟨b, off, none⟩ ∧ At w b (off + i * k) l[i]
section
variable {α : Type}
def flatG (f : α → List Value) (l : List α) : List Value := l.flatMap f
structure RowT (f : α → List Value) (k bytes : Nat) (st e : TypeId) : Prop where
 len : ∀ x, (f x).length = k
 pos : 0 < k
 und : Tryz.prog.underlying st = some (.slice e)
 info : ∃ i z, Tryz.prog.info? e = some i ∧ i.zero = some z ∧ i.size = k ∧ i.bytes = bytes ∧ z.cells.size = k
variable {f : α → List Value} {k bytes : Nat} {st e : TypeId}
theorem flatG_len (T : RowT f k bytes st e) (l : List α) : (flatG f l).length = l.length * k := by
 induction l with
 | nil => simp [flatG]
 | cons x l ih =>
  simp only [flatG, List.flatMap_cons, List.length_append, List.length_cons] at ih ⊢
  rw [ih, T.len, Nat.add_mul]
  omega
theorem flatG_app (l r : List α) : flatG f (l ++ r) = flatG f l ++ flatG f r := by simp [flatG]
theorem flatG_one {l : List α} (h : ∀ x ∈ l, ∀ u ∈ f x, u.oneCell' = true) : ∀ u ∈ flatG f l, u.oneCell' = true := by
 intro u hu
 obtain ⟨x, hx, hu⟩ := List.mem_flatMap.1 hu
 exact h x hx u hu
theorem flatG_at (T : RowT f k bytes st e) : ∀ (l : List α) (i : Nat) (hi : i < l.length) (j : Nat), j < k → (flatG f l)[i * k + j]? = (f l[i])[j]? := by
 intro l
 induction l with
 | nil => intro i hi; simp at hi
 | cons x l ih =>
  intro i hi j hj
  have e0 : flatG f (x :: l) = f x ++ flatG f l := rfl
  rw [e0]
  cases i with
  | zero =>
   rw [List.getElem?_append_left (by rw [T.len]; omega)]
   simp
  | succ i =>
   have h := ih i (by simpa using hi) j hj
   rw [List.getElem?_append_right (by rw [T.len, Nat.succ_mul]; omega), T.len]
   simp only [List.getElem_cons_succ]
   rw [← h]
   congr 1
   rw [Nat.succ_mul]
   omega
def CellsAt (f : α → List Value) (w : World) (b o : Nat) (x : α) : Prop := ∀ j u, (f x)[j]? = some u → w.cell? ⟨b, o + j, none⟩ = some u
theorem CellsAt.same {w w' : World} {b o : Nat} {x : α} (h : CellsAt f w b o x) (e : w'.heap[b]? = w.heap[b]?) : CellsAt f w' b o x := fun j u hu => (World.cell?_of_block e).trans (h j u hu)
def SrcG (f : α → List Value) (w : World) (A : Option Addr) (r : List α) : Prop := (A = none → r = []) ∧ ∀ ad, A = some ad → ∀ j u, (flatG f r)[j]? = some u → w.cell? (ad.add j) = some u
theorem add_plainG (b o j : Nat) : (⟨b, o, none⟩ : Addr).add j = ⟨b, o + j, none⟩ := by
 unfold Addr.add
 split
 ·subst_vars; rfl
 ·rfl
def OwnG (f : α → List Value) (e : TypeId) (k : Nat) (w : World) (base : Nat) (v : Value) (l : List α) : Prop := w.ownsRow base e k v l.length (flatG f l)
theorem OwnG.nil (w : World) (base : Nat) : OwnG f e k w base (.slice none 0 0) [] := World.ownsRow_nil _ _ _ _
theorem OwnG.empty (_T : RowT f k bytes st e) {w : World} {B base : Nat} (hB : w.heap[B]? = some (.cells #[] e (0, 0))) (hb : base ≤ B) : OwnG f e k w base (.slice (some ⟨B, 0, none⟩) 0 0) [] :=
 ⟨by simp [flatG], .inr ⟨B, 0, #[], rfl, hb, hB, Nat.le_refl _, by unfold maxLen; omega, by simp, by simp [flatG]⟩⟩
theorem append_G (T : RowT f k bytes st e) {w : World} {base : Nat} {v : Value} {l : List α} (hown : OwnG f e k w base v l) {A : Option Addr} (c : Nat) {r : List α} (hr : SrcG f w A r) (hs : ∀ x ∈ r, ∀ u ∈ f x, u.oneCell' = true) (hb : (l.length + r.length) * bytes ≤ 140737488355328) (h63 : l.length + r.length ≤ 140737488355328) (hbase : base ≤ w.heap.size) (ty : TypeId) :
  ∃ v' w', (Builtin.append_ #[st, st] ty #[v, .slice A r.length c]).run Tryz.prog w = .ok v' w' ∧ OwnG f e k w' base v' (l ++ r) ∧ w.grownBy w' v.ownBlock ∧ (v'.ownBlock = v.ownBlock ∨ ∀ g, v'.ownBlock = some g → w.heap.size ≤ g) := by
 obtain ⟨i0, z, hi0, hz0, hz1, hz2, hz3⟩ := T.info
 rcases A with _ | ad
 ·obtain rfl := hr.1 rfl
  refine ⟨v, w, ?_, by simpa [OwnG] using hown, World.grownBy.refl w _, Or.inl rfl⟩
  rcases hown.2 with ⟨rfl, hn⟩ | ⟨g, cap, cur, rfl, _, _, hnc, _⟩
  ·simp [Builtin.append_, run_underlying T.und, sizeOf, typeInfo, hi0, Builtin.lenOf, Builtin.firstCells]
  ·simp [Builtin.append_, run_underlying T.und, sizeOf, typeInfo, hi0, Builtin.lenOf, Builtin.firstCells, hnc, storeCells]
 ·obtain ⟨v', w', hrun, h2, h3, _, h5⟩ := run_append_own_at (P := Tryz.prog) w base st ty e i0 z k bytes T.und hi0 hz0 hz1 hz2 hz3 T.pos v l.length (flatG f l) hown ad r.length c (flatG f r) (flatG_len T r) (hr.2 ad rfl) (flatG_one hs) (by unfold maxLen; omega) hb hbase
  refine ⟨v', w', hrun, by unfold OwnG; rw [flatG_app, List.length_append]; exact h2, h3, ?_⟩
  rcases h5 with h5 | h5
  ·exact Or.inl h5
  ·exact Or.inr fun g hg => by rw [h5] at hg; cases hg; exact Nat.le_refl _
theorem wpList_append_G (T : RowT f k bytes st e) {w : World} {ops : Array Oper} {rest : List Oper} {o : Oper} {a : Act} {Q : Exit → Act → World → Prop} (hgd : o.guard = none) (s x : Operand)
  (ho : o.op = .call { callee := .builtin .append, args := #[s, x], argTypes := #[st, st] }) {base : Nat} {v : Value} {l : List α} (hs : a.eval s = v) (hown : OwnG f e k w base v l)
  {A : Option Addr} {c : Nat} {r : List α} (hx : a.eval x = .slice A r.length c) (hr : SrcG f w A r) (hsl : ∀ x ∈ r, ∀ u ∈ f x, u.oneCell' = true) (hb : (l.length + r.length) * bytes ≤ 140737488355328) (h63 : l.length + r.length ≤ 140737488355328) (hbase : base ≤ w.heap.size)
  (h : ∀ v' w', OwnG f e k w' base v' (l ++ r) → w.grownBy w' v.ownBlock → (v'.ownBlock = v.ownBlock ∨ ∀ g, v'.ownBlock = some g → w.heap.size ≤ g) → wpList Tryz.prog ops Q rest (a.put o.dst v') w') : wpList Tryz.prog ops Q (o :: rest) a w :=
 wpList_plain hgd fun K hK => by
  obtain ⟨v', w', hrun, h2, h3, h4⟩ := append_G T hown c hr hsl hb h63 hbase o.type
  unfold Oper.wp execOp
  simp only [ho, resolve, invoke, builtin, Sem.run_bind, Sem.run_pure, Result.andThen_ok, List.map_toArray, List.map_cons, List.map_nil, hs, hx, hrun]
  exact hK _ _ (h v' w' h2 h3 h4)
theorem OwnG.slice {w : World} {base : Nat} {v : Value} {l : List α} (h : OwnG f e k w base v l) : ∃ a c, v = .slice a l.length c := by
 rcases h.2 with ⟨rfl, hn⟩ | ⟨g, cap, cur, rfl, -⟩
 ·exact ⟨none, 0, by rw [hn]⟩
 ·exact ⟨_, _, rfl⟩
theorem OwnG.src (T : RowT f k bytes st e) {w : World} {base : Nat} {a : Option Addr} {n c : Nat} {l : List α} (h : OwnG f e k w base (.slice a n c) l) : SrcG f w a l := by
 obtain ⟨h0, h2⟩ := h
 rcases h2 with ⟨hv, hn⟩ | ⟨g, cap, cur, hv, hg, hh, r1, r2, r3, r4⟩
 ·have : l = [] := List.eq_nil_of_length_eq_zero hn
  subst this
  exact ⟨fun _ => rfl, fun ad _ j u hu => by simp [flatG] at hu⟩
 ·simp only [Value.slice.injEq] at hv
  obtain ⟨rfl, -, -⟩ := hv
  refine ⟨fun q => absurd q (by simp), fun ad q j u hu => ?_⟩
  cases q
  have hj : j < l.length * k := by
   rcases Nat.lt_or_ge j (l.length * k) with h | h
   ·exact h
   ·rw [List.getElem?_eq_none (by rw [flatG_len T]; exact h)] at hu; cases hu
  rw [add_plainG, cell_blk hh, Nat.zero_add, ← Array.getElem?_toList]
  have : (cur.toList.take (l.length * k))[j]? = (flatG f l)[j]? := by rw [r4]
  rw [List.getElem?_take_of_lt hj] at this
  rw [this]
  exact hu
theorem OwnG.at (T : RowT f k bytes st e) {w : World} {base : Nat} {a : Option Addr} {n c : Nat} {l : List α} (h : OwnG f e k w base (.slice a n c) l) : n = l.length ∧ n ≤ c ∧ c ≤ maxLen ∧ ∀ i (_ : i < l.length), ∃ g, a = some ⟨g, 0, none⟩ ∧ base ≤ g ∧ (∀ o, w.frozen? ⟨g, o, none⟩ = false) ∧ CellsAt f w g (i * k) l[i] := by
 have hs := h.src T
 obtain ⟨h0, h2⟩ := h
 rcases h2 with ⟨hv, hn⟩ | ⟨g, cap, cur, hv, hg, hh, r1, r2, r3, r4⟩
 ·have : l = [] := List.eq_nil_of_length_eq_zero hn
  subst this
  simp only [Value.slice.injEq] at hv
  obtain ⟨-, rfl, rfl⟩ := hv
  exact ⟨rfl, by omega, by unfold maxLen; omega, fun i hi => absurd hi (by simp)⟩
 ·simp only [Value.slice.injEq] at hv
  obtain ⟨rfl, rfl, rfl⟩ := hv
  refine ⟨rfl, r1, r2, fun i hi => ⟨g, rfl, hg, frozen_blk hh, fun j u hu => ?_⟩⟩
  have hj : j < k := by
   rcases Nat.lt_or_ge j k with h | h
   ·exact h
   ·rw [List.getElem?_eq_none (by rw [T.len]; exact h)] at hu; cases hu
  have := hs.2 ⟨g, 0, none⟩ rfl (i * k + j) u (by rw [flatG_at T l i hi j hj]; exact hu)
  rwa [add_plainG, Nat.zero_add] at this
theorem OwnG.base {w : World} {a b : Nat} {v : Value} {l : List α} (h : OwnG f e k w a v l) (hb : b ≤ a) : OwnG f e k w b v l := by
 obtain ⟨h1, h2⟩ := h
 refine ⟨h1, ?_⟩
 rcases h2 with h2 | ⟨g, cap, cur, e, hge, r⟩
 ·exact .inl h2
 ·exact .inr ⟨g, cap, cur, e, Nat.le_trans hb hge, r⟩
theorem OwnG.upd {F : List Nat} {w w' : World} {base : Nat} {v : Value} {l : List α} (h : OwnG f e k w base v l) (u : Upd F w w') (hF : ∀ j ∈ F, v.ownBlock ≠ some j) : OwnG f e k w' base v l := own_upd h u hF
theorem OwnG.sl (T : RowT f k bytes st e) {w : World} {base : Nat} {v : Value} {l : List α} (h : OwnG f e k w base v l) : SlAt k (CellsAt f) w v l := by
 obtain ⟨a, c, rfl⟩ := h.slice
 obtain ⟨-, h1, h2, h3⟩ := h.at T
 exact ⟨a, c, rfl, h1, h2, fun i hi => by obtain ⟨g, e, -, -, hc⟩ := h3 i hi; exact ⟨g, 0, e, by rw [Nat.zero_add]; exact hc⟩⟩
theorem OwnG.block {w : World} {base : Nat} {v : Value} {l : List α} (h : OwnG f e k w base v l) : ∀ g, v.ownBlock = some g → base ≤ g ∧ g < w.heap.size := fun g hg => World.ownsRow.lt h g hg
theorem SlAt.srcG (T : RowT f k bytes st e) {At : World → Nat → Nat → α → Prop} {w : World} {a : Option Addr} {n cap : Nat} {l : List α} (hA : ∀ b o x, At w b o x → CellsAt f w b o x) (h : SlAt k At w (.slice a n cap) l) : SrcG f w a l := by
 obtain ⟨a', cap', hv, h1, h2, h3⟩ := h
 simp only [Value.slice.injEq] at hv
 obtain ⟨rfl, rfl, rfl⟩ := hv
 refine ⟨fun q => ?_, fun ad q j u hu => ?_⟩
 ·cases l with
  | nil => rfl
  | cons x l => obtain ⟨b, off, e, _⟩ := h3 0 (by simp); rw [q] at e; cases e
 ·have hj : j < l.length * k := by
   rcases Nat.lt_or_ge j (l.length * k) with h | h
   ·exact h
   ·rw [List.getElem?_eq_none (by rw [flatG_len T]; exact h)] at hu; cases hu
  have hk := T.pos
  have hi : j / k < l.length := Nat.div_lt_of_lt_mul (by rw [Nat.mul_comm]; exact hj)
  obtain ⟨b, off, e, hx⟩ := h3 (j / k) hi
  rw [q] at e
  cases e
  have hm : j % k < k := Nat.mod_lt _ hk
  have e2 : j / k * k + j % k = j := by rw [Nat.mul_comm]; exact Nat.div_add_mod j k
  rw [add_plainG]
  have := hA _ _ _ hx (j % k) u (by rw [← flatG_at T l (j / k) hi (j % k) hm, e2]; exact hu)
  rw [Nat.add_assoc, e2] at this
  exact this
end
end Go.Proofs.YtgpefiacbipfpaaGreatDoor
