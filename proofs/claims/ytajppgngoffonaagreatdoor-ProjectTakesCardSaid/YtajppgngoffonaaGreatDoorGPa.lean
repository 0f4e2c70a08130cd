/- Projections, in mind: rows in the order of their keys, and what is added to them. Projections, in mind: expressions in memory of their own, as far as they may be long; whether one names a field of a state. Projections, in mind: what may be, and what an event does to rows. Rows of structs of k cells: in memory, and of the call's own. -/
import Derived.Maps.Ext
import Derived.Maps.AppendAt
import Derived.Test.YtajppgngoffonaaGreatDoorGXs
import Derived.Test.YtajppgngoffonaaGreatDoorGIt
import Derived.Test.YtajppgngoffonaaGreatDoorGSh
namespace Go.Proofs.YtajppgngoffonaaGreatDoor
open Go.RowKit

theorem ltB_data (a b : ByteArray) : ltB a b = Op.bytesLess a.data.toList b.data.toList := by unfold ltB; rw [ByteArray.toList_eq, ByteArray.toList_eq]
theorem ltB_irrefl (a : ByteArray) : ltB a a = false := bl_irrefl _
theorem ltB_trans {a b c : ByteArray} (h : ltB a b = true) (g : ltB b c = true) : ltB a c = true := bl_trans _ _ _ h g
theorem ltB_total (a b : ByteArray) : a = b ∨ ltB a b = true ∨ ltB b a = true := by
  rcases bl_total a.toList b.toList with h | h
  · exact Or.inl (toList_inj h)
  · exact Or.inr h
theorem ltB_asymm {a b : ByteArray} (h : ltB a b = true) : ltB b a = false := by
  cases g : ltB b a with
  | false => rfl
  | true => have := ltB_trans h g; rw [ltB_irrefl] at this; cases this
theorem ltB_ne {a b : ByteArray} (h : ltB a b = true) : a ≠ b := by
  rintro rfl
  rw [ltB_irrefl] at h
  cases h

/-- A row of a view. -/
structure Rw where
  key : ByteArray
  n : Int

def RSrt (l : List Rw) : Prop := l.Pairwise fun x y => ltB x.key y.key = true

def posR (l : List Rw) (k : ByteArray) : Nat := (l.takeWhile fun x => ltB x.key k).length
def getR (l : List Rw) (k : ByteArray) : Option Int := (l.find? fun x => decide (x.key = k)).map (·.n)
def putR : List Rw → ByteArray → Int → List Rw
  | [], k, n => [⟨k, n⟩]
  | x :: l, k, n => if ltB x.key k then x :: putR l k n else if x.key = k then ⟨k, n⟩ :: l else ⟨k, n⟩ :: x :: l

def addR (l : List Rw) (k : ByteArray) (n : Int) : List Rw :=
  if 200 < k.size ∨ withinB n = false then l
  else match getR l k with
    | some m => if withinB (m + n) then putR l k (m + n) else l
    | none => if 200 ≤ l.length then l else putR l k n

theorem posR_le (l : List Rw) (k : ByteArray) : posR l k ≤ l.length := (List.takeWhile_prefix _).length_le

theorem posR_cons (x : Rw) (l : List Rw) (k : ByteArray) : posR (x :: l) k = if ltB x.key k then posR l k + 1 else 0 := by
  unfold posR
  rw [List.takeWhile_cons]
  split <;> simp

/-- Where the document looks. -/
theorem posR_lt {l : List Rw} {k : ByteArray} : ∀ {i : Nat} (hi : i < l.length), i < posR l k → ltB l[i].key k = true := by
  induction l with
  | nil => intro i hi; simp at hi
  | cons x l ih =>
    intro i hi h
    rw [posR_cons] at h
    split at h
    · cases i with
      | zero => assumption
      | succ i => exact ih (by simpa using hi) (by omega)
    · omega

theorem posR_at {l : List Rw} {k : ByteArray} (h : posR l k < l.length) : ltB (l[posR l k]).key k = false := by
  induction l with
  | nil => simp at h
  | cons x l ih =>
    by_cases hx : ltB x.key k = true
    · have e : posR (x :: l) k = posR l k + 1 := by rw [posR_cons, if_pos hx]
      have h' : posR l k < l.length := by rw [e] at h; simpa using h
      have := ih h'
      simp only [e, List.getElem_cons_succ]
      exact this
    · have e : posR (x :: l) k = 0 := by rw [posR_cons, if_neg hx]
      simp only [e, List.getElem_cons_zero]
      simpa using hx

theorem posR_stop {l : List Rw} {k : ByteArray} {i : Nat} (hi : i ≤ l.length) (hb : ∀ j (hj : j < i) (hl : j < l.length), ltB l[j].key k = true) (he : ∀ h : i < l.length, ltB l[i].key k = false) : posR l k = i := by
  rcases Nat.lt_trichotomy (posR l k) i with h | h | h
  · have h1 := posR_at (l := l) (k := k) (by omega)
    rw [hb _ h (by omega)] at h1
    cases h1
  · exact h
  · have hl := posR_le l k
    have h1 := posR_lt (l := l) (k := k) (i := i) (by omega) h
    rw [he (by omega)] at h1
    cases h1

theorem getR_none_iff {l : List Rw} {k : ByteArray} : getR l k = none ↔ ∀ x ∈ l, x.key ≠ k := by
  unfold getR
  simp

theorem RSrt.tail {x : Rw} {l : List Rw} (h : RSrt (x :: l)) : RSrt l := (List.pairwise_cons.1 h).2
theorem RSrt.head {x : Rw} {l : List Rw} (h : RSrt (x :: l)) : ∀ y ∈ l, ltB x.key y.key = true := (List.pairwise_cons.1 h).1

/-- A key that is there stands where the document looks. -/
theorem getR_pos {l : List Rw} (h : RSrt l) (k : ByteArray) : getR l k = if hp : posR l k < l.length then (if (l[posR l k]).key = k then some (l[posR l k]).n else none) else none := by
  induction l with
  | nil => simp [getR]
  | cons x l ih =>
    by_cases hx : ltB x.key k = true
    · have e : posR (x :: l) k = posR l k + 1 := by rw [posR_cons, if_pos hx]
      have hg : getR (x :: l) k = getR l k := by
        unfold getR
        rw [List.find?_cons_of_neg (by simpa using ltB_ne hx)]
      rw [hg, ih h.tail]
      simp only [e, List.length_cons, List.getElem_cons_succ, Nat.add_lt_add_iff_right]
    · have e : posR (x :: l) k = 0 := by rw [posR_cons, if_neg hx]
      simp only [e, List.length_cons, List.getElem_cons_zero, Nat.zero_lt_succ, dite_true]
      by_cases hk : x.key = k
      · rw [if_pos hk]
        unfold getR
        rw [List.find?_cons_of_pos (by simpa using hk)]
        rfl
      · rw [if_neg hk, getR_none_iff]
        intro y hy
        rcases List.mem_cons.1 hy with rfl | hy
        · exact hk
        · rintro rfl
          exact hx (h.head y hy)

theorem putR_mem {l : List Rw} {k : ByteArray} {n : Int} {y : Rw} (h : y ∈ putR l k n) : y = ⟨k, n⟩ ∨ y ∈ l := by
  induction l with
  | nil => simpa [putR] using h
  | cons x l ih =>
    simp only [putR] at h
    split at h
    · rcases List.mem_cons.1 h with rfl | h
      · right; simp
      · rcases ih h with h | h
        · exact Or.inl h
        · right; simp [h]
    · split at h
      · rcases List.mem_cons.1 h with rfl | h
        · exact Or.inl rfl
        · right; simp [h]
      · rcases List.mem_cons.1 h with rfl | h
        · exact Or.inl rfl
        · exact Or.inr h

theorem RSrt.put {l : List Rw} (h : RSrt l) (k : ByteArray) (n : Int) : RSrt (putR l k n) := by
  induction l with
  | nil => simp [putR, RSrt]
  | cons x l ih =>
    simp only [putR]
    split
    · rename_i hx
      refine List.pairwise_cons.2 ⟨fun y hy => ?_, ih h.tail⟩
      rcases putR_mem hy with rfl | hy
      · exact hx
      · exact h.head y hy
    · rename_i hx
      split
      · rename_i hk
        exact List.pairwise_cons.2 ⟨fun y hy => by have := h.head y hy; rwa [hk] at this, h.tail⟩
      · rename_i hk
        have hkx : ltB k x.key = true := by
          rcases ltB_total k x.key with e | e | e
          · exact absurd e.symm hk
          · exact e
          · exact absurd e hx
        refine List.pairwise_cons.2 ⟨fun y hy => ?_, h⟩
        rcases List.mem_cons.1 hy with rfl | hy
        · exact hkx
        · exact ltB_trans hkx (h.head y hy)

/-- The document puts a new row in its place. -/
theorem putR_new {l : List Rw} {k : ByteArray} (n : Int) (h : getR l k = none) : putR l k n = l.take (posR l k) ++ ⟨k, n⟩ :: l.drop (posR l k) := by
  induction l with
  | nil => rfl
  | cons x l ih =>
    have hx := getR_none_iff.1 h x (by simp)
    have hl : getR l k = none := getR_none_iff.2 fun y hy => getR_none_iff.1 h y (by simp [hy])
    simp only [putR, posR_cons]
    split
    · simp [ih hl]
    · simp [hx]

/-- .. and an elder one where it is. -/
theorem putR_old {l : List Rw} (hs : RSrt l) {k : ByteArray} (n : Int) (hp : posR l k < l.length) (hk : (l[posR l k]).key = k) : putR l k n = l.set (posR l k) ⟨k, n⟩ := by
  induction l with
  | nil => simp at hp
  | cons x l ih =>
    by_cases hx : ltB x.key k = true
    · have e : posR (x :: l) k = posR l k + 1 := by rw [posR_cons, if_pos hx]
      simp only [e, List.length_cons, Nat.add_lt_add_iff_right] at hp
      simp only [e, List.getElem_cons_succ] at hk
      simp only [putR, if_pos hx, e, List.set_cons_succ, ih hs.tail hp hk]
    · have e : posR (x :: l) k = 0 := by rw [posR_cons, if_neg hx]
      simp only [e, List.getElem_cons_zero] at hk
      simp only [putR, if_neg hx, if_pos hk, e, List.set_cons_zero]

theorem putR_len_new {l : List Rw} {k : ByteArray} (n : Int) (h : getR l k = none) : (putR l k n).length = l.length + 1 := by
  have := posR_le l k
  rw [putR_new n h]; simp; omega

theorem putR_len_old {l : List Rw} (hs : RSrt l) {k : ByteArray} {m : Int} (n : Int) (h : getR l k = some m) : (putR l k n).length = l.length := by
  rw [getR_pos hs] at h
  split at h
  · split at h
    · rw [putR_old hs n ‹_› ‹_›]; simp
    · cases h
  · cases h

/-- What rows are: rising, within bounds, few. -/
structure RGood (l : List Rw) : Prop where
  srt : RSrt l
  fit : ∀ x ∈ l, x.key.size ≤ 200 ∧ withinB x.n = true
  few : l.length ≤ 200

theorem RGood.nil : RGood [] := ⟨List.Pairwise.nil, by simp, by simp⟩

theorem getR_mem {l : List Rw} {k : ByteArray} {m : Int} (h : getR l k = some m) : (⟨k, m⟩ : Rw) ∈ l := by
  unfold getR at h
  cases hf : l.find? (fun x => decide (x.key = k)) with
  | none => rw [hf] at h; cases h
  | some x =>
    rw [hf] at h
    have h1 := List.mem_of_find?_eq_some hf
    have h2 := List.find?_some hf
    simp only [decide_eq_true_eq] at h2
    simp only [Option.map_some, Option.some.injEq] at h
    subst h2 h
    exact h1

theorem RGood.put {l : List Rw} (h : RGood l) {k : ByteArray} {n : Int} (hk : k.size ≤ 200) (hn : withinB n = true) (hl : (putR l k n).length ≤ 200) : RGood (putR l k n) :=
  ⟨h.srt.put k n, fun x hx => by
    rcases putR_mem hx with rfl | hx
    · exact ⟨hk, hn⟩
    · exact h.fit x hx, hl⟩

theorem RGood.add {l : List Rw} (h : RGood l) (k : ByteArray) (n : Int) : RGood (addR l k n) := by
  unfold addR
  split
  · exact h
  · rename_i h0
    have h1 : k.size ≤ 200 := by omega
    have h2 : withinB n = true := by
      cases g : withinB n with
      | true => rfl
      | false => exact absurd (Or.inr g) h0
    split
    · rename_i m hm
      split
      · rename_i hw
        exact h.put h1 hw (by rw [putR_len_old h.srt _ hm]; exact h.few)
      · exact h
    · rename_i hm
      split
      · exact h
      · exact h.put h1 h2 (by rw [putR_len_new _ hm]; omega)

/-- Rows as a map reads. -/
def entR {H : Type} (x : Rw) : Lit × DataW H := (.string x.key.data.toList, .lit (.int .i64 x.n))
def dataR {H : Type} (l : List Rw) : DataW H := .map (l.map entR)

theorem before_eq (a b : ByteArray) : (Lit.string a.data.toList).before (.string b.data.toList) = ltB a b := by
  rw [ltB_data]
  show bytesBefore _ _ = _
  generalize a.data.toList = x
  generalize b.data.toList = y
  induction x generalizing y with
  | nil => cases y <;> rfl
  | cons a x ih => cases y with
    | nil => rfl
    | cons b y => simp only [bytesBefore, Op.bytesLess, ih]

theorem sameKey_eq (a b : ByteArray) : (Lit.string a.data.toList).sameKey (.string b.data.toList) = decide (a = b) := by
  show (a.data.toList == b.data.toList) = _
  rw [← bytes_beq, beq_toListBytes, ByteArray.toList_eq, ByteArray.toList_eq]

theorem has_dataR {H : Type} (l : List Rw) (k : ByteArray) : Maps.has (dataR (H := H) l) (.string k.data.toList) = (getR l k).isSome := by
  unfold dataR getR
  rw [Maps.has_eq, List.any_map]
  induction l with
  | nil => rfl
  | cons x l ih =>
    rw [List.any_cons, List.find?_cons, ih]
    rw [show ((fun p : Lit × DataW H => p.1.sameKey (Lit.string k.data.toList)) ∘ entR) x = decide (x.key = k) from sameKey_eq _ _]
    by_cases h : x.key = k <;> simp [h]

theorem size_dataR {H : Type} (l : List Rw) : Maps.size (dataR (H := H) l) = l.length := by
  unfold dataR
  rw [Maps.size_eq, List.length_map]

theorem at_dataR {H : Type} (l : List Rw) (k : ByteArray) (z : DataW H) : (dataR l).atKey (.string k.data.toList) z = match getR l k with | some m => .lit (.int .i64 m) | none => z := by
  unfold dataR getR DataW.atKey
  dsimp only
  rw [List.find?_map]
  have : ((fun p : Lit × DataW H => p.1.sameKey (.string k.data.toList)) ∘ entR) = fun x : Rw => decide (x.key = k) := by
    funext x
    exact sameKey_eq _ _
  rw [this]
  cases l.find? (fun x => decide (x.key = k)) <;> rfl

theorem put_dataR {H : Type} {l : List Rw} (hs : RSrt l) (k : ByteArray) (n : Int) : (dataR (H := H) l).put (.string k.data.toList) (.lit (.int .i64 n)) = dataR (putR l k n) := by
  unfold dataR DataW.put
  dsimp only
  congr 1
  rw [List.filter_map]
  have : ((fun p : Lit × DataW H => !p.1.sameKey (.string k.data.toList)) ∘ entR) = fun x : Rw => !decide (x.key = k) := by
    funext x
    show (!Lit.sameKey _ _) = _
    rw [show (entR (H := H) x).1 = .string x.key.data.toList from rfl, sameKey_eq]
  rw [this]
  show DataW.insert (entR ⟨k, n⟩) _ = _
  induction l with
  | nil => rfl
  | cons x l ih =>
    simp only [putR]
    by_cases hx : ltB x.key k = true
    · have hne := ltB_ne hx
      rw [if_pos hx, List.filter_cons_of_pos (by simpa using hne), List.map_cons, List.map_cons, DataW.insert, show (entR (H := H) ⟨k, n⟩).1.before (entR (H := H) x).1 = ltB k x.key from before_eq _ _, ltB_asymm hx, if_neg (by simp), ih hs.tail]
    · rw [if_neg hx]
      have hl : l.filter (fun x => !decide (x.key = k)) = l := by
        rw [List.filter_eq_self]
        intro y hy
        have h1 := hs.head y hy
        simp only [Bool.not_eq_true', decide_eq_false_iff_not]
        rintro rfl
        exact hx h1
      by_cases hk : x.key = k
      · rw [if_pos hk, List.filter_cons_of_neg (by simpa using hk), hl]
        cases l with
        | nil => rfl
        | cons y l =>
          have h1 := hs.head y (by simp)
          rw [List.map_cons, DataW.insert, show (entR (H := H) ⟨k, n⟩).1.before (entR (H := H) y).1 = ltB k y.key from before_eq _ _, ← hk, h1]
          simp
      · have hkx : ltB k x.key = true := by
          rcases ltB_total k x.key with e | e | e
          · exact absurd e.symm hk
          · exact e
          · exact absurd e hx
        rw [if_neg hk, List.filter_cons_of_pos (by simpa using hk), hl, List.map_cons, DataW.insert, show (entR (H := H) ⟨k, n⟩).1.before (entR (H := H) x).1 = ltB k x.key from before_eq _ _, hkx]
        simp

/-- Two rising lists of the same rows are one. -/
theorem RSrt.unique : ∀ {l r : List Rw}, RSrt l → RSrt r → (∀ x, x ∈ l ↔ x ∈ r) → l = r
  | [], [], _, _, _ => rfl
  | [], y :: r, _, _, h => absurd ((h y).2 (by simp)) (by simp)
  | x :: l, [], _, _, h => absurd ((h x).1 (by simp)) (by simp)
  | x :: l, y :: r, hl, hr, h => by
    have hxy : x = y := by
      rcases List.mem_cons.1 ((h x).1 (by simp)) with e | hx
      · exact e
      · rcases List.mem_cons.1 ((h y).2 (by simp)) with e | hy
        · exact e.symm
        · have := ltB_trans (hr.head x hx) (hl.head y hy)
          rw [ltB_irrefl] at this
          cases this
    subst hxy
    rw [RSrt.unique hl.tail hr.tail fun z => ?_]
    constructor
    · intro hz
      rcases List.mem_cons.1 ((h z).1 (by simp [hz])) with rfl | h'
      · have := hl.head z hz
        rw [ltB_irrefl] at this
        cases this
      · exact h'
    · intro hz
      rcases List.mem_cons.1 ((h z).2 (by simp [hz])) with rfl | h'
      · have := hr.head z hz
        rw [ltB_irrefl] at this
        cases this
      · exact h'
end Go.Proofs.YtajppgngoffonaaGreatDoor

namespace Go.Proofs.YtajppgngoffonaaGreatDoor
open Go.RowKit

def Ex.nodes : Ex → Nat
  | .cons _ _ _ _ kids rest => 1 + kids.nodes + rest.nodes
  | .nil => 0
def nodesX (x : Xp) : Nat := 1 + x.kids.nodes

theorem cnt_nodes : ∀ (f : Ex) (m : Nat), m ≤ 65 → f.cnt m = min (m + f.nodes) 65 := by
  intro f
  induction f with
  | nil => intro m h; simp only [Ex.cnt, Ex.nodes]; omega
  | cons kd n s av kids rest ih1 ih2 =>
    intro m h
    simp only [Ex.cnt, Ex.nodes]
    split
    · omega
    · rw [ih1 _ (by omega), ih2 _ (by omega)]
      omega

theorem cntX_nodes (x : Xp) : cntX x 0 = min (nodesX x) 65 := by
  unfold cntX nodesX
  rw [cnt_nodes _ _ (by omega)]

/-- An expression without the places of its arguments. -/
def Ex.bare : Ex → Ex
  | .cons kd n s _ kids rest => .cons kd n s (.slice none 0 0) kids.bare rest.bare
  | .nil => .nil
def bareX (x : Xp) : Xp := ⟨x.kd, x.n, x.s, .slice none 0 0, x.kids.bare⟩

theorem bare_list : ∀ f : Ex, f.bare.list = f.list.map bareX := by
  intro f
  induction f with
  | nil => rfl
  | cons kd n s av kids rest _ ih => simp only [Ex.bare, Ex.list, List.map_cons, ih]; rfl

theorem bare_of (l : List Xp) : (Ex.of l).bare = Ex.of (l.map bareX) := by
  induction l with
  | nil => rfl
  | cons x l ih => simp only [Ex.of, Ex.bare, List.map_cons, ih]; rfl

theorem bare_nodes : ∀ f : Ex, f.bare.nodes = f.nodes := by
  intro f
  induction f with
  | nil => rfl
  | cons kd n s av kids rest ih1 ih2 => simp only [Ex.bare, Ex.nodes, ih1, ih2]

theorem bare_form : ∀ f : Ex, f.bare.form = f.form := by
  intro f
  induction f with
  | nil => rfl
  | cons kd n s av kids rest ih1 ih2 => simp only [Ex.bare, Ex.form, ih1, ih2, bare_list, List.length_map]

theorem bare_vals (P : Pl) : ∀ f : Ex, f.bare.vals P = f.vals P := by
  intro f
  induction f with
  | nil => rfl
  | cons kd n s av kids rest ih1 ih2 => simp only [Ex.bare, Ex.vals, ih1, ih2]

theorem bare_fit : ∀ f : Ex, f.bare.fit ↔ f.fit := by
  intro f
  induction f with
  | nil => rfl
  | cons kd n s av kids rest ih1 ih2 => simp only [Ex.bare, Ex.fit, ih1, ih2]

theorem value_bare (P : Pl) (x : Xp) : valueX P (bareX x) = valueX P x := by
  unfold valueX
  rw [cntX_nodes, cntX_nodes]
  unfold nodesX formX evalX bareX
  dsimp only
  rw [bare_nodes, bare_form, bare_vals, bare_list, List.length_map]

theorem fit_bare (x : Xp) : fitX (bareX x) ↔ fitX x := by
  unfold fitX bareX
  dsimp only
  rw [bare_fit]

/-- What is copied of arguments, so many nodes at most; how many may still be. -/
def Ex.own : Ex → Int → Ex × Int
  | .cons kd n s _ kids rest, m =>
    if m < 0 then (.nil, m)
    else (.cons kd n s (.slice none 0 0) (kids.own (m - 1)).1 (rest.own (kids.own (m - 1)).2).1, (rest.own (kids.own (m - 1)).2).2)
  | .nil, m => (.nil, m)
def ownX (x : Xp) (m : Int) : Xp × Int := (⟨x.kd, x.n, x.s, .slice none 0 0, (x.kids.own (m - 1)).1⟩, (x.kids.own (m - 1)).2)

def ownL : List Xp → Int → List Xp × Int
  | x :: l, m => if m < 0 then ([], m) else ((ownX x m).1 :: (ownL l (ownX x m).2).1, (ownL l (ownX x m).2).2)
  | [], m => ([], m)

theorem own_list : ∀ (f : Ex) (m : Int), ((f.own m).1.list, (f.own m).2) = ownL f.list m := by
  intro f
  induction f with
  | nil => intro m; rfl
  | cons kd n s av kids rest _ ih =>
    intro m
    simp only [Ex.own, Ex.list, ownL]
    split
    · rfl
    · have h : ownL rest.list (ownX ⟨kd, n, s, av, kids⟩ m).2 = _ := (ih (kids.own (m - 1)).2).symm
      rw [h]
      rfl

theorem own_all : ∀ (f : Ex) (m : Int), (f.nodes : Int) ≤ m → f.own m = (f.bare, m - f.nodes) := by
  intro f
  induction f with
  | nil => intro m h; simp [Ex.own, Ex.bare, Ex.nodes]
  | cons kd n s av kids rest ih1 ih2 =>
    intro m h
    simp only [Ex.nodes] at h
    simp only [Ex.own, Ex.bare, Ex.nodes]
    rw [if_neg (by omega), ih1 _ (by omega)]
    dsimp only
    rw [ih2 _ (by omega)]
    simp only [Prod.mk.injEq, true_and]
    omega

theorem own_cut : ∀ (f : Ex) (m : Int), -1 ≤ m → m < f.nodes → (f.own m).2 = -1 ∧ ((f.own m).1.nodes : Int) = m + 1 := by
  intro f
  induction f with
  | nil => intro m h1 h2; simp only [Ex.nodes] at h2; simp only [Ex.own, Ex.nodes]; omega
  | cons kd n s av kids rest ih1 ih2 =>
    intro m h1 h2
    simp only [Ex.nodes] at h2
    simp only [Ex.own]
    by_cases hm : m < 0
    · rw [if_pos hm]
      simp only [Ex.nodes]
      omega
    · rw [if_neg hm]
      simp only [Ex.nodes]
      by_cases hk : (kids.nodes : Int) ≤ m - 1
      · have h3 := own_all kids _ hk
        obtain ⟨h4, h5⟩ := ih2 (m - 1 - kids.nodes) (by omega) (by omega)
        rw [h3]
        dsimp only
        rw [bare_nodes]
        omega
      · obtain ⟨h4, h5⟩ := ih1 (m - 1) (by omega) (by omega)
        rw [h4]
        have h6 : rest.own (-1) = (.nil, -1) := by
          cases rest with
          | nil => rfl
          | cons => simp [Ex.own]
        rw [h6]
        refine ⟨rfl, ?_⟩
        dsimp only [Ex.nodes]
        omega

theorem own_fit : ∀ (f : Ex) (m : Int), f.fit → (f.own m).1.fit := by
  intro f
  induction f with
  | nil => intro m h; exact h
  | cons kd n s av kids rest ih1 ih2 =>
    intro m h
    simp only [Ex.own]
    split
    · trivial
    · exact ⟨h.1, ih1 _ h.2.1, ih2 _ h.2.2⟩

theorem fit_own (x : Xp) (m : Int) (h : fitX x) : fitX (ownX x m).1 := ⟨h.1, own_fit _ _ h.2⟩

/-- A copy has the value that it is a copy of. -/
theorem value_own (P : Pl) (x : Xp) : valueX P (ownX x 65).1 = valueX P x := by
  by_cases h : nodesX x ≤ 65
  · have h1 := own_all x.kids (65 - 1) (by unfold nodesX at h; omega)
    have h2 : (ownX x 65).1 = bareX x := by unfold ownX bareX; rw [h1]
    rw [h2, value_bare]
  · obtain ⟨-, h1⟩ := own_cut x.kids (65 - 1) (by omega) (by unfold nodesX at h; omega)
    have h2 : nodesX (ownX x 65).1 = 66 := by unfold nodesX ownX; dsimp only; omega
    unfold valueX
    rw [cntX_nodes, cntX_nodes, h2, if_pos (by omega), if_pos (by omega)]

theorem ownL_stop (l : List Xp) (m : Int) (h : m < 0) : ownL l m = ([], m) := by
  cases l with
  | nil => rfl
  | cons x l => simp [ownL, h]

theorem ownL_drop (l : List Xp) (m : Int) (j : Nat) (hj : j < l.length) (h : ¬ m < 0) : ownL (l.drop j) m = ((ownX l[j] m).1 :: (ownL (l.drop (j + 1)) (ownX l[j] m).2).1, (ownL (l.drop (j + 1)) (ownX l[j] m).2).2) := by
  rw [List.drop_eq_getElem_cons hj, ownL, if_neg h]

theorem own_low : ∀ (f : Ex) (m : Int), -1 ≤ m → -1 ≤ (f.own m).2 ∧ (f.own m).2 ≤ m := by
  intro f m h
  by_cases hf : (f.nodes : Int) ≤ m
  · rw [own_all f m hf]; dsimp only; omega
  · have := own_cut f m h (by omega); omega

theorem ownX_low (x : Xp) (m : Int) (h : 0 ≤ m) : -1 ≤ (ownX x m).2 ∧ (ownX x m).2 ≤ m - 1 := own_low x.kids (m - 1) (by omega)

/-- Does it name a field of a state? -/
def Ex.states : Ex → Bool
  | .cons kd _ _ _ kids rest => (decide (kd = 3) || kids.states) || rest.states
  | .nil => false
def statesX (x : Xp) : Bool := decide (x.kd = 3) || x.kids.states
theorem states_list : ∀ f : Ex, f.states = f.list.any statesX := by
  intro f
  induction f with
  | nil => rfl
  | cons kd n s av kids rest _ ih => simp only [Ex.states, Ex.list, List.any_cons, statesX, ih]
theorem statesX_eq (x : Xp) : statesX x = (decide (x.kd = 3) || x.kids.list.any statesX) := by
  rw [← states_list]; rfl
end Go.Proofs.YtajppgngoffonaaGreatDoor

namespace Go.Proofs.YtajppgngoffonaaGreatDoor
open Go.RowKit

/-- What is added up. -/
structure Sm where
  ty : ByteArray
  key : Xp
  add : Xp

abbrev tB : ByteArray := ⟨#[116]⟩
abbrev nB : ByteArray := ⟨#[110]⟩
def evoX (sv dv : Value) (x : Xp) : Evo := ⟨tB, sv, [⟨nB, x⟩], dv, []⟩
def mayX (x : Xp) : Bool := decide (checkR [] [evoX (.slice none 0 0) (.slice none 0 0) x] = 0) && !statesX x

def checkS : List Sm → Int
  | s :: l => if nameOk s.ty = false then 170 else if mayX s.key = true ∧ mayX s.add = true then checkS l else 172
  | [] => 0
def checkPj (nm : ByteArray) (l : List Sm) : Int := if nameOk nm = false ∨ 20 < nm.size then 170 else if 16 < l.length then 171 else checkS l

def stepR (st ty : ByteArray) (fs : List Fd) (L : List Rw) (s : Sm) : List Rw :=
  if s.ty = ty then
    match valueX ⟨st, [], fs⟩ s.key, valueX ⟨st, [], fs⟩ s.add with
    | .ok k, .ok n => if n.tx then L else addR L (if k.tx then k.s else itoaB k.n) n.n
    | _, _ => L
  else L
def takeR (st ty : ByteArray) (fs : List Fd) (l : List Sm) (L : List Rw) : List Rw := l.foldl (stepR st ty fs) L

theorem RGood.step {L : List Rw} (h : RGood L) (st ty : ByteArray) (fs : List Fd) (s : Sm) : RGood (stepR st ty fs L s) := by
  unfold stepR
  split
  · split
    · split
      · exact h
      · exact h.add _ _
    · exact h
  · exact h

theorem RGood.take {L : List Rw} (h : RGood L) (st ty : ByteArray) (fs : List Fd) (l : List Sm) : RGood (takeR st ty fs l L) := by
  unfold takeR
  induction l generalizing L with
  | nil => exact h
  | cons s l ih => exact ih (h.step st ty fs s)

/-- A copy of what is added up does the same. -/
def LikeS (s t : Sm) : Prop := t.ty = s.ty ∧ bareX t.key = (ownX s.key 65).1 ∧ bareX t.add = (ownX s.add 65).1

theorem like_value {x y : Xp} (h : bareX y = (ownX x 65).1) (P : Pl) : valueX P y = valueX P x := by
  rw [← value_bare P y, h, value_own]

theorem like_step {s t : Sm} (h : LikeS s t) (st ty : ByteArray) (fs : List Fd) (L : List Rw) : stepR st ty fs L t = stepR st ty fs L s := by
  unfold stepR
  rw [h.1, like_value h.2.1, like_value h.2.2]

theorem like_take {st ty : ByteArray} {fs : List Fd} : ∀ {l r : List Sm} (hl : r.length = l.length) (_ : ∀ i (h : i < l.length), LikeS l[i] (r[i]'(by omega))) (L : List Rw), takeR st ty fs r L = takeR st ty fs l L
  | [], [], _, _, _ => rfl
  | [], _ :: _, hl, _, _ => by simp at hl
  | _ :: _, [], hl, _, _ => by simp at hl
  | s :: l, t :: r, hl, h, L => by
    have h0 := h 0 (by simp)
    simp only [List.getElem_cons_zero] at h0
    unfold takeR
    rw [List.foldl_cons, List.foldl_cons, like_step h0]
    exact like_take (by simpa using hl) (fun i hi => by
      have := h (i + 1) (by simpa using hi)
      simpa using this) _

theorem take_drop (st ty : ByteArray) (fs : List Fd) (l : List Sm) (j : Nat) (hj : j < l.length) (L : List Rw) : takeR st ty fs (l.drop j) L = takeR st ty fs (l.drop (j + 1)) (stepR st ty fs L l[j]) := by
  unfold takeR
  rw [List.drop_eq_getElem_cons hj, List.foldl_cons]

theorem checkS_drop (l : List Sm) (j : Nat) (hj : j < l.length) : checkS (l.drop j) = if nameOk l[j].ty = false then 170 else if mayX l[j].key = true ∧ mayX l[j].add = true then checkS (l.drop (j + 1)) else 172 := by
  rw [List.drop_eq_getElem_cons hj, checkS]
end Go.Proofs.YtajppgngoffonaaGreatDoor

namespace Go.Proofs.YtajppgngoffonaaGreatDoor
open Go.RowKit

section
variable {α : Type}

def flatG (f : α → List Value) (l : List α) : List Value := l.flatMap f

/-- What a type of rows is: its structs' cells, how many, how many bytes. -/
structure RowT (f : α → List Value) (k bytes : Nat) (st e : TypeId) : Prop where
  len : ∀ x, (f x).length = k
  pos : 0 < k
  und : Tryz.prog.underlying st = some (.slice e)
  info : ∃ i z, Tryz.prog.info? e = some i ∧ i.zero = some z ∧ i.size = k ∧ i.bytes = bytes ∧ z.cells.size = k

variable {f : α → List Value} {k bytes : Nat} {st e : TypeId}

theorem flatG_len (T : RowT f k bytes st e) (l : List α) : (flatG f l).length = l.length * k := by
  induction l with
  | nil => simp [flatG]
  | cons x l ih =>
    simp only [flatG, List.flatMap_cons, List.length_append, List.length_cons] at ih ⊢
    rw [ih, T.len, Nat.add_mul]
    omega
theorem flatG_app (l r : List α) : flatG f (l ++ r) = flatG f l ++ flatG f r := by simp [flatG]
theorem flatG_one {l : List α} (h : ∀ x ∈ l, ∀ u ∈ f x, u.oneCell' = true) : ∀ u ∈ flatG f l, u.oneCell' = true := by
  intro u hu
  obtain ⟨x, hx, hu⟩ := List.mem_flatMap.1 hu
  exact h x hx u hu
theorem flatG_at (T : RowT f k bytes st e) : ∀ (l : List α) (i : Nat) (hi : i < l.length) (j : Nat), j < k → (flatG f l)[i * k + j]? = (f l[i])[j]? := by
  intro l
  induction l with
  | nil => intro i hi; simp at hi
  | cons x l ih =>
    intro i hi j hj
    have e0 : flatG f (x :: l) = f x ++ flatG f l := rfl
    rw [e0]
    cases i with
    | zero =>
      rw [List.getElem?_append_left (by rw [T.len]; omega)]
      simp
    | succ i =>
      have h := ih i (by simpa using hi) j hj
      rw [List.getElem?_append_right (by rw [T.len, Nat.succ_mul]; omega), T.len]
      simp only [List.getElem_cons_succ]
      rw [← h]
      congr 1
      rw [Nat.succ_mul]
      omega

/-- A struct's cells at b, from o on. -/
def CellsAt (f : α → List Value) (w : World) (b o : Nat) (x : α) : Prop := ∀ j u, (f x)[j]? = some u → w.cell? ⟨b, o + j, none⟩ = some u

theorem CellsAt.same {w w' : World} {b o : Nat} {x : α} (h : CellsAt f w b o x) (e : w'.heap[b]? = w.heap[b]?) : CellsAt f w' b o x := fun j u hu => (World.cell?_of_block e).trans (h j u hu)

def SrcG (f : α → List Value) (w : World) (A : Option Addr) (r : List α) : Prop := (A = none → r = []) ∧ ∀ ad, A = some ad → ∀ j u, (flatG f r)[j]? = some u → w.cell? (ad.add j) = some u

theorem add_plainG (b o j : Nat) : (⟨b, o, none⟩ : Addr).add j = ⟨b, o + j, none⟩ := by
  unfold Addr.add
  split
  · subst_vars; rfl
  · rfl

/-- A row of the call's own. -/
def OwnG (f : α → List Value) (e : TypeId) (k : Nat) (w : World) (base : Nat) (v : Value) (l : List α) : Prop := w.ownsRow base e k v l.length (flatG f l)

theorem OwnG.nil (w : World) (base : Nat) : OwnG f e k w base (.slice none 0 0) [] := World.ownsRow_nil _ _ _ _

/-- A literal of no elements. -/
theorem OwnG.empty (T : RowT f k bytes st e) {w : World} {B base : Nat} (hB : w.heap[B]? = some (.cells #[] e (0, 0))) (hb : base ≤ B) : OwnG f e k w base (.slice (some ⟨B, 0, none⟩) 0 0) [] :=
  ⟨by simp [flatG], .inr ⟨B, 0, #[], rfl, hb, hB, Nat.le_refl _, by unfold maxLen; omega, by simp, by simp [flatG]⟩⟩

theorem append_G (T : RowT f k bytes st e) {w : World} {base : Nat} {v : Value} {l : List α} (hown : OwnG f e k w base v l) {A : Option Addr} (c : Nat) {r : List α} (hr : SrcG f w A r) (hs : ∀ x ∈ r, ∀ u ∈ f x, u.oneCell' = true) (hb : (l.length + r.length) * bytes ≤ 140737488355328) (h63 : l.length + r.length ≤ 140737488355328) (hbase : base ≤ w.heap.size) (ty : TypeId) :
    ∃ v' w', (Builtin.append_ #[st, st] ty #[v, .slice A r.length c]).run Tryz.prog w = .ok v' w' ∧ OwnG f e k w' base v' (l ++ r) ∧ w.grownBy w' v.ownBlock ∧ (v'.ownBlock = v.ownBlock ∨ ∀ g, v'.ownBlock = some g → w.heap.size ≤ g) := by
  obtain ⟨i0, z, hi0, hz0, hz1, hz2, hz3⟩ := T.info
  rcases A with _ | ad
  · obtain rfl := hr.1 rfl
    refine ⟨v, w, ?_, by simpa [OwnG] using hown, World.grownBy.refl w _, Or.inl rfl⟩
    rcases hown.2 with ⟨rfl, hn⟩ | ⟨g, cap, cur, rfl, _, _, hnc, _⟩
    · simp [Builtin.append_, run_underlying T.und, sizeOf, typeInfo, hi0, Builtin.lenOf, Builtin.firstCells]
    · simp [Builtin.append_, run_underlying T.und, sizeOf, typeInfo, hi0, Builtin.lenOf, Builtin.firstCells, hnc, storeCells]
  · obtain ⟨v', w', hrun, h2, h3, _, h5⟩ := run_append_own_at (P := Tryz.prog) w base st ty e i0 z k bytes T.und hi0 hz0 hz1 hz2 hz3 T.pos v l.length (flatG f l) hown ad r.length c (flatG f r) (flatG_len T r) (hr.2 ad rfl) (flatG_one hs) (by unfold maxLen; omega) hb hbase
    refine ⟨v', w', hrun, by unfold OwnG; rw [flatG_app, List.length_append]; exact h2, h3, ?_⟩
    rcases h5 with h5 | h5
    · exact Or.inl h5
    · exact Or.inr fun g hg => by rw [h5] at hg; cases hg; exact Nat.le_refl _

theorem wpList_append_G (T : RowT f k bytes st e) {w : World} {ops : Array Oper} {rest : List Oper} {o : Oper} {a : Act} {Q : Exit → Act → World → Prop} (hgd : o.guard = none) (s x : Operand)
    (ho : o.op = .call { callee := .builtin .append, args := #[s, x], argTypes := #[st, st] }) {base : Nat} {v : Value} {l : List α} (hs : a.eval s = v) (hown : OwnG f e k w base v l)
    {A : Option Addr} {c : Nat} {r : List α} (hx : a.eval x = .slice A r.length c) (hr : SrcG f w A r) (hsl : ∀ x ∈ r, ∀ u ∈ f x, u.oneCell' = true) (hb : (l.length + r.length) * bytes ≤ 140737488355328) (h63 : l.length + r.length ≤ 140737488355328) (hbase : base ≤ w.heap.size)
    (h : ∀ v' w', OwnG f e k w' base v' (l ++ r) → w.grownBy w' v.ownBlock → (v'.ownBlock = v.ownBlock ∨ ∀ g, v'.ownBlock = some g → w.heap.size ≤ g) → wpList Tryz.prog ops Q rest (a.put o.dst v') w') : wpList Tryz.prog ops Q (o :: rest) a w :=
  wpList_plain hgd fun K hK => by
    obtain ⟨v', w', hrun, h2, h3, h4⟩ := append_G T hown c hr hsl hb h63 hbase o.type
    unfold Oper.wp execOp
    simp only [ho, resolve, invoke, builtin, Sem.run_bind, Sem.run_pure, Result.andThen_ok, List.map_toArray, List.map_cons, List.map_nil, hs, hx, hrun]
    exact hK _ _ (h v' w' h2 h3 h4)

theorem OwnG.slice {w : World} {base : Nat} {v : Value} {l : List α} (h : OwnG f e k w base v l) : ∃ a c, v = .slice a l.length c := by
  rcases h.2 with ⟨rfl, hn⟩ | ⟨g, cap, cur, rfl, -⟩
  · exact ⟨none, 0, by rw [hn]⟩
  · exact ⟨_, _, rfl⟩

theorem OwnG.src (T : RowT f k bytes st e) {w : World} {base : Nat} {a : Option Addr} {n c : Nat} {l : List α} (h : OwnG f e k w base (.slice a n c) l) : SrcG f w a l := by
  obtain ⟨h0, h2⟩ := h
  rcases h2 with ⟨hv, hn⟩ | ⟨g, cap, cur, hv, hg, hh, r1, r2, r3, r4⟩
  · have : l = [] := List.eq_nil_of_length_eq_zero hn
    subst this
    exact ⟨fun _ => rfl, fun ad _ j u hu => by simp [flatG] at hu⟩
  · simp only [Value.slice.injEq] at hv
    obtain ⟨rfl, -, -⟩ := hv
    refine ⟨fun q => absurd q (by simp), fun ad q j u hu => ?_⟩
    cases q
    have hj : j < l.length * k := by
      rcases Nat.lt_or_ge j (l.length * k) with h | h
      · exact h
      · rw [List.getElem?_eq_none (by rw [flatG_len T]; exact h)] at hu; cases hu
    rw [add_plainG, cell_blk hh, Nat.zero_add, ← Array.getElem?_toList]
    have : (cur.toList.take (l.length * k))[j]? = (flatG f l)[j]? := by rw [r4]
    rw [List.getElem?_take_of_lt hj] at this
    rw [this]
    exact hu

/-- What is read in it. -/
theorem OwnG.at (T : RowT f k bytes st e) {w : World} {base : Nat} {a : Option Addr} {n c : Nat} {l : List α} (h : OwnG f e k w base (.slice a n c) l) : n = l.length ∧ n ≤ c ∧ c ≤ maxLen ∧ ∀ i (_ : i < l.length), ∃ g, a = some ⟨g, 0, none⟩ ∧ base ≤ g ∧ (∀ o, w.frozen? ⟨g, o, none⟩ = false) ∧ CellsAt f w g (i * k) l[i] := by
  have hs := h.src T
  obtain ⟨h0, h2⟩ := h
  rcases h2 with ⟨hv, hn⟩ | ⟨g, cap, cur, hv, hg, hh, r1, r2, r3, r4⟩
  · have : l = [] := List.eq_nil_of_length_eq_zero hn
    subst this
    simp only [Value.slice.injEq] at hv
    obtain ⟨-, rfl, rfl⟩ := hv
    exact ⟨rfl, by omega, by unfold maxLen; omega, fun i hi => absurd hi (by simp)⟩
  · simp only [Value.slice.injEq] at hv
    obtain ⟨rfl, rfl, rfl⟩ := hv
    refine ⟨rfl, r1, r2, fun i hi => ⟨g, rfl, hg, frozen_blk hh, fun j u hu => ?_⟩⟩
    have hj : j < k := by
      rcases Nat.lt_or_ge j k with h | h
      · exact h
      · rw [List.getElem?_eq_none (by rw [T.len]; exact h)] at hu; cases hu
    have := hs.2 ⟨g, 0, none⟩ rfl (i * k + j) u (by rw [flatG_at T l i hi j hj]; exact hu)
    rwa [add_plainG, Nat.zero_add] at this

theorem OwnG.base {w : World} {a b : Nat} {v : Value} {l : List α} (h : OwnG f e k w a v l) (hb : b ≤ a) : OwnG f e k w b v l := by
  obtain ⟨h1, h2⟩ := h
  refine ⟨h1, ?_⟩
  rcases h2 with h2 | ⟨g, cap, cur, e, hge, r⟩
  · exact .inl h2
  · exact .inr ⟨g, cap, cur, e, Nat.le_trans hb hge, r⟩

theorem OwnG.upd {F : List Nat} {w w' : World} {base : Nat} {v : Value} {l : List α} (h : OwnG f e k w base v l) (u : Upd F w w') (hF : ∀ j ∈ F, v.ownBlock ≠ some j) : OwnG f e k w' base v l := own_upd h u hF

/-- A row of the call's own is read as any. -/
theorem OwnG.sl (T : RowT f k bytes st e) {w : World} {base : Nat} {v : Value} {l : List α} (h : OwnG f e k w base v l) : SlAt k (CellsAt f) w v l := by
  obtain ⟨a, c, rfl⟩ := h.slice
  obtain ⟨-, h1, h2, h3⟩ := h.at T
  exact ⟨a, c, rfl, h1, h2, fun i hi => by obtain ⟨g, e, -, -, hc⟩ := h3 i hi; exact ⟨g, 0, e, by rw [Nat.zero_add]; exact hc⟩⟩

theorem OwnG.block {w : World} {base : Nat} {v : Value} {l : List α} (h : OwnG f e k w base v l) : ∀ g, v.ownBlock = some g → base ≤ g ∧ g < w.heap.size := fun g hg => World.ownsRow.lt h g hg

/-- A row that is read, somewhere. -/
theorem SlAt.srcG (T : RowT f k bytes st e) {At : World → Nat → Nat → α → Prop} {w : World} {a : Option Addr} {n cap : Nat} {l : List α} (hA : ∀ b o x, At w b o x → CellsAt f w b o x) (h : SlAt k At w (.slice a n cap) l) : SrcG f w a l := by
  obtain ⟨a', cap', hv, h1, h2, h3⟩ := h
  simp only [Value.slice.injEq] at hv
  obtain ⟨rfl, rfl, rfl⟩ := hv
  refine ⟨fun q => ?_, fun ad q j u hu => ?_⟩
  · cases l with
    | nil => rfl
    | cons x l => obtain ⟨b, off, e, _⟩ := h3 0 (by simp); rw [q] at e; cases e
  · have hj : j < l.length * k := by
      rcases Nat.lt_or_ge j (l.length * k) with h | h
      · exact h
      · rw [List.getElem?_eq_none (by rw [flatG_len T]; exact h)] at hu; cases hu
    have hk := T.pos
    have hi : j / k < l.length := Nat.div_lt_of_lt_mul (by rw [Nat.mul_comm]; exact hj)
    obtain ⟨b, off, e, hx⟩ := h3 (j / k) hi
    rw [q] at e
    cases e
    have hm : j % k < k := Nat.mod_lt _ hk
    have e2 : j / k * k + j % k = j := by rw [Nat.mul_comm]; exact Nat.div_add_mod j k
    rw [add_plainG]
    have := hA _ _ _ hx (j % k) u (by rw [← flatG_at T l (j / k) hi (j % k) hm, e2]; exact hu)
    rw [Nat.add_assoc, e2] at this
    exact this
end
end Go.Proofs.YtajppgngoffonaaGreatDoor
