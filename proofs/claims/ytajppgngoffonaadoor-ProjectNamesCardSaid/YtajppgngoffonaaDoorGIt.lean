/- strconv.Itoa: the library's contract at this program (laid in plain words by the kit's tool). The document: Same, SameEvent. The document: what is wrong with a field; with a record. Plain laws of records: order, what stays a record. -/
import Derived.Shelf.Strconv.Itoa3
import Derived.Lib.ItoaLen
import Derived.Test.YtajppgngoffonaaDoorGSh
namespace Go.Proofs.YtajppgngoffonaaDoor
open Go.RowKit Go.Shelf
def laysItoa_ren : Go.Shelf.Ren := ⟨fun | 171 => 18 | 243 => 28 | 246 => 42 | 283 => 65 | 284 => 66 | 285 => 67 | 286 => 68 | 129 => 83 | 317 => 82 | 318 => 84 | 319 => 85 | 320 => 86 | 337 => 90 | 338 => 91 | n => n, fun | 3 => 3 | 9 => 9 | 2 => 2 | 4 => 4 | 171 => 139 | 0 => 0 | 53 => 140 | 37 => 143 | 5 => 5 | 173 => 144 | 212 => 160 | 51 => 161 | 20 => 20 | 213 => 162 | 46 => 163 | 232 => 168 | 233 => 169 | n => n, fun | 17 => 0 | 18 => 1 | 19 => 2 | n => n⟩
theorem laysItoa : Go.Proofs.LaysM.n171 Tryd.prog laysItoa_ren := {
  mixed := by kernel_rfl
  f129 := Tryd.func83.trans (congrArg some (by kernel_rfl))
  f171 := Tryd.func18.trans (congrArg some (by kernel_rfl))
  f243 := Tryd.func28.trans (congrArg some (by kernel_rfl))
  f246 := Tryd.func42.trans (congrArg some (by kernel_rfl))
  f283 := Tryd.func65.trans (congrArg some (by kernel_rfl))
  f284 := Tryd.func66.trans (congrArg some (by kernel_rfl))
  f285 := Tryd.func67.trans (congrArg some (by kernel_rfl))
  f286 := Tryd.func68.trans (congrArg some (by kernel_rfl))
  f317 := Tryd.func82.trans (congrArg some (by kernel_rfl))
  f318 := Tryd.func84.trans (congrArg some (by kernel_rfl))
  f319 := Tryd.func85.trans (congrArg some (by kernel_rfl))
  f320 := Tryd.func86.trans (congrArg some (by kernel_rfl))
  f337 := Tryd.func90.trans (congrArg some (by kernel_rfl))
  f338 := Tryd.func91.trans (congrArg some (by kernel_rfl))
  t0 := Tryd.underlying0
  a0 := Tryd.isAgg0
  z0 := Tryd.sizeOf0
  v0 := Tryd.zeroValue0
  t2 := Tryd.underlying2
  a2 := Tryd.isAgg2
  z2 := Tryd.sizeOf2
  v2 := Tryd.zeroValue2
  t3 := Tryd.underlying3
  a3 := Tryd.isAgg3
  z3 := Tryd.sizeOf3
  v3 := Tryd.zeroValue3
  t4 := Tryd.underlying4
  a4 := Tryd.isAgg4
  z4 := Tryd.sizeOf4
  v4 := Tryd.zeroValue4
  t5 := Tryd.underlying5
  a5 := Tryd.isAgg5
  z5 := Tryd.sizeOf5
  v5 := Tryd.zeroValue5
  t9 := Tryd.underlying9
  a9 := Tryd.isAgg9
  z9 := Tryd.sizeOf9
  v9 := Tryd.zeroValue9
  t20 := Tryd.underlying20
  a20 := Tryd.isAgg20
  z20 := Tryd.sizeOf20
  v20 := Tryd.zeroValue20
  t37 := Tryd.underlying143
  a37 := Tryd.isAgg143
  z37 := Tryd.sizeOf143
  v37 := Tryd.zeroValue143
  t46 := Tryd.underlying163
  a46 := Tryd.isAgg163
  z46 := Tryd.sizeOf163
  v46 := Tryd.zeroValue163
  t51 := Tryd.underlying161
  a51 := Tryd.isAgg161
  z51 := Tryd.sizeOf161
  v51 := Tryd.zeroValue161
  t53 := Tryd.underlying140
  a53 := Tryd.isAgg140
  z53 := Tryd.sizeOf140
  v53 := Tryd.zeroValue140
  t171 := Tryd.underlying139
  a171 := Tryd.isAgg139
  z171 := Tryd.sizeOf139
  v171 := Tryd.zeroValue139
  t173 := Tryd.underlying144
  a173 := Tryd.isAgg144
  z173 := Tryd.sizeOf144
  v173 := Tryd.zeroValue144
  t212 := Tryd.underlying160
  a212 := Tryd.isAgg160
  z212 := Tryd.sizeOf160
  v212 := Tryd.zeroValue160
  t213 := Tryd.underlying162
  a213 := Tryd.isAgg162
  z213 := Tryd.sizeOf162
  t232 := Tryd.underlying168
  a232 := Tryd.isAgg168
  z232 := Tryd.sizeOf168
  v232 := Tryd.zeroValue168
  t233 := Tryd.underlying169
  a233 := Tryd.isAgg169
  z233 := Tryd.sizeOf169
  v233 := Tryd.zeroValue169
  g17 := by kernel_rfl
  g18 := by kernel_rfl
  g19 := by kernel_rfl
  i0 := by kernel_rfl
  i2 := by kernel_rfl
  i3 := by kernel_rfl
  i4 := by kernel_rfl
  i5 := by kernel_rfl
  i9 := by kernel_rfl
  i20 := by kernel_rfl
  i37 := by kernel_rfl
  i46 := by kernel_rfl
  i51 := by kernel_rfl
  i53 := by kernel_rfl
  i171 := by kernel_rfl
  i173 := by kernel_rfl
  i212 := by kernel_rfl
  i232 := by kernel_rfl
  i233 := by kernel_rfl
  m17 := by kernel_rfl
  m18 := by kernel_rfl
  m19 := by kernel_rfl }

theorem Upd.grow {w w' : World} (h : Upd [] w w') (k : Nat) (os : Array Obj) : Upd [] w (Sort.grow (w'.drewN k) os) :=
  h.trans ⟨rfl, rfl, by rw [Sort.size_grow]; exact Nat.le_add_right _ _, fun j hj _ => Sort.heap_grow_old (w'.drewN k) os hj⟩

theorem itoa_ok (n : Int) (h0 : -9223372036854775808 ≤ n) (h1 : n ≤ 9223372036854775807) (w : World) (hT : Tab w) : Calls Tryd.prog 18 #[.int .i64 n] w fun e w' => e = .returned (.string (itoaB n)) ∧ Upd [] w w' := by
  have := Any.strconv_Itoa laysItoa n h0 h1 w hT
  change Calls Tryd.prog 18 _ _ _ at this
  refine this.mono ?_
  rintro e w' ⟨rfl, k, os, rfl⟩
  exact ⟨rfl, (Upd.refl [] w).grow k os⟩
end Go.Proofs.YtajppgngoffonaaDoor

namespace Go.Proofs.YtajppgngoffonaaDoor
open Go.RowKit

theorem equalIn_field (d : Nat) (x y : Fd) (w : World) : (Op.equalIn (d + 1 + 1) 55 (aggF x) (aggF y)).run Tryd.prog w = .ok (decide (x.nm = y.nm ∧ x.tx = y.tx ∧ x.n = y.n ∧ x.s = y.s)) w := by
  have u3 := Tryd.underlying3
  have u4 := Tryd.underlying4
  have u9 := Tryd.underlying9
  have a3 := Tryd.isAgg3
  have z3 := Tryd.sizeOf3
  have a4 := Tryd.isAgg4
  have z4 := Tryd.sizeOf4
  have a9 := Tryd.isAgg9
  have z9 := Tryd.sizeOf9
  have hS : Tryd.prog.underlying 55 = some (.struct (Tryd.prog.fieldsOf 55)) := by kernel_rfl
  have hp : Tryd.prog.stoodInHeld 55 = false := by kernel_rfl
  rw [run_equalIn_struct w (d + 1) 55 _ _ hS hp]
  simp only [Program.fieldsOf, Tryd.underlying55]
  go_simp
  have e1 := eqB x.nm y.nm
  have e2 := eqB x.s y.s
  by_cases h1 : x.nm = y.nm <;> by_cases h2 : x.tx = y.tx <;> by_cases h3 : x.n = y.n <;> by_cases h4 : x.s = y.s <;> simp_all

theorem neq_field (x y : Fd) (w : World) : (binOp .neq 55 (aggF x) (aggF y)).run Tryd.prog w = .ok (.bool (!decide (x.nm = y.nm ∧ x.tx = y.tx ∧ x.n = y.n ∧ x.s = y.s))) w := by
  have h : (Op.equal 55 (aggF x) (aggF y)).run Tryd.prog w = .ok (decide (x.nm = y.nm ∧ x.tx = y.tx ∧ x.n = y.n ∧ x.s = y.s)) w := equalIn_field 9998 x y w
  simp only [binOp, Sem.run_bind, h, Result.andThen_ok, Sem.run_pure]

theorem Fd.eq_iff {x y : Fd} : (x.nm = y.nm ∧ x.tx = y.tx ∧ x.n = y.n ∧ x.s = y.s) ↔ x = y := by
  constructor
  · intro h
    cases x; cases y
    simp_all
  · rintro rfl; exact ⟨rfl, rfl, rfl, rfl⟩

end Go.Proofs.YtajppgngoffonaaDoor

namespace Go.Proofs.YtajppgngoffonaaDoor
open Go.RowKit

theorem emptyB (s : ByteArray) : (s.toList == ([] : List UInt8)) = decide (s.size = 0) := by
  rw [ByteArray.toList_eq]
  obtain ⟨⟨l⟩⟩ := s
  cases l with
  | nil => rfl
  | cons c l =>
    have : decide (ByteArray.size ⟨⟨c :: l⟩⟩ = 0) = false := decide_eq_false (show ¬ (l.length + 1 = 0) by omega)
    rw [this]
    rfl

def fieldE (x : Fd) : Int := if nameOk x.nm = false then 121 else if x.tx = true then (if x.n ≠ 0 ∨ 200 < x.s.size then 122 else 0) else if x.s.size ≠ 0 then 122 else 0

def chkF : Option Fd → List Fd → Int
  | _, [] => 0
  | p, x :: l => if fieldE x ≠ 0 then fieldE x else if (match p with | none => false | some y => leB x.nm y.nm) = true then 123 else chkF (some x) l
def checkF (l : List Fd) : Int := if 16 < l.length then 120 else chkF none l
def prevF (l : List Fd) (j : Nat) : Option Fd := if j = 0 then none else l[j - 1]?

theorem chkF_step (l : List Fd) (j : Nat) (hj : j < l.length) : chkF (prevF l j) (l.drop j) = if fieldE l[j] ≠ 0 then fieldE l[j] else if 0 < j ∧ leB l[j].nm (l.getD (j - 1) noF).nm = true then 123 else chkF (prevF l (j + 1)) (l.drop (j + 1)) := by
  have e : prevF l (j + 1) = some l[j] := by unfold prevF; rw [if_neg (by omega)]; simp
  rw [List.drop_eq_getElem_cons hj, e]
  simp only [chkF]
  unfold prevF
  by_cases h0 : j = 0
  · subst h0
    simp
  · have : l[j - 1]? = some l[j - 1] := List.getElem?_eq_getElem (by omega)
    have hg : l.getD (j - 1) noF = l[j - 1] := by rw [List.getD_eq_getElem?_getD, this]; rfl
    have hp : 0 < j := by omega
    simp only [h0, if_false, this, hg, hp, true_and]

theorem chkF_end (l : List Fd) (j : Nat) (hj : l.length ≤ j) : chkF (prevF l j) (l.drop j) = 0 := by
  rw [List.drop_eq_nil_of_le hj]
  unfold chkF
  rfl

/-- No text of a record is longer than any text may be. -/
def Fits (x : Fd) : Prop := x.nm.size ≤ 9223372036854775807 ∧ x.s.size ≤ 9223372036854775807

end Go.Proofs.YtajppgngoffonaaDoor

namespace Go.Proofs.YtajppgngoffonaaDoor
open Go.RowKit

theorem setF_mem {l : List Fd} {x y : Fd} (h : y ∈ setF l x) : y = x ∨ y ∈ l := by
  unfold setF at h
  split at h
  · unfold insF at h
    rcases List.mem_append.1 h with h | h
    · exact Or.inr ((List.takeWhile_sublist _).subset h)
    · rcases List.mem_cons.1 h with rfl | h
      · exact Or.inl rfl
      · exact Or.inr ((List.dropWhile_sublist _).subset h)
  · rcases List.mem_or_eq_of_mem_set h with h | h
    · exact Or.inr h
    · exact Or.inl h


theorem getF_mem {l : List Fd} {k : ByteArray} {f : Fd} (h : getF l k = some f) : f ∈ l ∧ f.nm = k := by
  unfold getF at h
  exact ⟨List.mem_of_find?_eq_some h, by simpa using List.find?_some h⟩


theorem bl_trans : ∀ x y z : List UInt8, Op.bytesLess x y = true → Op.bytesLess y z = true → Op.bytesLess x z = true
  | _, [], _, h, _ => by cases ‹List UInt8› <;> simp [Op.bytesLess] at h
  | x, b :: y, [], _, h => by simp [Op.bytesLess] at h
  | [], b :: y, c :: z, _, _ => rfl
  | a :: x, b :: y, c :: z, h, g => by
    simp only [Op.bytesLess, Bool.or_eq_true, Bool.and_eq_true, decide_eq_true_eq, beq_iff_eq, UInt8.lt_iff_toNat_lt] at h g ⊢
    rcases h with h | ⟨rfl, h⟩
    · rcases g with g | ⟨rfl, g⟩
      · exact Or.inl (by omega)
      · exact Or.inl h
    · rcases g with g | ⟨rfl, g⟩
      · exact Or.inl g
      · exact Or.inr ⟨rfl, bl_trans x y z h g⟩

theorem bl_irrefl : ∀ x : List UInt8, Op.bytesLess x x = false
  | [] => rfl
  | a :: x => by simp [Op.bytesLess, bl_irrefl x]

theorem bl_total : ∀ x y : List UInt8, x = y ∨ Op.bytesLess x y = true ∨ Op.bytesLess y x = true
  | [], [] => Or.inl rfl
  | [], _ :: _ => Or.inr (Or.inl rfl)
  | _ :: _, [] => Or.inr (Or.inr rfl)
  | a :: x, b :: y => by
    simp only [Op.bytesLess, Bool.or_eq_true, Bool.and_eq_true, decide_eq_true_eq, beq_iff_eq, UInt8.lt_iff_toNat_lt, List.cons.injEq]
    rcases Nat.lt_trichotomy a.toNat b.toNat with h | h | h
    · exact Or.inr (Or.inl (Or.inl h))
    · have h := UInt8.toNat_inj.1 h
      subst h
      rcases bl_total x y with rfl | h | h
      · exact Or.inl ⟨rfl, rfl⟩
      · exact Or.inr (Or.inl (Or.inr ⟨rfl, h⟩))
      · exact Or.inr (Or.inr (Or.inr ⟨rfl, h⟩))
    · exact Or.inr (Or.inr (Or.inl h))

theorem toList_inj {a b : ByteArray} (h : a.toList = b.toList) : a = b := by
  have := bytes_beq a b
  rw [beq_toListBytes, h] at this
  simpa using this.symm

theorem leB_false {a b : ByteArray} : leB a b = false ↔ Op.bytesLess b.toList a.toList = true := by
  unfold leB
  constructor
  · intro h
    simp only [Bool.or_eq_false_iff, beq_eq_false_iff_ne] at h
    rcases bl_total a.toList b.toList with g | g | g
    · exact absurd g h.2
    · rw [h.1] at g; cases g
    · exact g
  · intro h
    cases g : Op.bytesLess a.toList b.toList with
    | true => have := bl_trans _ _ _ h g; rw [bl_irrefl] at this; cases this
    | false =>
      have : a.toList ≠ b.toList := fun e => by rw [e, bl_irrefl] at h; cases h
      simpa using this

theorem lt_trans' {a b c : ByteArray} (h : leB b a = false) (g : leB c b = false) : leB c a = false := leB_false.2 (bl_trans _ _ _ (leB_false.1 h) (leB_false.1 g))
theorem lt_of_le_ne {a b : ByteArray} (h : leB a b = true) (hn : a ≠ b) : leB b a = false := by
  unfold leB at h
  simp only [Bool.or_eq_true, beq_iff_eq] at h
  rcases h with h | h
  · exact leB_false.2 h
  · exact absurd (toList_inj h) hn

/-- A record, as the document has it. -/
def Srt (l : List Fd) : Prop := l.Pairwise fun x y => leB y.nm x.nm = false
def Good (l : List Fd) : Prop := l.length ≤ 16 ∧ (∀ x ∈ l, fieldE x = 0) ∧ Srt l

theorem chkF_some : ∀ (l : List Fd) (y : Fd), chkF (some y) l = 0 ↔ (∀ x ∈ l, fieldE x = 0) ∧ Srt (y :: l)
  | [], y => by simp [chkF, Srt]
  | x :: l, y => by
    unfold chkF
    by_cases h : fieldE x = 0
    · rw [if_neg (by simpa using h)]
      cases hc : leB x.nm y.nm with
      | true => simp [Srt, hc]
      | false =>
        simp only [hc, Bool.false_eq_true, if_false]
        rw [chkF_some l x]
        constructor
        · rintro ⟨h1, h2⟩
          refine ⟨fun z hz => ?_, ?_⟩
          · rcases List.mem_cons.1 hz with rfl | hz
            · exact h
            · exact h1 z hz
          · refine List.pairwise_cons.2 ⟨fun z hz => ?_, h2⟩
            rcases List.mem_cons.1 hz with rfl | hz
            · exact hc
            · exact lt_trans' hc ((List.pairwise_cons.1 h2).1 z hz)
        · rintro ⟨h1, h2⟩
          exact ⟨fun z hz => h1 z (by simp [hz]), (List.pairwise_cons.1 h2).2⟩
    · rw [if_pos h]
      simp [h]

theorem checkF_iff (l : List Fd) : checkF l = 0 ↔ Good l := by
  unfold checkF Good
  split
  · simp; omega
  · rename_i h16
    have e : l.length ≤ 16 := by omega
    simp only [e, true_and]
    cases l with
    | nil => simp [chkF, Srt]
    | cons x l =>
      unfold chkF
      by_cases h : fieldE x = 0
      · simp only [h, ne_eq, not_true_eq_false, if_false, Bool.false_eq_true]
        rw [chkF_some]
        simp [h]
      · simp [h]

theorem mem_of_split {l l1 l2 : List Fd} (h : l = l1 ++ l2) {x : Fd} : x ∈ l ↔ x ∈ l1 ∨ x ∈ l2 := by rw [h]; simp

/-- Set on a sorted record. -/
theorem srt_set {l : List Fd} (h : Srt l) (x : Fd) : Srt (setF l x) := by
  unfold setF
  rcases posF_cases l x.nm with ⟨hp, hk, -⟩ | ⟨i, hi, hp, hk, -, -⟩
  · rw [if_pos (by omega)]
    unfold insF
    have hsp : l = (l.takeWhile fun y => leB y.nm x.nm) ++ l.dropWhile fun y => leB y.nm x.nm := (List.takeWhile_append_dropWhile).symm
    have h1 : ∀ y ∈ l.takeWhile (fun y => leB y.nm x.nm), leB x.nm y.nm = false := fun y hy => by
      have hle : leB y.nm x.nm = true := List.all_eq_true.1 List.all_takeWhile y hy
      exact lt_of_le_ne hle (hk y ((List.takeWhile_sublist _).subset hy))
    have hs : Srt ((l.takeWhile fun y => leB y.nm x.nm) ++ l.dropWhile fun y => leB y.nm x.nm) := by rw [← hsp]; exact h
    have hs := List.pairwise_append.1 hs
    have h2 : ∀ y ∈ l.dropWhile (fun y => leB y.nm x.nm), leB y.nm x.nm = false := by
      cases hd : l.dropWhile (fun y => leB y.nm x.nm) with
      | nil => intro y hy; cases hy
      | cons z r =>
        have hz : leB z.nm x.nm = false := by
          have := List.head?_dropWhile_not (fun y : Fd => leB y.nm x.nm) l
          rw [hd] at this
          simpa using this
        rw [hd] at hs
        intro y hy
        rcases List.mem_cons.1 hy with rfl | hy
        · exact hz
        · exact lt_trans' hz ((List.pairwise_cons.1 hs.2.1).1 y hy)
    refine List.pairwise_append.2 ⟨hs.1, List.pairwise_cons.2 ⟨h2, hs.2.1⟩, fun a ha b hb => ?_⟩
    rcases List.mem_cons.1 hb with rfl | hb
    · exact h1 a ha
    · exact hs.2.2 a ha b hb
  · rw [if_neg (by omega), hp]
    unfold Srt at h ⊢
    rw [List.pairwise_iff_getElem] at h ⊢
    intro a b ha hb hab
    rw [List.length_set] at ha hb
    have e : ((i : Int)).toNat = i := rfl
    simp only [e, List.getElem_set]
    split
    · rename_i hib
      subst hib
      rw [if_neg (by omega)]
      have := h a i ha hi hab
      rw [hk] at this
      exact this
    · split
      · rename_i hia
        subst hia
        have := h i b hi hb hab
        rw [hk] at this
        exact this
      · exact h a b ha hb hab

theorem srt_drop {l : List Fd} (h : Srt l) (k : ByteArray) : Srt (dropF l k) := List.Pairwise.sublist (List.eraseP_sublist) h

theorem fieldE_zero {x : Fd} : fieldE x = 0 ↔ nameOk x.nm = true ∧ (if x.tx = true then x.n = 0 ∧ x.s.size ≤ 200 else x.s.size = 0) := by
  unfold fieldE
  cases nameOk x.nm with
  | false => simp
  | true =>
    cases x.tx with
    | true => simp
    | false => simp

theorem itoaB_size (n : Int) (h0 : -9223372036854775808 ≤ n) (h1 : n ≤ 9223372036854775807) : (itoaB n).size ≤ 200 := by
  have := Lib.itoa_length_le n h0 h1
  have e : (itoaB n).size = (Lib.itoa n).length := by unfold itoaB; simp [ByteArray.size]
  omega

theorem good_set {l : List Fd} (h : Good l) {x : Fd} (hx : fieldE x = 0) (hl : (setF l x).length ≤ 16) : Good (setF l x) :=
  ⟨hl, fun y hy => (setF_mem hy).elim (fun e => e ▸ hx) (fun g => h.2.1 y g), srt_set h.2.2 x⟩


end Go.Proofs.YtajppgngoffonaaDoor
