/- strconv.Itoa: the library's contract at this program (laid in plain words by the kit's tool). The document: Same, SameEvent. The document: what is wrong with a field; with a record. Plain laws of records: order, what stays a record. -/
import Derived.Shelf.Strconv.Itoa3
import Derived.Lib.ItoaLen
import Derived.Test.YtajppgngoffonaaGreatDoorGSh
namespace Go.Proofs.YtajppgngoffonaaGreatDoor
open Go.RowKit Go.Shelf
def laysItoa_ren : Go.Shelf.Ren := ⟨fun | 171 => 23 | 243 => 42 | 246 => 67 | 283 => 115 | 284 => 116 | 285 => 117 | 286 => 118 | 129 => 86 | 317 => 145 | 318 => 146 | 319 => 147 | 320 => 148 | 337 => 154 | 338 => 155 | n => n, fun | 3 => 3 | 9 => 9 | 2 => 2 | 4 => 4 | 171 => 177 | 0 => 0 | 53 => 145 | 37 => 179 | 5 => 5 | 173 => 180 | 212 => 202 | 51 => 143 | 20 => 20 | 213 => 203 | 46 => 100 | 232 => 209 | 233 => 210 | n => n, fun | 17 => 1 | 18 => 2 | 19 => 3 | n => n⟩
theorem laysItoa : Go.Proofs.LaysM.n171 Tryz.prog laysItoa_ren := {
  mixed := by kernel_rfl
  f129 := Tryz.func86.trans (congrArg some (by kernel_rfl))
  f171 := Tryz.func23.trans (congrArg some (by kernel_rfl))
  f243 := Tryz.func42.trans (congrArg some (by kernel_rfl))
  f246 := Tryz.func67.trans (congrArg some (by kernel_rfl))
  f283 := Tryz.func115.trans (congrArg some (by kernel_rfl))
  f284 := Tryz.func116.trans (congrArg some (by kernel_rfl))
  f285 := Tryz.func117.trans (congrArg some (by kernel_rfl))
  f286 := Tryz.func118.trans (congrArg some (by kernel_rfl))
  f317 := Tryz.func145.trans (congrArg some (by kernel_rfl))
  f318 := Tryz.func146.trans (congrArg some (by kernel_rfl))
  f319 := Tryz.func147.trans (congrArg some (by kernel_rfl))
  f320 := Tryz.func148.trans (congrArg some (by kernel_rfl))
  f337 := Tryz.func154.trans (congrArg some (by kernel_rfl))
  f338 := Tryz.func155.trans (congrArg some (by kernel_rfl))
  t0 := Tryz.underlying0
  a0 := Tryz.isAgg0
  z0 := Tryz.sizeOf0
  v0 := Tryz.zeroValue0
  t2 := Tryz.underlying2
  a2 := Tryz.isAgg2
  z2 := Tryz.sizeOf2
  v2 := Tryz.zeroValue2
  t3 := Tryz.underlying3
  a3 := Tryz.isAgg3
  z3 := Tryz.sizeOf3
  v3 := Tryz.zeroValue3
  t4 := Tryz.underlying4
  a4 := Tryz.isAgg4
  z4 := Tryz.sizeOf4
  v4 := Tryz.zeroValue4
  t5 := Tryz.underlying5
  a5 := Tryz.isAgg5
  z5 := Tryz.sizeOf5
  v5 := Tryz.zeroValue5
  t9 := Tryz.underlying9
  a9 := Tryz.isAgg9
  z9 := Tryz.sizeOf9
  v9 := Tryz.zeroValue9
  t20 := Tryz.underlying20
  a20 := Tryz.isAgg20
  z20 := Tryz.sizeOf20
  v20 := Tryz.zeroValue20
  t37 := Tryz.underlying179
  a37 := Tryz.isAgg179
  z37 := Tryz.sizeOf179
  v37 := Tryz.zeroValue179
  t46 := Tryz.underlying100
  a46 := Tryz.isAgg100
  z46 := Tryz.sizeOf100
  v46 := Tryz.zeroValue100
  t51 := Tryz.underlying143
  a51 := Tryz.isAgg143
  z51 := Tryz.sizeOf143
  v51 := Tryz.zeroValue143
  t53 := Tryz.underlying145
  a53 := Tryz.isAgg145
  z53 := Tryz.sizeOf145
  v53 := Tryz.zeroValue145
  t171 := Tryz.underlying177
  a171 := Tryz.isAgg177
  z171 := Tryz.sizeOf177
  v171 := Tryz.zeroValue177
  t173 := Tryz.underlying180
  a173 := Tryz.isAgg180
  z173 := Tryz.sizeOf180
  v173 := Tryz.zeroValue180
  t212 := Tryz.underlying202
  a212 := Tryz.isAgg202
  z212 := Tryz.sizeOf202
  v212 := Tryz.zeroValue202
  t213 := Tryz.underlying203
  a213 := Tryz.isAgg203
  z213 := Tryz.sizeOf203
  t232 := Tryz.underlying209
  a232 := Tryz.isAgg209
  z232 := Tryz.sizeOf209
  v232 := Tryz.zeroValue209
  t233 := Tryz.underlying210
  a233 := Tryz.isAgg210
  z233 := Tryz.sizeOf210
  v233 := Tryz.zeroValue210
  g17 := by kernel_rfl
  g18 := by kernel_rfl
  g19 := by kernel_rfl
  i0 := by kernel_rfl
  i2 := by kernel_rfl
  i3 := by kernel_rfl
  i4 := by kernel_rfl
  i5 := by kernel_rfl
  i9 := by kernel_rfl
  i20 := by kernel_rfl
  i37 := by kernel_rfl
  i46 := by kernel_rfl
  i51 := by kernel_rfl
  i53 := by kernel_rfl
  i171 := by kernel_rfl
  i173 := by kernel_rfl
  i212 := by kernel_rfl
  i232 := by kernel_rfl
  i233 := by kernel_rfl
  m17 := by kernel_rfl
  m18 := by kernel_rfl
  m19 := by kernel_rfl }

theorem Upd.grow {w w' : World} (h : Upd [] w w') (k : Nat) (os : Array Obj) : Upd [] w (Sort.grow (w'.drewN k) os) :=
  h.trans ⟨rfl, rfl, by rw [Sort.size_grow]; exact Nat.le_add_right _ _, fun j hj _ => Sort.heap_grow_old (w'.drewN k) os hj⟩

theorem itoa_ok (n : Int) (h0 : -9223372036854775808 ≤ n) (h1 : n ≤ 9223372036854775807) (w : World) (hT : Tab w) : Calls Tryz.prog 23 #[.int .i64 n] w fun e w' => e = .returned (.string (itoaB n)) ∧ Upd [] w w' := by
  have := Any.strconv_Itoa laysItoa n h0 h1 w hT
  change Calls Tryz.prog 23 _ _ _ at this
  refine this.mono ?_
  rintro e w' ⟨rfl, k, os, rfl⟩
  exact ⟨rfl, (Upd.refl [] w).grow k os⟩
end Go.Proofs.YtajppgngoffonaaGreatDoor

namespace Go.Proofs.YtajppgngoffonaaGreatDoor
open Go.RowKit

theorem equalIn_field (d : Nat) (x y : Fd) (w : World) : (Op.equalIn (d + 1 + 1) 64 (aggF x) (aggF y)).run Tryz.prog w = .ok (decide (x.nm = y.nm ∧ x.tx = y.tx ∧ x.n = y.n ∧ x.s = y.s)) w := by
  have u3 := Tryz.underlying3
  have u4 := Tryz.underlying4
  have u9 := Tryz.underlying9
  have a3 := Tryz.isAgg3
  have z3 := Tryz.sizeOf3
  have a4 := Tryz.isAgg4
  have z4 := Tryz.sizeOf4
  have a9 := Tryz.isAgg9
  have z9 := Tryz.sizeOf9
  have hS : Tryz.prog.underlying 64 = some (.struct (Tryz.prog.fieldsOf 64)) := by kernel_rfl
  have hp : Tryz.prog.stoodInHeld 64 = false := by kernel_rfl
  rw [run_equalIn_struct w (d + 1) 64 _ _ hS hp]
  simp only [Program.fieldsOf, Tryz.underlying64]
  go_simp
  have e1 := eqB x.nm y.nm
  have e2 := eqB x.s y.s
  by_cases h1 : x.nm = y.nm <;> by_cases h2 : x.tx = y.tx <;> by_cases h3 : x.n = y.n <;> by_cases h4 : x.s = y.s <;> simp_all

theorem neq_field (x y : Fd) (w : World) : (binOp .neq 64 (aggF x) (aggF y)).run Tryz.prog w = .ok (.bool (!decide (x.nm = y.nm ∧ x.tx = y.tx ∧ x.n = y.n ∧ x.s = y.s))) w := by
  have h : (Op.equal 64 (aggF x) (aggF y)).run Tryz.prog w = .ok (decide (x.nm = y.nm ∧ x.tx = y.tx ∧ x.n = y.n ∧ x.s = y.s)) w := equalIn_field 9998 x y w
  simp only [binOp, Sem.run_bind, h, Result.andThen_ok, Sem.run_pure]

theorem Fd.eq_iff {x y : Fd} : (x.nm = y.nm ∧ x.tx = y.tx ∧ x.n = y.n ∧ x.s = y.s) ↔ x = y := by
  constructor
  · intro h
    cases x; cases y
    simp_all
  · rintro rfl; exact ⟨rfl, rfl, rfl, rfl⟩

end Go.Proofs.YtajppgngoffonaaGreatDoor

namespace Go.Proofs.YtajppgngoffonaaGreatDoor
open Go.RowKit

theorem emptyB (s : ByteArray) : (s.toList == ([] : List UInt8)) = decide (s.size = 0) := by
  rw [ByteArray.toList_eq]
  obtain ⟨⟨l⟩⟩ := s
  cases l with
  | nil => rfl
  | cons c l =>
    have : decide (ByteArray.size ⟨⟨c :: l⟩⟩ = 0) = false := decide_eq_false (show ¬ (l.length + 1 = 0) by omega)
    rw [this]
    rfl

def fieldE (x : Fd) : Int := if nameOk x.nm = false then 121 else if x.tx = true then (if x.n ≠ 0 ∨ 200 < x.s.size then 122 else 0) else if x.s.size ≠ 0 then 122 else 0

def chkF : Option Fd → List Fd → Int
  | _, [] => 0
  | p, x :: l => if fieldE x ≠ 0 then fieldE x else if (match p with | none => false | some y => leB x.nm y.nm) = true then 123 else chkF (some x) l
def checkF (l : List Fd) : Int := if 16 < l.length then 120 else chkF none l
def prevF (l : List Fd) (j : Nat) : Option Fd := if j = 0 then none else l[j - 1]?

theorem chkF_step (l : List Fd) (j : Nat) (hj : j < l.length) : chkF (prevF l j) (l.drop j) = if fieldE l[j] ≠ 0 then fieldE l[j] else if 0 < j ∧ leB l[j].nm (l.getD (j - 1) noF).nm = true then 123 else chkF (prevF l (j + 1)) (l.drop (j + 1)) := by
  have e : prevF l (j + 1) = some l[j] := by unfold prevF; rw [if_neg (by omega)]; simp
  rw [List.drop_eq_getElem_cons hj, e]
  simp only [chkF]
  unfold prevF
  by_cases h0 : j = 0
  · subst h0
    simp
  · have : l[j - 1]? = some l[j - 1] := List.getElem?_eq_getElem (by omega)
    have hg : l.getD (j - 1) noF = l[j - 1] := by rw [List.getD_eq_getElem?_getD, this]; rfl
    have hp : 0 < j := by omega
    simp only [h0, if_false, this, hg, hp, true_and]

theorem chkF_end (l : List Fd) (j : Nat) (hj : l.length ≤ j) : chkF (prevF l j) (l.drop j) = 0 := by
  rw [List.drop_eq_nil_of_le hj]
  unfold chkF
  rfl

/-- No text of a record is longer than any text may be. -/
def Fits (x : Fd) : Prop := x.nm.size ≤ 9223372036854775807 ∧ x.s.size ≤ 9223372036854775807

end Go.Proofs.YtajppgngoffonaaGreatDoor

namespace Go.Proofs.YtajppgngoffonaaGreatDoor
open Go.RowKit

theorem setF_mem {l : List Fd} {x y : Fd} (h : y ∈ setF l x) : y = x ∨ y ∈ l := by
  unfold setF at h
  split at h
  · unfold insF at h
    rcases List.mem_append.1 h with h | h
    · exact Or.inr ((List.takeWhile_sublist _).subset h)
    · rcases List.mem_cons.1 h with rfl | h
      · exact Or.inl rfl
      · exact Or.inr ((List.dropWhile_sublist _).subset h)
  · rcases List.mem_or_eq_of_mem_set h with h | h
    · exact Or.inr h
    · exact Or.inl h


theorem getF_mem {l : List Fd} {k : ByteArray} {f : Fd} (h : getF l k = some f) : f ∈ l ∧ f.nm = k := by
  unfold getF at h
  exact ⟨List.mem_of_find?_eq_some h, by simpa using List.find?_some h⟩


theorem bl_trans : ∀ x y z : List UInt8, Op.bytesLess x y = true → Op.bytesLess y z = true → Op.bytesLess x z = true
  | _, [], _, h, _ => by cases ‹List UInt8› <;> simp [Op.bytesLess] at h
  | x, b :: y, [], _, h => by simp [Op.bytesLess] at h
  | [], b :: y, c :: z, _, _ => rfl
  | a :: x, b :: y, c :: z, h, g => by
    simp only [Op.bytesLess, Bool.or_eq_true, Bool.and_eq_true, decide_eq_true_eq, beq_iff_eq, UInt8.lt_iff_toNat_lt] at h g ⊢
    rcases h with h | ⟨rfl, h⟩
    · rcases g with g | ⟨rfl, g⟩
      · exact Or.inl (by omega)
      · exact Or.inl h
    · rcases g with g | ⟨rfl, g⟩
      · exact Or.inl g
      · exact Or.inr ⟨rfl, bl_trans x y z h g⟩

theorem bl_irrefl : ∀ x : List UInt8, Op.bytesLess x x = false
  | [] => rfl
  | a :: x => by simp [Op.bytesLess, bl_irrefl x]

theorem bl_total : ∀ x y : List UInt8, x = y ∨ Op.bytesLess x y = true ∨ Op.bytesLess y x = true
  | [], [] => Or.inl rfl
  | [], _ :: _ => Or.inr (Or.inl rfl)
  | _ :: _, [] => Or.inr (Or.inr rfl)
  | a :: x, b :: y => by
    simp only [Op.bytesLess, Bool.or_eq_true, Bool.and_eq_true, decide_eq_true_eq, beq_iff_eq, UInt8.lt_iff_toNat_lt, List.cons.injEq]
    rcases Nat.lt_trichotomy a.toNat b.toNat with h | h | h
    · exact Or.inr (Or.inl (Or.inl h))
    · have h := UInt8.toNat_inj.1 h
      subst h
      rcases bl_total x y with rfl | h | h
      · exact Or.inl ⟨rfl, rfl⟩
      · exact Or.inr (Or.inl (Or.inr ⟨rfl, h⟩))
      · exact Or.inr (Or.inr (Or.inr ⟨rfl, h⟩))
    · exact Or.inr (Or.inr (Or.inl h))

theorem toList_inj {a b : ByteArray} (h : a.toList = b.toList) : a = b := by
  have := bytes_beq a b
  rw [beq_toListBytes, h] at this
  simpa using this.symm

theorem leB_false {a b : ByteArray} : leB a b = false ↔ Op.bytesLess b.toList a.toList = true := by
  unfold leB
  constructor
  · intro h
    simp only [Bool.or_eq_false_iff, beq_eq_false_iff_ne] at h
    rcases bl_total a.toList b.toList with g | g | g
    · exact absurd g h.2
    · rw [h.1] at g; cases g
    · exact g
  · intro h
    cases g : Op.bytesLess a.toList b.toList with
    | true => have := bl_trans _ _ _ h g; rw [bl_irrefl] at this; cases this
    | false =>
      have : a.toList ≠ b.toList := fun e => by rw [e, bl_irrefl] at h; cases h
      simpa using this

theorem lt_trans' {a b c : ByteArray} (h : leB b a = false) (g : leB c b = false) : leB c a = false := leB_false.2 (bl_trans _ _ _ (leB_false.1 h) (leB_false.1 g))
theorem lt_of_le_ne {a b : ByteArray} (h : leB a b = true) (hn : a ≠ b) : leB b a = false := by
  unfold leB at h
  simp only [Bool.or_eq_true, beq_iff_eq] at h
  rcases h with h | h
  · exact leB_false.2 h
  · exact absurd (toList_inj h) hn

/-- A record, as the document has it. -/
def Srt (l : List Fd) : Prop := l.Pairwise fun x y => leB y.nm x.nm = false
def Good (l : List Fd) : Prop := l.length ≤ 16 ∧ (∀ x ∈ l, fieldE x = 0) ∧ Srt l

theorem chkF_some : ∀ (l : List Fd) (y : Fd), chkF (some y) l = 0 ↔ (∀ x ∈ l, fieldE x = 0) ∧ Srt (y :: l)
  | [], y => by simp [chkF, Srt]
  | x :: l, y => by
    unfold chkF
    by_cases h : fieldE x = 0
    · rw [if_neg (by simpa using h)]
      cases hc : leB x.nm y.nm with
      | true => simp [Srt, hc]
      | false =>
        simp only [hc, Bool.false_eq_true, if_false]
        rw [chkF_some l x]
        constructor
        · rintro ⟨h1, h2⟩
          refine ⟨fun z hz => ?_, ?_⟩
          · rcases List.mem_cons.1 hz with rfl | hz
            · exact h
            · exact h1 z hz
          · refine List.pairwise_cons.2 ⟨fun z hz => ?_, h2⟩
            rcases List.mem_cons.1 hz with rfl | hz
            · exact hc
            · exact lt_trans' hc ((List.pairwise_cons.1 h2).1 z hz)
        · rintro ⟨h1, h2⟩
          exact ⟨fun z hz => h1 z (by simp [hz]), (List.pairwise_cons.1 h2).2⟩
    · rw [if_pos h]
      simp [h]

theorem checkF_iff (l : List Fd) : checkF l = 0 ↔ Good l := by
  unfold checkF Good
  split
  · simp; omega
  · rename_i h16
    have e : l.length ≤ 16 := by omega
    simp only [e, true_and]
    cases l with
    | nil => simp [chkF, Srt]
    | cons x l =>
      unfold chkF
      by_cases h : fieldE x = 0
      · simp only [h, ne_eq, not_true_eq_false, if_false, Bool.false_eq_true]
        rw [chkF_some]
        simp [h]
      · simp [h]

theorem mem_of_split {l l1 l2 : List Fd} (h : l = l1 ++ l2) {x : Fd} : x ∈ l ↔ x ∈ l1 ∨ x ∈ l2 := by rw [h]; simp

/-- Set on a sorted record. -/
theorem srt_set {l : List Fd} (h : Srt l) (x : Fd) : Srt (setF l x) := by
  unfold setF
  rcases posF_cases l x.nm with ⟨hp, hk, -⟩ | ⟨i, hi, hp, hk, -, -⟩
  · rw [if_pos (by omega)]
    unfold insF
    have hsp : l = (l.takeWhile fun y => leB y.nm x.nm) ++ l.dropWhile fun y => leB y.nm x.nm := (List.takeWhile_append_dropWhile).symm
    have h1 : ∀ y ∈ l.takeWhile (fun y => leB y.nm x.nm), leB x.nm y.nm = false := fun y hy => by
      have hle : leB y.nm x.nm = true := List.all_eq_true.1 List.all_takeWhile y hy
      exact lt_of_le_ne hle (hk y ((List.takeWhile_sublist _).subset hy))
    have hs : Srt ((l.takeWhile fun y => leB y.nm x.nm) ++ l.dropWhile fun y => leB y.nm x.nm) := by rw [← hsp]; exact h
    have hs := List.pairwise_append.1 hs
    have h2 : ∀ y ∈ l.dropWhile (fun y => leB y.nm x.nm), leB y.nm x.nm = false := by
      cases hd : l.dropWhile (fun y => leB y.nm x.nm) with
      | nil => intro y hy; cases hy
      | cons z r =>
        have hz : leB z.nm x.nm = false := by
          have := List.head?_dropWhile_not (fun y : Fd => leB y.nm x.nm) l
          rw [hd] at this
          simpa using this
        rw [hd] at hs
        intro y hy
        rcases List.mem_cons.1 hy with rfl | hy
        · exact hz
        · exact lt_trans' hz ((List.pairwise_cons.1 hs.2.1).1 y hy)
    refine List.pairwise_append.2 ⟨hs.1, List.pairwise_cons.2 ⟨h2, hs.2.1⟩, fun a ha b hb => ?_⟩
    rcases List.mem_cons.1 hb with rfl | hb
    · exact h1 a ha
    · exact hs.2.2 a ha b hb
  · rw [if_neg (by omega), hp]
    unfold Srt at h ⊢
    rw [List.pairwise_iff_getElem] at h ⊢
    intro a b ha hb hab
    rw [List.length_set] at ha hb
    have e : ((i : Int)).toNat = i := rfl
    simp only [e, List.getElem_set]
    split
    · rename_i hib
      subst hib
      rw [if_neg (by omega)]
      have := h a i ha hi hab
      rw [hk] at this
      exact this
    · split
      · rename_i hia
        subst hia
        have := h i b hi hb hab
        rw [hk] at this
        exact this
      · exact h a b ha hb hab

theorem srt_drop {l : List Fd} (h : Srt l) (k : ByteArray) : Srt (dropF l k) := List.Pairwise.sublist (List.eraseP_sublist) h

theorem fieldE_zero {x : Fd} : fieldE x = 0 ↔ nameOk x.nm = true ∧ (if x.tx = true then x.n = 0 ∧ x.s.size ≤ 200 else x.s.size = 0) := by
  unfold fieldE
  cases nameOk x.nm with
  | false => simp
  | true =>
    cases x.tx with
    | true => simp
    | false => simp

theorem itoaB_size (n : Int) (h0 : -9223372036854775808 ≤ n) (h1 : n ≤ 9223372036854775807) : (itoaB n).size ≤ 200 := by
  have := Lib.itoa_length_le n h0 h1
  have e : (itoaB n).size = (Lib.itoa n).length := by unfold itoaB; simp [ByteArray.size]
  omega

theorem good_set {l : List Fd} (h : Good l) {x : Fd} (hx : fieldE x = 0) (hl : (setF l x).length ≤ 16) : Good (setF l x) :=
  ⟨hl, fun y hy => (setF_mem hy).elim (fun e => e ▸ hx) (fun g => h.2.1 y g), srt_set h.2.2 x⟩


end Go.Proofs.YtajppgngoffonaaGreatDoor
