/- Plain laws: bringing up rests; records stay records; turned round. -/
import Derived.Test.YtdokpfgdddfdfaaDoorCv
import Derived.Lib.ItoaLen
namespace Go.Proofs.YtdokpfgdddfdfaaDoor
open Go.RowKit

theorem bl_trans : ∀ x y z : List UInt8, Op.bytesLess x y = true → Op.bytesLess y z = true → Op.bytesLess x z = true
  | _, [], _, h, _ => by cases ‹List UInt8› <;> simp [Op.bytesLess] at h
  | x, b :: y, [], _, h => by simp [Op.bytesLess] at h
  | [], b :: y, c :: z, _, _ => rfl
  | a :: x, b :: y, c :: z, h, g => by
    simp only [Op.bytesLess, Bool.or_eq_true, Bool.and_eq_true, decide_eq_true_eq, beq_iff_eq, UInt8.lt_iff_toNat_lt] at h g ⊢
    rcases h with h | ⟨rfl, h⟩
    · rcases g with g | ⟨rfl, g⟩
      · exact Or.inl (by omega)
      · exact Or.inl h
    · rcases g with g | ⟨rfl, g⟩
      · exact Or.inl g
      · exact Or.inr ⟨rfl, bl_trans x y z h g⟩

theorem bl_irrefl : ∀ x : List UInt8, Op.bytesLess x x = false
  | [] => rfl
  | a :: x => by simp [Op.bytesLess, bl_irrefl x]

theorem bl_total : ∀ x y : List UInt8, x = y ∨ Op.bytesLess x y = true ∨ Op.bytesLess y x = true
  | [], [] => Or.inl rfl
  | [], _ :: _ => Or.inr (Or.inl rfl)
  | _ :: _, [] => Or.inr (Or.inr rfl)
  | a :: x, b :: y => by
    simp only [Op.bytesLess, Bool.or_eq_true, Bool.and_eq_true, decide_eq_true_eq, beq_iff_eq, UInt8.lt_iff_toNat_lt, List.cons.injEq]
    rcases Nat.lt_trichotomy a.toNat b.toNat with h | h | h
    · exact Or.inr (Or.inl (Or.inl h))
    · have h := UInt8.toNat_inj.1 h
      subst h
      rcases bl_total x y with rfl | h | h
      · exact Or.inl ⟨rfl, rfl⟩
      · exact Or.inr (Or.inl (Or.inr ⟨rfl, h⟩))
      · exact Or.inr (Or.inr (Or.inr ⟨rfl, h⟩))
    · exact Or.inr (Or.inr (Or.inl h))

theorem toList_inj {a b : ByteArray} (h : a.toList = b.toList) : a = b := by
  have := bytes_beq a b
  rw [beq_toListBytes, h] at this
  simpa using this.symm

theorem leB_false {a b : ByteArray} : leB a b = false ↔ Op.bytesLess b.toList a.toList = true := by
  unfold leB
  constructor
  · intro h
    simp only [Bool.or_eq_false_iff, beq_eq_false_iff_ne] at h
    rcases bl_total a.toList b.toList with g | g | g
    · exact absurd g h.2
    · rw [h.1] at g; cases g
    · exact g
  · intro h
    cases g : Op.bytesLess a.toList b.toList with
    | true => have := bl_trans _ _ _ h g; rw [bl_irrefl] at this; cases this
    | false =>
      have : a.toList ≠ b.toList := fun e => by rw [e, bl_irrefl] at h; cases h
      simpa using this

theorem lt_trans' {a b c : ByteArray} (h : leB b a = false) (g : leB c b = false) : leB c a = false := leB_false.2 (bl_trans _ _ _ (leB_false.1 h) (leB_false.1 g))
theorem lt_of_le_ne {a b : ByteArray} (h : leB a b = true) (hn : a ≠ b) : leB b a = false := by
  unfold leB at h
  simp only [Bool.or_eq_true, beq_iff_eq] at h
  rcases h with h | h
  · exact leB_false.2 h
  · exact absurd (toList_inj h) hn

/-- A record, as the document has it. -/
def Srt (l : List Fd) : Prop := l.Pairwise fun x y => leB y.nm x.nm = false
def Good (l : List Fd) : Prop := l.length ≤ 16 ∧ (∀ x ∈ l, fieldE x = 0) ∧ Srt l

theorem chkF_some : ∀ (l : List Fd) (y : Fd), chkF (some y) l = 0 ↔ (∀ x ∈ l, fieldE x = 0) ∧ Srt (y :: l)
  | [], y => by simp [chkF, Srt]
  | x :: l, y => by
    unfold chkF
    by_cases h : fieldE x = 0
    · rw [if_neg (by simpa using h)]
      cases hc : leB x.nm y.nm with
      | true => simp [Srt, hc]
      | false =>
        simp only [hc, Bool.false_eq_true, if_false]
        rw [chkF_some l x]
        constructor
        · rintro ⟨h1, h2⟩
          refine ⟨fun z hz => ?_, ?_⟩
          · rcases List.mem_cons.1 hz with rfl | hz
            · exact h
            · exact h1 z hz
          · refine List.pairwise_cons.2 ⟨fun z hz => ?_, h2⟩
            rcases List.mem_cons.1 hz with rfl | hz
            · exact hc
            · exact lt_trans' hc ((List.pairwise_cons.1 h2).1 z hz)
        · rintro ⟨h1, h2⟩
          exact ⟨fun z hz => h1 z (by simp [hz]), (List.pairwise_cons.1 h2).2⟩
    · rw [if_pos h]
      simp [h]

theorem checkF_iff (l : List Fd) : checkF l = 0 ↔ Good l := by
  unfold checkF Good
  split
  · simp; omega
  · rename_i h16
    have e : l.length ≤ 16 := by omega
    simp only [e, true_and]
    cases l with
    | nil => simp [chkF, Srt]
    | cons x l =>
      unfold chkF
      by_cases h : fieldE x = 0
      · simp only [h, ne_eq, not_true_eq_false, if_false, Bool.false_eq_true]
        rw [chkF_some]
        simp [h]
      · simp [h]

theorem mem_of_split {l l1 l2 : List Fd} (h : l = l1 ++ l2) {x : Fd} : x ∈ l ↔ x ∈ l1 ∨ x ∈ l2 := by rw [h]; simp

/-- Set on a sorted record. -/
theorem srt_set {l : List Fd} (h : Srt l) (x : Fd) : Srt (setF l x) := by
  unfold setF
  rcases posF_cases l x.nm with ⟨hp, hk, -⟩ | ⟨i, hi, hp, hk, -, -⟩
  · rw [if_pos (by omega)]
    unfold insF
    have hsp : l = (l.takeWhile fun y => leB y.nm x.nm) ++ l.dropWhile fun y => leB y.nm x.nm := (List.takeWhile_append_dropWhile).symm
    have h1 : ∀ y ∈ l.takeWhile (fun y => leB y.nm x.nm), leB x.nm y.nm = false := fun y hy => by
      have hle : leB y.nm x.nm = true := List.all_eq_true.1 List.all_takeWhile y hy
      exact lt_of_le_ne hle (hk y ((List.takeWhile_sublist _).subset hy))
    have hs : Srt ((l.takeWhile fun y => leB y.nm x.nm) ++ l.dropWhile fun y => leB y.nm x.nm) := by rw [← hsp]; exact h
    have hs := List.pairwise_append.1 hs
    have h2 : ∀ y ∈ l.dropWhile (fun y => leB y.nm x.nm), leB y.nm x.nm = false := by
      cases hd : l.dropWhile (fun y => leB y.nm x.nm) with
      | nil => intro y hy; cases hy
      | cons z r =>
        have hz : leB z.nm x.nm = false := by
          have := List.head?_dropWhile_not (fun y : Fd => leB y.nm x.nm) l
          rw [hd] at this
          simpa using this
        rw [hd] at hs
        intro y hy
        rcases List.mem_cons.1 hy with rfl | hy
        · exact hz
        · exact lt_trans' hz ((List.pairwise_cons.1 hs.2.1).1 y hy)
    refine List.pairwise_append.2 ⟨hs.1, List.pairwise_cons.2 ⟨h2, hs.2.1⟩, fun a ha b hb => ?_⟩
    rcases List.mem_cons.1 hb with rfl | hb
    · exact h1 a ha
    · exact hs.2.2 a ha b hb
  · rw [if_neg (by omega), hp]
    unfold Srt at h ⊢
    rw [List.pairwise_iff_getElem] at h ⊢
    intro a b ha hb hab
    rw [List.length_set] at ha hb
    have e : ((i : Int)).toNat = i := rfl
    simp only [e, List.getElem_set]
    split
    · rename_i hib
      subst hib
      rw [if_neg (by omega)]
      have := h a i ha hi hab
      rw [hk] at this
      exact this
    · split
      · rename_i hia
        subst hia
        have := h i b hi hb hab
        rw [hk] at this
        exact this
      · exact h a b ha hb hab

theorem srt_drop {l : List Fd} (h : Srt l) (k : ByteArray) : Srt (dropF l k) := List.Pairwise.sublist (List.eraseP_sublist) h

theorem fieldE_zero {x : Fd} : fieldE x = 0 ↔ nameOk x.nm = true ∧ (if x.tx = true then x.n = 0 ∧ x.s.size ≤ 200 else x.s.size = 0) := by
  unfold fieldE
  cases nameOk x.nm with
  | false => simp
  | true =>
    cases x.tx with
    | true => simp
    | false => simp

theorem itoaB_size (n : Int) (h0 : -9223372036854775808 ≤ n) (h1 : n ≤ 9223372036854775807) : (itoaB n).size ≤ 200 := by
  have := Lib.itoa_length_le n h0 h1
  have e : (itoaB n).size = (Lib.itoa n).length := by unfold itoaB; simp [ByteArray.size]
  omega

theorem may_zero {c : Ch} (h : mayE c = 0) : 1 ≤ c.kd ∧ c.kd ≤ 5 ∧ (c.kd = 1 → fieldE c.f = 0) ∧ (c.kd ≠ 1 → nameOk c.nm = true) ∧ (c.kd = 3 → nameOk c.to = true) := by
  unfold mayE at h
  by_cases hk : c.kd < 1 ∨ 5 < c.kd
  · rw [if_pos hk] at h; cases h
  rw [if_neg hk] at h
  by_cases hn : nameOk (if c.kd = 1 then c.f.nm else c.nm) = false ∨ (c.kd = 3 ∧ nameOk c.to = false)
  · rw [if_pos hn] at h; cases h
  rw [if_neg hn] at h
  by_cases hf : c.kd = 1 ∧ fieldE c.f ≠ 0
  · rw [if_pos hf] at h; cases h
  refine ⟨by omega, by omega, fun e => ?_, fun e => ?_, fun e => ?_⟩
  · by_cases g : fieldE c.f = 0
    · exact g
    · exact absurd ⟨e, g⟩ hf
  · rw [if_neg e] at hn
    cases g : nameOk c.nm with
    | true => rfl
    | false => exact absurd (Or.inl g) hn
  · cases g : nameOk c.to with
    | true => rfl
    | false => exact absurd (Or.inr ⟨e, g⟩) hn

theorem good_set {l : List Fd} (h : Good l) {x : Fd} (hx : fieldE x = 0) (hl : (setF l x).length ≤ 16) : Good (setF l x) :=
  ⟨hl, fun y hy => (setF_mem hy).elim (fun e => e ▸ hx) (fun g => h.2.1 y g), srt_set h.2.2 x⟩

theorem getF_some {l : List Fd} {k : ByteArray} {f : Fd} (h : getF l k = some f) : (getF l f.nm).isSome = true := by rw [(getF_mem h).2, h]; rfl

theorem good_done {l : List Fd} (h : Good l) (hN : ∀ x ∈ l, FitN x) {c : Ch} (hc : mayE c = 0) : Good (doneF l c) := by
  have hm := may_zero hc
  have hlen := doneF_length l c
  have hl16 : (doneF l c).length ≤ 16 := by have := h.1; omega
  unfold doneF at hl16 ⊢
  split at hl16
  · rename_i hk
    rw [if_pos hk]
    split at hl16
    · rename_i g; rw [if_pos g]; exact h
    · rename_i g; rw [if_neg g]; exact good_set h (hm.2.2.1 hk) hl16
  · rename_i hk
    rw [if_neg hk]
    cases hg : getF l c.nm with
    | none => exact h
    | some f =>
      rw [hg] at hl16
      simp only [] at hl16 ⊢
      have hf := getF_mem hg
      have hfe := fieldE_zero.1 (h.2.1 f hf.1)
      split at hl16
      · rename_i g
        rw [if_pos g]
        exact ⟨hl16, fun y hy => h.2.1 y (dropF_mem hy), srt_drop h.2.2 _⟩
      rename_i g; rw [if_neg g]
      split at hl16
      · rename_i g
        rw [if_pos g]
        unfold renF at hl16 ⊢
        split
        · exact h
        · rename_i g2
          rw [if_neg g2] at hl16
          refine ⟨hl16, fun y hy => ?_, srt_set (srt_drop h.2.2 _) _⟩
          rcases setF_mem hy with rfl | hy
          · exact fieldE_zero.2 ⟨hm.2.2.2.2 g, hfe.2⟩
          · exact h.2.1 y (dropF_mem hy)
      rename_i g; rw [if_neg g]
      split at hl16
      · rename_i g
        rw [if_pos g]
        unfold showF at hl16 ⊢
        split
        · exact h
        · rename_i g2
          rw [if_neg g2] at hl16
          have hfit := hN f hf.1
          exact good_set h (fieldE_zero.2 ⟨hfe.1, by simp only [if_true]; exact ⟨trivial, itoaB_size f.n hfit.1 hfit.2⟩⟩) hl16
      rename_i g; rw [if_neg g]
      split at hl16
      · rename_i g
        rw [if_pos g]
        unfold scaleF at hl16 ⊢
        split
        · exact h
        · rename_i g2
          rw [if_neg g2] at hl16
          split
          · rename_i n hn
            rw [hn] at hl16
            exact good_set h (fieldE_zero.2 ⟨hfe.1, by simp⟩) hl16
          · exact h
      · rename_i g; rw [if_neg g]; exact h

theorem mayL_zero : ∀ (l : List Ch), mayL l = 0 ↔ ∀ c ∈ l, mayE c = 0
  | [] => by simp [mayL]
  | c :: l => by
    unfold mayL
    by_cases h : mayE c = 0
    · simp [h, mayL_zero l]
    · simp [h]

theorem good_fold (ch : List Ch) : ∀ (l : List Fd), Good l → (∀ x ∈ l, FitN x) → (∀ c ∈ ch, FitN c.f) → (∀ c ∈ ch, mayE c = 0) → Good (ch.foldl doneF l) := by
  induction ch with
  | nil => intro l h _ _ _; exact h
  | cons c ch ih =>
    intro l h hN hC hm
    exact ih _ (good_done h hN (hm c (by simp))) (doneF_fit hN (hC c (by simp))) (fun c' h' => hC c' (by simp [h'])) (fun c' h' => hm c' (by simp [h']))

/-- What upcasters that may be are. -/
def okU (u : Up) : Prop := nameOk u.ty = true ∧ 0 ≤ u.fr ∧ u.fr < 1073741824 ∧ ∀ c ∈ u.ch, mayE c = 0
def difU (a b : Up) : Prop := ¬ (a.ty = b.ty ∧ a.fr = b.fr)

theorem any_isU {s : List Up} {u : Up} : s.any (isU u.ty u.fr) = false ↔ ∀ a ∈ s, difU a u := by
  rw [List.any_eq_false]
  unfold difU isU
  constructor
  · intro h a ha g
    exact h a ha (by simp [g.1, g.2])
  · intro h a ha g
    simp only [decide_eq_true_eq] at g
    exact h a ha ⟨g.1.symm, g.2.symm⟩

theorem chkU_zero : ∀ (l s : List Up), chkU s l = 0 ↔ (∀ u ∈ l, okU u) ∧ (∀ u ∈ l, ∀ a ∈ s, difU a u) ∧ l.Pairwise difU
  | [], s => by simp [chkU]
  | u :: l, s => by
    unfold chkU
    cases h1 : nameOk u.ty with
    | false => simp [okU, h1]
    | true =>
      simp only [Bool.true_eq_false, if_false]
      by_cases h2 : u.fr < 0 ∨ 1073741824 ≤ u.fr
      · rw [if_pos h2]
        constructor
        · intro h; cases h
        · rintro ⟨h, -⟩
          have := h u (by simp)
          unfold okU at this
          omega
      · rw [if_neg h2]
        cases h3 : s.any (isU u.ty u.fr) with
        | true =>
          simp only [if_true]
          constructor
          · intro h; cases h
          · rintro ⟨-, h, -⟩
            rw [any_isU.2 (h u (by simp))] at h3
            cases h3
        | false =>
          simp only [Bool.false_eq_true, if_false]
          by_cases h4 : mayL u.ch = 0
          · rw [if_neg (by simpa using h4), chkU_zero l (s ++ [u])]
            have h3 := any_isU.1 h3
            constructor
            · rintro ⟨a1, a2, a3⟩
              refine ⟨?_, ?_, ?_⟩
              · intro x hx
                rcases List.mem_cons.1 hx with rfl | hx
                · exact ⟨h1, by omega, by omega, (mayL_zero _).1 h4⟩
                · exact a1 x hx
              · intro x hx a ha
                rcases List.mem_cons.1 hx with rfl | hx
                · exact h3 a ha
                · exact a2 x hx a (by simp [ha])
              · exact List.pairwise_cons.2 ⟨fun x hx => a2 x hx u (by simp), a3⟩
            · rintro ⟨a1, a2, a3⟩
              have a3 := List.pairwise_cons.1 a3
              refine ⟨fun x hx => a1 x (by simp [hx]), fun x hx a ha => ?_, a3.2⟩
              rcases List.mem_append.1 ha with ha | ha
              · exact a2 x (by simp [hx]) a ha
              · rw [List.mem_singleton.1 ha]
                exact a3.1 x hx
          · rw [if_pos h4]
            constructor
            · intro h; exact absurd h h4
            · rintro ⟨h, -⟩
              exact absurd ((mayL_zero _).2 (h u (by simp)).2.2.2) h4

theorem checkU_zero {us : List Up} : checkU us = 0 ↔ us.length ≤ 64 ∧ (∀ u ∈ us, manyU u = false) ∧ (∀ u ∈ us, okU u) ∧ us.Pairwise difU := by
  unfold checkU
  split
  · rename_i h
    constructor
    · intro h; cases h
    · rintro ⟨h1, h2, -⟩
      rcases h with h | h
      · omega
      · obtain ⟨u, hu, hm⟩ := List.any_eq_true.1 h
        rw [h2 u hu] at hm; cases hm
  · rename_i h
    rw [chkU_zero]
    have h1 : us.length ≤ 64 := by omega
    have h2 : ∀ u ∈ us, manyU u = false := fun u hu => by
      cases g : manyU u with
      | false => rfl
      | true => exact absurd (Or.inr (List.any_eq_true.2 ⟨u, hu, g⟩)) h
    constructor
    · rintro ⟨a, -, b⟩; exact ⟨h1, h2, a, b⟩
    · rintro ⟨-, -, a, b⟩; exact ⟨a, by simp, b⟩

theorem checkU_rev {us : List Up} (h : checkU us = 0) : checkU us.reverse = 0 := by
  obtain ⟨h1, h2, h3, h4⟩ := checkU_zero.1 h
  refine checkU_zero.2 ⟨by simpa using h1, fun u hu => h2 u (by simpa using hu), fun u hu => h3 u (by simpa using hu), ?_⟩
  rw [List.pairwise_reverse]
  exact h4.imp fun h g => h ⟨g.1.symm, g.2.symm⟩

theorem findU_some_of {us : List Up} (h : us.Pairwise difU) {u : Up} (hu : u ∈ us) : findU us u.ty u.fr = some u := by
  induction us with
  | nil => cases hu
  | cons a l ih =>
    unfold findU
    have hp := List.pairwise_cons.1 h
    rcases List.mem_cons.1 hu with rfl | hu
    · rw [List.find?_cons_of_pos (by simp [isU])]
    · rw [List.find?_cons_of_neg]
      · exact ih hp.2 hu
      · intro g
        simp only [isU, decide_eq_true_eq] at g
        exact hp.1 u hu ⟨g.1.symm, g.2.symm⟩

theorem findU_rev {us : List Up} (h : us.Pairwise difU) (s : ByteArray) (n : Int) : findU us.reverse s n = findU us s n := by
  have hr : us.reverse.Pairwise difU := by
    rw [List.pairwise_reverse]
    exact h.imp fun h g => h ⟨g.1.symm, g.2.symm⟩
  cases hg : findU us s n with
  | some u =>
    obtain ⟨h1, rfl, rfl⟩ := findU_mem hg
    exact findU_some_of hr (by simpa using h1)
  | none =>
    unfold findU at hg ⊢
    rw [List.find?_eq_none] at hg ⊢
    intro x hx
    exact hg x (by simpa using hx)

theorem stepU_congr {us us' : List Up} (h : ∀ s n, findU us' s n = findU us s n) (ty : ByteArray) : ∀ (f : Nat) (v : Int) (r : List Fd), stepU us' ty f v r = stepU us ty f v r
  | 0, _, _ => rfl
  | f + 1, v, r => by
    unfold stepU
    rw [h]
    cases findU us ty v with
    | none => rfl
    | some u => exact stepU_congr h ty f _ _

theorem apply_rev {us : List Up} (h : checkU us = 0) (ty : ByteArray) (v : Int) (r : List Fd) : applyU us.reverse ty v r = applyU us ty v r := by
  unfold applyU
  rw [List.length_reverse]
  exact stepU_congr (findU_rev (checkU_zero.1 h).2.2.2) ty _ _ _

theorem latest_rev {us : List Up} (h : checkU us = 0) (ty : ByteArray) : latestU us.reverse ty = latestU us ty := by
  unfold latestU
  rw [List.length_reverse]
  congr 1
  funext v
  unfold hasU
  rw [findU_rev (checkU_zero.1 h).2.2.2]

/-- Behind its rounds, bringing up finds nothing more. -/
theorem stepU_end {us : List Up} (ty : ByteArray) : ∀ (f : Nat) (v : Int) (r : List Fd), (-9223372036854775808 ≤ v ∧ v ≤ 9223372036854775807) →
    findU us ty (stepU us ty f v r).1 = none ∨ ∀ j, j < f → (findU us ty (verAt v j)).isSome = true
  | 0, _, _, _ => Or.inr (fun j h => absurd h (by omega))
  | f + 1, v, r, hv => by
    unfold stepU
    cases hg : findU us ty v with
    | none => exact Or.inl hg
    | some u =>
      rcases stepU_end ty f (wrap64 (v + 1)) (u.ch.foldl doneF r) (by unfold wrap64; omega) with h | h
      · exact Or.inl h
      · refine Or.inr fun j hj => ?_
        cases j with
        | zero => rw [verAt_zero hv, hg]; rfl
        | succ j =>
          have := h j (by omega)
          rwa [show verAt (wrap64 (v + 1)) j = verAt v (j + 1) by unfold verAt wrap64; omega] at this

theorem apply_end {us : List Up} (hu : us.length ≤ 9223372036854775806) (ty : ByteArray) {v : Int} (hv : -9223372036854775808 ≤ v ∧ v ≤ 9223372036854775807) (r : List Fd) : findU us ty (applyU us ty v r).1 = none := by
  rcases stepU_end (us := us) ty (us.length + 1) v r hv with h | h
  · exact h
  · have := rounds_le hu (Nat.le_refl _) h
    omega

theorem apply_rests {us : List Up} (hu : us.length ≤ 9223372036854775806) (ty : ByteArray) {v : Int} (hv : -9223372036854775808 ≤ v ∧ v ≤ 9223372036854775807) (r : List Fd) :
    applyU us ty (applyU us ty v r).1 (applyU us ty v r).2 = applyU us ty v r := by
  have h := apply_end hu ty hv r
  generalize applyU us ty v r = p at *
  unfold applyU stepU
  rw [h]

theorem stepU_range {us : List Up} (ty : ByteArray) : ∀ (f : Nat) (v : Int) (r : List Fd), (-9223372036854775808 ≤ v ∧ v ≤ 9223372036854775807) → -9223372036854775808 ≤ (stepU us ty f v r).1 ∧ (stepU us ty f v r).1 ≤ 9223372036854775807
  | 0, _, _, hv => hv
  | f + 1, v, r, hv => by
    unfold stepU
    cases findU us ty v with
    | none => exact hv
    | some u => exact stepU_range ty f _ _ (by unfold wrap64; omega)

theorem stepU_latest {us : List Up} (ty : ByteArray) : ∀ (f v : Nat) (r : List Fd), v + f ≤ 9223372036854775807 → (stepU us ty f v r).1 = (runN (hasU us ty) f v : Nat)
  | 0, _, _, _ => rfl
  | f + 1, v, r, h => by
    unfold stepU runN
    unfold hasU
    cases findU us ty (v : Int) with
    | none => simp
    | some u =>
      have : wrap64 ((v : Int) + 1) = ((v + 1 : Nat) : Int) := by unfold wrap64; omega
      simp only [this, Option.isSome_some, if_true]
      exact stepU_latest ty f (v + 1) _ (by omega)

theorem apply_latest {us : List Up} (hu : us.length ≤ 9223372036854775806) (ty : ByteArray) (r : List Fd) : (applyU us ty 0 r).1 = (latestU us ty : Nat) := stepU_latest ty (us.length + 1) 0 r (by omega)

theorem stepU_ge {us : List Up} (h : ∀ u ∈ us, okU u) (ty : ByteArray) : ∀ (f : Nat) (v : Int) (r : List Fd), v ≤ (stepU us ty f v r).1
  | 0, _, _ => Int.le_refl _
  | f + 1, v, r => by
    unfold stepU
    cases hg : findU us ty v with
    | none => exact Int.le_refl _
    | some u =>
      obtain ⟨h1, -, rfl⟩ := findU_mem hg
      have ho := h u h1
      have : wrap64 (u.fr + 1) = u.fr + 1 := by unfold wrap64; have := ho.2; omega
      have hi := stepU_ge h ty f (wrap64 (u.fr + 1)) (u.ch.foldl doneF r)
      simp only []
      omega

theorem apply_ge {us : List Up} (h : checkU us = 0) (ty : ByteArray) (v : Int) (r : List Fd) : v ≤ (applyU us ty v r).1 := stepU_ge (checkU_zero.1 h).2.2.1 ty _ v r

theorem stepU_fit {us : List Up} (hC : ∀ u ∈ us, ∀ c ∈ u.ch, FitN c.f) (ty : ByteArray) : ∀ (f : Nat) (v : Int) (r : List Fd), (∀ x ∈ r, FitN x) → ∀ x ∈ (stepU us ty f v r).2, FitN x
  | 0, _, _, h => h
  | f + 1, v, r, h => by
    unfold stepU
    cases hg : findU us ty v with
    | none => exact h
    | some u => exact stepU_fit hC ty f _ _ (foldF_fit _ _ h (hC u (findU_mem hg).1))

theorem stepU_length {us : List Up} (ty : ByteArray) {N : Nat} (hN : 16 ≤ N) : ∀ (f : Nat) (v : Int) (r : List Fd), r.length ≤ N → (stepU us ty f v r).2.length ≤ N
  | 0, _, _, h => h
  | f + 1, v, r, h => by
    unfold stepU
    cases hg : findU us ty v with
    | none => exact h
    | some u => exact stepU_length ty hN f _ _ (foldF_length _ _ N h hN)

theorem stepU_good {us : List Up} (ho : ∀ u ∈ us, okU u) (hC : ∀ u ∈ us, ∀ c ∈ u.ch, FitN c.f) (ty : ByteArray) : ∀ (f : Nat) (v : Int) (r : List Fd), (∀ x ∈ r, FitN x) → Good r → Good (stepU us ty f v r).2
  | 0, _, _, _, h => h
  | f + 1, v, r, hN, h => by
    unfold stepU
    cases hg : findU us ty v with
    | none => exact h
    | some u =>
      have hu := (findU_mem hg).1
      exact stepU_good ho hC ty f _ _ (foldF_fit _ _ hN (hC u hu)) (good_fold _ _ h hN (hC u hu) (ho u hu).2.2.2)

theorem apply_good {us : List Up} (h : checkU us = 0) (hC : ∀ u ∈ us, ∀ c ∈ u.ch, FitN c.f) (ty : ByteArray) (v : Int) {r : List Fd} (hN : ∀ x ∈ r, FitN x) (hr : checkF r = 0) : checkF (applyU us ty v r).2 = 0 :=
  (checkF_iff _).2 (stepU_good (checkU_zero.1 h).2.2.1 hC ty _ v r hN ((checkF_iff _).1 hr))

/-- Sizes. -/
theorem doneF_fits {l : List Fd} {c : Ch} (h : ∀ x ∈ l, Fits x) (hN : ∀ x ∈ l, FitN x) (hc : FitC c) : ∀ x ∈ doneF l c, Fits x := by
  intro x hx
  unfold doneF at hx
  split at hx
  · split at hx
    · exact h x hx
    · rcases setF_mem hx with rfl | hx
      · exact hc.2.2
      · exact h x hx
  · cases hg : getF l c.nm with
    | none => rw [hg] at hx; exact h x hx
    | some f =>
      have hf := h f (getF_mem hg).1
      have hfn := hN f (getF_mem hg).1
      rw [hg] at hx
      simp only [] at hx
      split at hx
      · exact h x (dropF_mem hx)
      split at hx
      · unfold renF at hx
        split at hx
        · exact h x hx
        · rcases setF_mem hx with rfl | hx
          · exact ⟨hc.2.1, hf.2⟩
          · exact h x (dropF_mem hx)
      split at hx
      · unfold showF at hx
        split at hx
        · exact h x hx
        · rcases setF_mem hx with rfl | hx
          · exact ⟨hf.1, by have := itoaB_size f.n hfn.1 hfn.2; show (itoaB f.n).size ≤ 9223372036854775807; omega⟩
          · exact h x hx
      split at hx
      · unfold scaleF at hx
        split at hx
        · exact h x hx
        · split at hx
          · rcases setF_mem hx with rfl | hx
            · exact ⟨hf.1, by show ByteArray.empty.size ≤ 9223372036854775807; decide⟩
            · exact h x hx
          · exact h x hx
      · exact h x hx

theorem foldF_fits (ch : List Ch) : ∀ (l : List Fd), (∀ x ∈ l, Fits x) → (∀ x ∈ l, FitN x) → (∀ c ∈ ch, FitC c) → (∀ c ∈ ch, FitN c.f) → ∀ x ∈ ch.foldl doneF l, Fits x := by
  induction ch with
  | nil => intro l h _ _ _; exact h
  | cons c ch ih =>
    intro l h hN hc hn
    exact ih _ (doneF_fits h hN (hc c (by simp))) (doneF_fit hN (hn c (by simp))) (fun c' hc' => hc c' (by simp [hc'])) (fun c' hc' => hn c' (by simp [hc']))

theorem stepU_fits {us : List Up} (hF : ∀ u ∈ us, FitU u) (hC : ∀ u ∈ us, ∀ c ∈ u.ch, FitN c.f) (ty : ByteArray) : ∀ (f : Nat) (v : Int) (r : List Fd), (∀ x ∈ r, Fits x) → (∀ x ∈ r, FitN x) → ∀ x ∈ (stepU us ty f v r).2, Fits x
  | 0, _, _, h, _ => h
  | f + 1, v, r, h, hN => by
    unfold stepU
    cases hg : findU us ty v with
    | none => exact h
    | some u =>
      have hu := (findU_mem hg).1
      exact stepU_fits hF hC ty f _ _ (foldF_fits _ _ h hN (hF u hu).2 (hC u hu)) (foldF_fit _ _ hN (hC u hu))
end Go.Proofs.YtdokpfgdddfdfaaDoor
