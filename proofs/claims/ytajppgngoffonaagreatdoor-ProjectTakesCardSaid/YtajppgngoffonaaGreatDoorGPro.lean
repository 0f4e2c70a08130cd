/- slices.SortFunc at rows, strings.Compare: the library's contracts at this program (laid in plain words by the kit's tool). Rows out of a map, in whatever order; sorted, in mind. Sorting rows: what slices.SortFunc does to a row of rows. -/
import Derived.Shelf.Small.Strs
import Derived.Shelf.SlSortCmp.WholeK
import Derived.Shelf.SlSortCmp.NoneTotal
import Derived.Test.YtajppgngoffonaaGreatDoorGSh
import Derived.Test.YtajppgngoffonaaGreatDoorGPw
namespace Go.Proofs.YtajppgngoffonaaGreatDoor
open Go.RowKit Go.Shelf
def laysSortRw_ren : Go.Shelf.Ren := ⟨fun | 6 => 28 | 15 => 51 | 14 => 50 | 28 => 85 | 29 => 86 | 20 => 77 | 21 => 78 | 22 => 79 | 23 => 80 | 24 => 81 | 25 => 82 | 26 => 83 | 27 => 84 | 46 => 123 | 47 => 124 | 48 => 125 | 49 => 126 | 50 => 127 | 57 => 150 | n => n, fun | 22 => 30 | 24 => 41 | 25 => 78 | 3 => 3 | 39 => 100 | 0 => 0 | 53 => 143 | 55 => 145 | 4 => 4 | 46 => 137 | 45 => 136 | 50 => 42 | 5 => 5 | 9 => 9 | 66 => 182 | 70 => 186 | 76 => 204 | 77 => 205 | n => n, fun | n => n⟩
theorem laysSortRw : Go.Proofs.SlLaysF0.n6 Tryz.prog laysSortRw_ren := {
  mixed := by kernel_rfl
  f6 := ⟨Tryz.f28.name, by decide, Tryz.func28.trans (congrArg some (by kernel_rfl))⟩
  f14 := ⟨Tryz.f50.name, by decide, Tryz.func50.trans (congrArg some (by kernel_rfl))⟩
  f15 := Tryz.func51.trans (congrArg some (by kernel_rfl))
  f20 := ⟨Tryz.f77.name, by decide, Tryz.func77.trans (congrArg some (by kernel_rfl))⟩
  f21 := ⟨Tryz.f78.name, by decide, Tryz.func78.trans (congrArg some (by kernel_rfl))⟩
  f22 := ⟨Tryz.f79.name, by decide, Tryz.func79.trans (congrArg some (by kernel_rfl))⟩
  f23 := ⟨Tryz.f80.name, by decide, Tryz.func80.trans (congrArg some (by kernel_rfl))⟩
  f24 := ⟨Tryz.f81.name, by decide, Tryz.func81.trans (congrArg some (by kernel_rfl))⟩
  f25 := ⟨Tryz.f82.name, by decide, Tryz.func82.trans (congrArg some (by kernel_rfl))⟩
  f26 := ⟨Tryz.f83.name, by decide, Tryz.func83.trans (congrArg some (by kernel_rfl))⟩
  f27 := ⟨Tryz.f84.name, by decide, Tryz.func84.trans (congrArg some (by kernel_rfl))⟩
  f28 := Tryz.func85.trans (congrArg some (by kernel_rfl))
  f29 := Tryz.func86.trans (congrArg some (by kernel_rfl))
  f46 := ⟨Tryz.f123.name, by decide, Tryz.func123.trans (congrArg some (by kernel_rfl))⟩
  f47 := Tryz.func124.trans (congrArg some (by kernel_rfl))
  f48 := Tryz.func125.trans (congrArg some (by kernel_rfl))
  f49 := ⟨Tryz.f126.name, by decide, Tryz.func126.trans (congrArg some (by kernel_rfl))⟩
  f50 := ⟨Tryz.f127.name, by decide, Tryz.func127.trans (congrArg some (by kernel_rfl))⟩
  f57 := ⟨Tryz.f150.name, by decide, Tryz.func150.trans (congrArg some (by kernel_rfl))⟩
  t0 := Tryz.underlying0
  a0 := Tryz.isAgg0
  z0 := Tryz.sizeOf0
  v0 := Tryz.zeroValue0
  t3 := Tryz.underlying3
  a3 := Tryz.isAgg3
  z3 := Tryz.sizeOf3
  v3 := Tryz.zeroValue3
  t4 := Tryz.underlying4
  a4 := Tryz.isAgg4
  z4 := Tryz.sizeOf4
  v4 := Tryz.zeroValue4
  t5 := Tryz.underlying5
  a5 := Tryz.isAgg5
  z5 := Tryz.sizeOf5
  v5 := Tryz.zeroValue5
  t9 := Tryz.underlying9
  a9 := Tryz.isAgg9
  z9 := Tryz.sizeOf9
  v9 := Tryz.zeroValue9
  t22 := Tryz.underlying30
  a22 := Tryz.isAgg30
  z22 := Tryz.sizeOf30
  v22 := Tryz.zeroValue30
  t25 := Tryz.underlying78
  a25 := Tryz.isAgg78
  z25 := Tryz.sizeOf78
  v25 := Tryz.zeroValue78
  t39 := Tryz.underlying100
  a39 := Tryz.isAgg100
  z39 := Tryz.sizeOf100
  v39 := Tryz.zeroValue100
  t45 := Tryz.underlying136
  a45 := Tryz.isAgg136
  z45 := Tryz.sizeOf136
  v45 := Tryz.zeroValue136
  t46 := Tryz.underlying137
  a46 := Tryz.isAgg137
  z46 := Tryz.sizeOf137
  v46 := Tryz.zeroValue137
  t50 := Tryz.underlying42
  a50 := Tryz.isAgg42
  z50 := Tryz.sizeOf42
  v50 := Tryz.zeroValue42
  t53 := Tryz.underlying143
  a53 := Tryz.isAgg143
  z53 := Tryz.sizeOf143
  v53 := Tryz.zeroValue143
  t55 := Tryz.underlying145
  a55 := Tryz.isAgg145
  z55 := Tryz.sizeOf145
  v55 := Tryz.zeroValue145
  t66 := Tryz.underlying182
  a66 := Tryz.isAgg182
  z66 := Tryz.sizeOf182
  v66 := Tryz.zeroValue182
  t70 := Tryz.underlying186
  a70 := Tryz.isAgg186
  z70 := Tryz.sizeOf186
  v70 := Tryz.zeroValue186
  t76 := Tryz.underlying204
  a76 := Tryz.isAgg204
  z76 := Tryz.sizeOf204
  v76 := Tryz.zeroValue204
  t77 := Tryz.underlying205
  a77 := Tryz.isAgg205
  z77 := Tryz.sizeOf205
  v77 := Tryz.zeroValue205 }
def laysCmpS_ren : Go.Shelf.Ren := ⟨fun | 106 => 30 | 213 => 52 | 265 => 87 | n => n, fun | 9 => 9 | 3 => 3 | n => n, fun | n => n⟩
theorem laysCmpS : Go.Proofs.Lays.n106 Tryz.prog laysCmpS_ren := {
  mixed := by kernel_rfl
  f106 := Tryz.func30.trans (congrArg some (by kernel_rfl))
  f213 := Tryz.func52.trans (congrArg some (by kernel_rfl))
  f265 := Tryz.func87.trans (congrArg some (by kernel_rfl))
  t3 := Tryz.underlying3
  a3 := Tryz.isAgg3
  z3 := Tryz.sizeOf3
  v3 := Tryz.zeroValue3
  t9 := Tryz.underlying9
  a9 := Tryz.isAgg9
  z9 := Tryz.sizeOf9
  v9 := Tryz.zeroValue9 }
end Go.Proofs.YtajppgngoffonaaGreatDoor

namespace Go.Proofs.YtajppgngoffonaaGreatDoor
open Go.RowKit Go.Maps

abbrev keyR (x : Rw) : Lit := .string x.key.data.toList

/-- Just those rows that are no longer to come. -/
def GoneR (L : List Rw) (left : Lit → Bool) (O : List Rw) : Prop := (∀ x, x ∈ O ↔ x ∈ L ∧ left (keyR x) = false) ∧ O.Pairwise fun x y => x.key ≠ y.key

theorem GoneR.start (L : List Rw) : GoneR L (Maps.has (dataR (H := Unit) L)) [] := by
  refine ⟨fun x => ⟨fun h => by simp at h, fun ⟨h1, h2⟩ => ?_⟩, List.Pairwise.nil⟩
  rw [has_dataR] at h2
  have : getR L x.key = none := by simpa using h2
  exact absurd rfl (getR_none_iff.1 this x h1)

theorem RSrt.inj {L : List Rw} (h : RSrt L) {x y : Rw} (hx : x ∈ L) (hy : y ∈ L) (e : x.key = y.key) : x = y := by
  induction L with
  | nil => simp at hx
  | cons a L ih =>
    rcases List.mem_cons.1 hx with rfl | hx'
    · rcases List.mem_cons.1 hy with rfl | hy'
      · rfl
      · have := h.head y hy'
        rw [e, ltB_irrefl] at this
        cases this
    · rcases List.mem_cons.1 hy with rfl | hy'
      · have := h.head x hx'
        rw [e, ltB_irrefl] at this
        cases this
      · exact ih h.tail hx' hy'

/-- What the step hands over is a row. -/
theorem next_row {L : List Rw} {s : ByteArray} {c : Int} (h : ∀ zd : DataW Unit, (dataR L).atKey (.string s.data.toList) zd = .lit (.int .i64 c)) : (⟨s, c⟩ : Rw) ∈ L := by
  have h1 := h .nil
  rw [at_dataR] at h1
  cases hg : getR L s with
  | none => rw [hg] at h1; cases h1
  | some m =>
    rw [hg] at h1
    simp only [DataW.lit.injEq, Lit.int.injEq, true_and] at h1
    subst h1
    exact getR_mem hg

theorem GoneR.step {L : List Rw} (hs : RSrt L) {left : Lit → Bool} {O : List Rw} (h : GoneR L left O) {s : ByteArray} {c : Int} (hl : left (.string s.data.toList) = true) (hm : (⟨s, c⟩ : Rw) ∈ L) :
    GoneR L (fun z => left z && !z.sameKey (.string s.data.toList)) (O ++ [⟨s, c⟩]) := by
  obtain ⟨h1, h2⟩ := h
  have hk : ∀ x : Rw, (keyR x).sameKey (.string s.data.toList) = decide (x.key = s) := fun x => sameKey_eq _ _
  have hne : ∀ x ∈ O, x.key ≠ s := fun x hx e => by
    have := ((h1 x).1 hx).2
    rw [show keyR x = .string s.data.toList by unfold keyR; rw [e], hl] at this
    cases this
  refine ⟨fun x => ?_, ?_⟩
  · rw [List.mem_append, List.mem_singleton, h1]
    dsimp only
    rw [hk, Bool.and_eq_false_iff]
    constructor
    · rintro (⟨a, b⟩ | rfl)
      · exact ⟨a, Or.inl b⟩
      · exact ⟨hm, Or.inr (by simp)⟩
    · rintro ⟨a, b | b⟩
      · exact Or.inl ⟨a, b⟩
      · right
        exact hs.inj a hm (by simpa using b)
  · rw [List.pairwise_append]
    refine ⟨h2, List.pairwise_singleton _ _, fun x hx y hy => ?_⟩
    obtain rfl := List.mem_singleton.1 hy
    exact hne x hx

theorem GoneR.done {L : List Rw} {left : Lit → Bool} {O : List Rw} (h : GoneR L left O) (hl : ∀ kl, left kl = false) : (∀ x, x ∈ O ↔ x ∈ L) ∧ O.Pairwise fun x y => x.key ≠ y.key :=
  ⟨fun x => by rw [h.1 x, hl]; simp, h.2⟩

theorem len_of_sub : ∀ {O L : List Rw}, O.Pairwise (fun x y => x.key ≠ y.key) → (∀ x ∈ O, x ∈ L) → O.length ≤ L.length
  | [], _, _, _ => by simp
  | x :: O, L, h, hs => by
    obtain ⟨l1, l2, rfl⟩ := List.append_of_mem (hs x (by simp))
    have hp := List.pairwise_cons.1 h
    have := len_of_sub (O := O) (L := l1 ++ l2) hp.2 fun y hy => by
      have hne := hp.1 y hy
      have := hs y (by simp [hy])
      simp only [List.mem_append, List.mem_cons] at this ⊢
      rcases this with h | rfl | h
      · exact Or.inl h
      · exact absurd rfl hne
      · exact Or.inr h
    simp only [List.length_append, List.length_cons] at this ⊢
    omega

/-- How many there are. -/
theorem GoneR.few {L : List Rw} {left : Lit → Bool} {O : List Rw} (h : GoneR L left O) : O.length ≤ L.length := len_of_sub h.2 fun x hx => ((h.1 x).1 hx).1

/-- Sorted rows with other keys each are rising. -/
theorem sorted_rows {O D : List Rw} (hp : D.Perm O) (hk : O.Pairwise fun x y => x.key ≠ y.key) (hs : ∀ i j (hi : i < D.length) (hj : j < D.length), i < j → ltB (D[j]).key (D[i]).key = false) : RSrt D := by
  have hk' : D.Pairwise fun x y => x.key ≠ y.key := (hp.pairwise_iff (fun h => Ne.symm h)).2 hk
  refine List.pairwise_iff_getElem.2 fun i j hi hj hij => ?_
  have h1 := hs i j hi hj hij
  have h2 := List.pairwise_iff_getElem.1 hk' i j hi hj hij
  rcases ltB_total D[i].key D[j].key with e | e | e
  · exact absurd e h2
  · exact e
  · rw [e] at h1
    cases h1

theorem rows_one {L O D : List Rw} {left : Lit → Bool} (hL : RSrt L) (h : GoneR L left O) (hl : ∀ kl, left kl = false) (hp : D.Perm O) (hs : ∀ i j (hi : i < D.length) (hj : j < D.length), i < j → ltB (D[j]).key (D[i]).key = false) : D = L := by
  obtain ⟨h1, h2⟩ := h.done hl
  exact RSrt.unique (sorted_rows hp h2 hs) hL fun x => by rw [hp.mem_iff, h1]
end Go.Proofs.YtajppgngoffonaaGreatDoor

namespace Go.Proofs.YtajppgngoffonaaGreatDoor
open Go.RowKit Go.Sort Go.Lib

theorem cmp_less : ∀ (a b : List UInt8), compareBytes a b < 0 ↔ Op.bytesLess a b = true
  | [], [] => by simp [compareBytes, Op.bytesLess]
  | [], _ :: _ => by simp [compareBytes, Op.bytesLess]
  | _ :: _, [] => by simp [compareBytes, Op.bytesLess]
  | a :: r, b :: q => by
    have ih := cmp_less r q
    unfold compareBytes Op.bytesLess
    by_cases h1 : a < b
    · simp [h1]
    · by_cases h2 : b < a
      · have hne : ¬ a = b := fun e => by subst e; exact h1 h2
        simp [h1, h2, hne]
      · have he : a = b := UInt8.le_antisymm (UInt8.not_lt.1 h2) (UInt8.not_lt.1 h1)
        subst he
        simp [h1, ih]

def cfR (x y : Rw) : Int := compareBytes x.key.data.toList y.key.data.toList
theorem ltOf_cfR (x y : Rw) : ltOf cfR x y = ltB x.key y.key := by
  unfold ltOf cfR
  rw [ltB_data]
  cases h : Op.bytesLess x.key.data.toList y.key.data.toList with
  | true => exact decide_eq_true ((cmp_less _ _).2 h)
  | false => exact decide_eq_false fun q => by rw [(cmp_less _ _).1 q] at h; cases h
theorem swoR : SWO (ltOf cfR) where
  irrefl x := by rw [ltOf_cfR]; exact ltB_irrefl _
  trans x y z h g := by rw [ltOf_cfR] at *; exact ltB_trans h g
  ntrans x y z h g := by
    rw [ltOf_cfR] at *
    cases q : ltB x.key z.key with
    | false => rfl
    | true =>
      rcases ltB_total x.key y.key with e | e | e
      · rw [e, g] at q; cases q
      · rw [h] at e; cases e
      · rw [ltB_trans e q] at g; cases g
instance : Inhabited Rw := ⟨⟨ByteArray.empty, 0⟩⟩

set_option maxRecDepth 100000 in
set_option maxHeartbeats 1000000 in
theorem rowsCmp_ok (x y : Rw) (W : World) : Calls Tryz.prog 29 #[.agg #[.string x.key, .int .i64 x.n], .agg #[.string y.key, .int .i64 y.n]] W fun e w' => e = .returned (.int .i64 (cfR x y)) ∧ ∃ q os', w' = grow (W.drewN q) os' := by
  have hcon := fun W' => Any.strings_Compare laysCmpS x.key y.key W'
  change ∀ W', Calls Tryz.prog 30 _ _ _ at hcon
  unfold cfR
  generalize compareBytes x.key.data.toList y.key.data.toList = r at hcon ⊢
  obtain ⟨xk, xn⟩ := x
  obtain ⟨yk, yn⟩ := y
  dsimp only at hcon ⊢
  go_enter Tryz.func29, Tryz.ntmps29
  go_wp2_with (go_at_call 30; refine (hcon _).mono ?_; rintro e w' ⟨rfl, rfl⟩)
  go_ret
  exact ⟨rfl, 0, _, by rw [alloc_eq_grow, alloc_eq_grow, grow_grow]; rfl⟩

/-- Rows that may be written, in a block that is not older than some. -/
def RwOwn (w : World) (base : Nat) (v : Value) (L : List Rw) : Prop :=
  ∃ a c, v = .slice a L.length c ∧ L.length ≤ c ∧ c ≤ maxLen ∧ ∀ i (_ : i < L.length), ∃ g, a = some ⟨g, 0, none⟩ ∧ base ≤ g ∧ (∀ j, j < 2 → w.frozen? ⟨g, i * 2 + j, none⟩ = false) ∧ CellsAt cellsR w g (i * 2) L[i]

theorem RwOwn.of {w : World} {base : Nat} {v : Value} {L : List Rw} (h : OwnG cellsR 41 2 w base v L) : RwOwn w base v L := by
  obtain ⟨a, c, rfl⟩ := h.slice
  obtain ⟨-, h1, h2, h3⟩ := h.at rowT
  exact ⟨a, c, rfl, h1, h2, fun i hi => by obtain ⟨g, e, hb, hf, hc⟩ := h3 i hi; exact ⟨g, e, hb, fun j _ => hf _, hc⟩⟩

theorem cells_two {w : World} {g o : Nat} {x : Rw} : CellsAt cellsR w g o x ↔ w.cell? ⟨g, o, none⟩ = some (.string x.key) ∧ w.cell? ⟨g, o + 1, none⟩ = some (.int .i64 x.n) := by
  constructor
  · intro h
    exact ⟨h 0 _ rfl, h 1 _ rfl⟩
  · rintro ⟨h0, h1⟩ j u hu
    match j, hu with
    | 0, hu => cases hu; exact h0
    | 1, hu => cases hu; exact h1
    | j + 2, hu => simp [cellsR] at hu

theorem RwOwn.holds {w : World} {base g c : Nat} {L : List Rw} (h : RwOwn w base (.slice (some ⟨g, 0, none⟩) L.length c) L) : HoldsK cellsR 2 w g 0 L.toArray := by
  obtain ⟨a, c', hv, -, -, h3⟩ := h
  simp only [Value.slice.injEq] at hv
  obtain ⟨rfl, -, rfl⟩ := hv
  intro j hj
  rw [size_flatK] at hj
  have hj2 : j < L.length * 2 := by simpa using hj
  have hd : j / 2 < L.length := by omega
  obtain ⟨g', e, -, hf, hc⟩ := h3 (j / 2) hd
  simp only [Option.some.injEq, Addr.mk.injEq, and_true] at e
  subst e
  obtain ⟨c0, c1⟩ := cells_two.1 hc
  have hg : (L.toArray)[j / 2]! = L[j / 2] := by rw [getElem!_pos _ _ (by simpa using hd)]; simp
  rw [get_flatK _ _ _ _ hj, hg, Nat.zero_add]
  rcases Nat.mod_two_eq_zero_or_one j with hm | hm
  · have hje : j = j / 2 * 2 := by omega
    have q0 := hf 0 (by omega)
    rw [Nat.add_zero, ← hje] at q0
    rw [← hje] at c0
    rw [hm]
    exact ⟨c0, q0⟩
  · have hje : j = j / 2 * 2 + 1 := by omega
    have q0 := hf 1 (by omega)
    rw [← hje] at q0 c1
    rw [hm]
    exact ⟨c1, q0⟩

theorem upd_sort {w : World} {g n : Nat} {os : Array Obj} (d : Array Rw) : Upd [g] w (sortWorldK cellsR 2 w g 0 n d os) := by
  refine ⟨rfl, rfl, ?_, fun k hk hn => ?_⟩
  · unfold sortWorldK putRowK
    rw [size_grow, size_putRow]
    exact Nat.le_add_right _ _
  · unfold sortWorldK putRowK
    rw [heap_grow_old _ _ (by rw [size_putRow]; exact hk)]
    have hne : ¬ g = k := fun e => hn (by simp [e])
    unfold putRow mapBlock
    rw [Array.getElem?_modify, if_neg hne]
    rfl

theorem RwOwn.of_holds {w : World} {base g c : Nat} {d : Array Rw} (h : HoldsK cellsR 2 w g 0 d) (hb : base ≤ g) (h1 : d.size ≤ c) (h2 : c ≤ maxLen) : RwOwn w base (.slice (some ⟨g, 0, none⟩) d.toList.length c) d.toList := by
  refine ⟨_, c, rfl, by simpa using h1, h2, fun i hi => ⟨g, rfl, hb, fun j hj => ?_, ?_⟩⟩
  · have := (HoldsK.cell h (i := i) (c := j) (by simpa using hi) hj).2
    rwa [Nat.zero_add] at this
  · have hi' : i < d.size := by simpa using hi
    have q0 := (HoldsK.cell h (i := i) (c := 0) hi' (by omega)).1
    have q1 := (HoldsK.cell h (i := i) (c := 1) hi' (by omega)).1
    rw [getElem!_pos d i hi', Nat.zero_add] at q0 q1
    rw [cells_two, Array.getElem_toList]
    exact ⟨q0, q1⟩

theorem sortRw_ok {base : Nat} {v : Value} {O : List Rw} {w : World} (h : RwOwn w base v O) (hl : O.length < 4611686018427387904) :
    Calls Tryz.prog 28 #[v, .func (.func 29) #[] #[]] w fun e w' => e = .returned (.tuple #[]) ∧ ∃ D : List Rw, D.Perm O ∧ (∀ i j (hi : i < D.length) (hj : j < D.length), i < j → ltB (D[j]).key (D[i]).key = false) ∧ RwOwn w' base v D ∧ ∃ F, Upd F w w' ∧ ∀ k ∈ F, base ≤ k := by
  by_cases hz : O.length = 0
  · obtain ⟨a, c, rfl, h1, h2, -⟩ := h
    have := List.eq_nil_of_length_eq_zero hz
    subst this
    have hcon := AnyF.slices_SortFunc_none laysSortRw a c (.func (.func 29) #[] #[]) w
    change Calls Tryz.prog 28 _ _ _ at hcon
    refine hcon.mono fun e w' ⟨he, hw⟩ => ?_
    subst hw
    exact ⟨he, [], List.Perm.refl _, fun i j hi => absurd hi (by simp), ⟨a, c, rfl, h1, h2, fun i hi => absurd hi (by simp)⟩, [], Upd.refl _ _, fun k hk => by simp at hk⟩
  · have hH := h
    obtain ⟨a, c, rfl, h1, h2, h3⟩ := h
    obtain ⟨g, rfl, hb, -, hc⟩ := h3 0 (by omega)
    have hH := hH.holds
    have hblk : g < w.heap.size := World.block_lt_of_cell? _ _ (cells_two.1 hc).1
    have eg : ∀ args w, (callFunc 29 args).run Tryz.prog w = .ok (.enter 29 args) w := enters_of Tryz.func29 (by kernel_rfl) rfl
    have hcon := AnyQ.slices_SortFunc laysSortRw 2 Tryz.isAgg41 Tryz.sizeOf41 cellsR (fun _ => rfl) (fun x v hv => one_R [x] x (by simp) v hv) cfR swoR 29 #[] g 0 c O.toArray w eg (fun _ _ _ _ x y => rowsCmp_ok x y _) hH hblk (by simpa using hl)
    change Calls Tryz.prog 28 _ _ _ at hcon
    rw [List.size_toArray] at hcon
    refine hcon.mono fun e w' ⟨he, d', n, os, hp, hs, hw⟩ => ?_
    obtain ⟨p1, -, p3⟩ := hp
    have hsz : d'.size = O.length := by rw [p1]; simp
    have hln : d'.toList.length = O.length := by simpa using hsz
    have hhold : HoldsK cellsR 2 w' g 0 d' := by
      rw [hw]
      exact holdsK_grow cellsR 2 _ _ _ _ _ (by rw [putRowK, size_putRow]; exact hblk) (holdsK_putRowK cellsR 2 _ _ _ _ _ (holdsK_ahead cellsR 2 _ n _ _ _ hH) p1)
    refine ⟨he, d'.toList, ?_, fun i j hi hj hij => ?_, ?_, [g], by rw [hw]; exact upd_sort d', fun k hk => by simp at hk; omega⟩
    · have q : (d'.extract 0 O.length).toList = d'.toList := by rw [← hsz]; simp
      rw [q] at p3
      simpa using p3
    · have := hs i j (Nat.zero_le _) hij (by omega)
      rw [ltOf_cfR, getElem!_pos d' j (by omega), getElem!_pos d' i (by omega)] at this
      simpa using this
    · have := RwOwn.of_holds hhold hb (c := c) (by omega) h2
      rw [hln] at this
      exact this
end Go.Proofs.YtajppgngoffonaaGreatDoor
