/- BcacheOldest, its parts: one Put of a cache without pins, said of the list of its keys; Pick. -/
import Derived.Test.YtgndkmdmpiiedaaIB4
import Derived.Test.YtgndkmdmpiiedaaAwake
namespace Go.Proofs.Ytgndkmdmpiiedaa
open Go.RowKit

/-- The keys in use, the last one first, behind one more use. -/
def nowOf (M : Nat) (k : Int) (used : List Int) : List Int := (k :: used.filter (fun q => q != k)).take M

theorem filter_all {k : Int} {l : List Int} (h : k ∉ l) : l.filter (fun q => q != k) = l := by
  rw [List.filter_eq_self]
  intro q hq
  simp
  rintro rfl
  exact h hq

theorem now_len (M : Nat) (k : Int) (u : List Int) : (nowOf M k u).length ≤ M := by unfold nowOf; exact List.length_take_le _ _
theorem now_nil {M : Nat} (k : Int) (h : 1 ≤ M) : nowOf M k [] = [k] := by
  obtain ⟨M, rfl⟩ : ∃ m, M = m + 1 := ⟨M - 1, by omega⟩
  simp [nowOf]
theorem now_app (M : Nat) (k : Int) (u v : List Int) : nowOf M k (u ++ v) = nowOf M k u ++ (v.filter (fun q => q != k)).take (M - (nowOf M k u).length) := by
  unfold nowOf
  rw [List.filter_append, ← List.cons_append, List.take_append]
  congr 2
  rw [List.length_take]
  omega
theorem now_step {M : Nat} {k : Int} {u : List Int} {j : Nat} (hj : j < u.length) : nowOf M k (u.take (j + 1)) =
    if (u.getD j 0 != k) = true ∧ (nowOf M k (u.take j)).length < M then nowOf M k (u.take j) ++ [u.getD j 0] else nowOf M k (u.take j) := by
  have e : u.take (j + 1) = u.take j ++ [u.getD j 0] := by
    rw [List.take_succ_eq_append_getElem hj]; simp [List.getD_eq_getElem?_getD, List.getElem?_eq_getElem hj]
  rw [e, now_app]
  have hl := now_len M k (u.take j)
  by_cases h1 : (u.getD j 0 != k) = true
  · by_cases h2 : (nowOf M k (u.take j)).length < M
    · rw [if_pos ⟨h1, h2⟩, List.filter_cons, if_pos h1]
      rw [List.filter_nil, List.take_of_length_le (l := [u.getD j 0]) (by simp; omega)]
    · rw [if_neg (fun h => h2 h.2)]
      have : M - (nowOf M k (u.take j)).length = 0 := by omega
      rw [this]; simp
  · rw [if_neg (fun h => h1 h.1), List.filter_cons, if_neg h1]; simp
theorem now_full {M : Nat} {k : Int} {u : List Int} {j : Nat} (h : ¬ (nowOf M k (u.take j)).length < M) : nowOf M k (u.take j) = nowOf M k u := by
  have e := now_app M k (u.take j) (u.drop j)
  rw [List.take_append_drop] at e
  rw [e]
  have : M - (nowOf M k (u.take j)).length = 0 := by omega
  rw [this]; simp

theorem own_mono {w : World} {base base' : Nat} {e : TypeId} {size : Nat} {v : Value} {n : Nat} {xs : List Value} (h : w.ownsRow base e size v n xs) (hb : base' ≤ base) : w.ownsRow base' e size v n xs := by
  obtain ⟨h1, h2⟩ := h
  refine ⟨h1, ?_⟩
  rcases h2 with h2 | ⟨g, cap, cur, hv, hg, r⟩
  · exact Or.inl h2
  · exact Or.inr ⟨g, cap, cur, hv, Nat.le_trans hb hg, r⟩

theorem pick_ok (c n : Int) (w : World) (h1 : -9223372036854775808 ≤ c) (h2 : c ≤ 9223372036854775807) (h3 : 1 ≤ n) (h4 : n ≤ 1000000) :
    Calls Try.prog 8 #[.int .i64 c, .int .i64 n] w fun e w' => (∃ r : Int, e = .returned (.int .i64 r) ∧ 0 ≤ r ∧ r < n) ∧ w = w' := by
  have HE : Hid (∀ r : Int, 0 ≤ r → 0 ≤ r % n ∧ r % n < n) := Lib.hid (fun r hr => ⟨Int.emod_nonneg _ (by omega), Int.emod_lt_of_pos _ (by omega)⟩)
  have HT : Hid (c < 0 → 0 ≤ -((c + 1).tmod n) ∧ -((c + 1).tmod n) < n) := Lib.hid (fun h => by
    have e : -((c + 1).tmod n) = (-(c + 1)) % n := by rw [← Int.neg_tmod, Int.tmod_eq_emod_of_nonneg (by omega)]
    rw [e]; exact HE.out _ (by omega))
  by_cases h : c < 0
  · have hz : (n == 0) = false := by simp; omega
    go_enter Try.func8, Try.ntmps8
    go_wp2
    go_ret
    exact ⟨⟨-((c + 1).tmod n), rfl, HT.out h⟩, rfl⟩
  · have hz : (n == 0) = false := by simp; omega
    go_enter Try.func8, Try.ntmps8
    go_wp2
    go_ret
    exact ⟨⟨_, rfl, HE.out _ (by omega)⟩, rfl⟩

namespace IB
def StepPost (w : World) (c m : Nat) (M : Nat) (l : List (Nd Int Bool)) (used : List Int) (k : Int) (e : Ending) (w' : World) : Prop :=
  ∃ v l', e = .returned v ∧ Rep cfg w' c m M l' ∧ l'.map (·.it.k) = (nowOf M k used).reverse ∧ (∀ n ∈ l', n.it.p = 0) ∧ Upd (foot c m l) w w' ∧ (∀ q ∈ foot c m l', q ∈ foot c m l ∨ w.heap.size ≤ q)

theorem put_step (w : World) {c m M : Nat} {l : List (Nd Int Bool)} (h : Rep cfg w c m M l) (used : List Int) (hu : l.map (·.it.k) = used.reverse) (hM : used.length ≤ M) (h1 : 1 ≤ M) (hp : ∀ n ∈ l, n.it.p = 0) (k : Int) (v d : Bool) :
    Calls Try.prog 10 #[.pointer (some ⟨c, 0, none⟩), .int .i64 k, .bool v, .bool d] w (StepPost w c m M l used k) := by
  have hus : used = (l.map (·.it.k)).reverse := by rw [hu, List.reverse_reverse]
  have hlen : l.length = used.length := by rw [hus]; simp
  have hnd := h.keys
  by_cases hk : ∃ x ∈ l, x.it.k = k
  · obtain ⟨x, hx, hk⟩ := hk
    obtain ⟨l1, l2, rfl⟩ := List.append_of_mem hx
    refine (put_there w h k hk v d).mono ?_
    rintro e w' ⟨rfl, hR, hU⟩
    refine ⟨_, _, rfl, hR, ?_, ?_, hU, ?_⟩
    · simp [List.nodup_append] at hnd
      obtain ⟨g1, ⟨g2, g3⟩, g4⟩ := hnd
      have e1 : k ∉ (l2.map (·.it.k)).reverse := by simp; intro y hy; rw [← hk]; exact g2 y hy
      have e2 : k ∉ (l1.map (·.it.k)).reverse := by simp; intro y hy; rw [← hk]; exact fun q => (g4 y hy).1 q
      unfold nowOf
      rw [hus]
      simp only [List.map_append, List.map_cons, List.reverse_append, List.reverse_cons, List.append_assoc, List.filter_append, filter_all e1, filter_all e2, List.singleton_append, List.filter_cons, hk]
      simp only [bne_self_eq_false, Bool.false_eq_true, if_false]
      rw [List.take_of_length_le]
      · simp
      · simp at hlen ⊢; omega
    · intro n hn
      simp at hn
      rcases hn with hn | hn | rfl
      · exact hp n (by simp [hn])
      · exact hp n (by simp [hn])
      · exact hp x (by simp)
    · intro q hq; left; simp at hq ⊢; grind
  · have hk' : ∀ n ∈ l, n.it.k ≠ k := fun n hn q => hk ⟨n, hn, q⟩
    have e1 : k ∉ used := by rw [hus]; simpa using hk'
    by_cases hl : l.length = M
    · cases l with
      | nil => simp at hl; omega
      | cons x l2 =>
        refine (put_goes (l1 := []) w h k hk' v d (by simpa using congrArg (Nat.cast (R := Int)) hl) (by simp) (hp x (by simp))).mono ?_
        rintro e w' ⟨a, rfl, hR, hU, ha⟩
        refine ⟨_, _, rfl, hR, ?_, ?_, hU, ?_⟩
        · unfold nowOf
          rw [filter_all e1, hus]
          simp at hl
          obtain ⟨M, rfl⟩ : ∃ m, M = m + 1 := ⟨M - 1, by omega⟩
          simp only [List.map_cons, List.reverse_cons, List.take_succ_cons]
          rw [List.take_append_of_le_length (by simp; omega), List.take_of_length_le (by simp; omega)]
          simp
        · intro n hn
          simp at hn
          rcases hn with hn | rfl
          · exact hp n (by simp [hn])
          · rfl
        · intro q hq; simp at hq ⊢; grind
    · refine (put_new w h k hk' v d (by simpa using fun q => hl (by exact_mod_cast q))).mono ?_
      rintro e w' ⟨a, rfl, hR, hU, ha⟩
      refine ⟨_, _, rfl, hR, ?_, ?_, hU, ?_⟩
      · unfold nowOf
        rw [filter_all e1, List.take_of_length_le (by simp; omega), hus]
        simp
      · intro n hn
        simp at hn
        rcases hn with hn | rfl
        · exact hp n hn
        · rfl
      · intro q hq; simp at hq ⊢; grind
end IB
end Go.Proofs.Ytgndkmdmpiiedaa
