/- BcacheHolds, its parts: one Put beside a pinned thing; one Get of what was put. -/
import Derived.Test.YtgndkmdmpiiedaaSI3
import Derived.Test.YtgndkmdmpiiedaaSI6
namespace Go.Proofs.Ytgndkmdmpiiedaa.SI
open Go.RowKit

/-- One thing is pinned, once; it lies under 'pin' and holds -1; there are never more than may be. -/
def HInv (pin : ByteArray) (M : Nat) (l : List (Nd ByteArray Int)) : Prop :=
  l.length ≤ M ∧ (∃ x ∈ l, x.it.k = pin ∧ x.it.v = -1 ∧ x.it.p = 1) ∧ ∀ n ∈ l, n.it.k ≠ pin → n.it.p = 0

theorem first_free : ∀ (l : List (Nd ByteArray Int)), (∃ n ∈ l, n.it.p = 0) → ∃ l1 x l2, l = l1 ++ x :: l2 ∧ (∀ n ∈ l1, 0 < n.it.p) ∧ x.it.p = 0 := by
  intro l
  induction l with
  | nil => intro ⟨n, hn, _⟩; simp at hn
  | cons y l ih =>
    intro ⟨n, hn, hp⟩
    by_cases hy : y.it.p = 0
    · exact ⟨[], y, l, rfl, by simp, hy⟩
    · rcases List.mem_cons.1 hn with rfl | hn
      · exact absurd hp hy
      · obtain ⟨l1, x, l2, rfl, h1, h2⟩ := ih ⟨n, hn, hp⟩
        refine ⟨y :: l1, x, l2, rfl, ?_, h2⟩
        intro z hz
        rcases List.mem_cons.1 hz with rfl | hz
        · omega
        · exact h1 z hz

def HPost (w : World) (c m M : Nat) (pin : ByteArray) (l : List (Nd ByteArray Int)) (k : ByteArray) (v : Int) (e : Ending) (w' : World) : Prop :=
  ∃ gk gv went gd l', e = .returned (.tuple #[cfg.ek gk, cfg.ev gv, .bool went, .bool gd, .int .i64 0]) ∧ (went = true → gk ≠ pin) ∧ Rep cfg w' c m M l' ∧ HInv pin M l' ∧ (∃ x ∈ l', x.it.k = k ∧ x.it.v = v) ∧
    Upd (foot c m l) w w' ∧ ∀ q ∈ foot c m l', q ∈ foot c m l ∨ w.heap.size ≤ q

theorem put_hold (w : World) {c m M : Nat} {l : List (Nd ByteArray Int)} (h : Rep cfg w c m M l) {pin : ByteArray} (hI : HInv pin M l) (hM : 2 ≤ M) (k : ByteArray) (hk : k ≠ pin) (v : Int) (d : Bool) :
    Calls Try.prog 13 #[.pointer (some ⟨c, 0, none⟩), .string k, .int .i64 v, .bool d] w (HPost w c m M pin l k v) := by
  obtain ⟨hl, ⟨x0, hx0, hxk, hxv, hxp⟩, hp⟩ := hI
  have hnd := h.keys
  by_cases hin : ∃ x ∈ l, x.it.k = k
  · obtain ⟨x, hx, hxk2⟩ := hin
    obtain ⟨l1, l2, rfl⟩ := List.append_of_mem hx
    refine (put_there w h k hxk2 v d).mono ?_
    rintro e w' ⟨rfl, hR, hU⟩
    refine ⟨_, _, _, _, _, rfl, by simp, hR, ⟨by simp at hl ⊢; omega, ⟨x0, ?_, hxk, hxv, hxp⟩, ?_⟩, ⟨_, List.mem_append_right _ (List.mem_singleton.2 rfl), hxk2, rfl⟩, hU, ?_⟩
    · simp at hx0 ⊢
      rcases hx0 with hx0 | rfl | hx0
      · exact .inl hx0
      · exact absurd (hxk2.symm.trans hxk) hk
      · exact .inr (.inl hx0)
    · intro n hn hne
      simp at hn
      rcases hn with hn | hn | rfl
      · exact hp n (by simp [hn]) hne
      · exact hp n (by simp [hn]) hne
      · exact hp x (by simp) hne
    · intro q hq; left; simp at hq ⊢; grind
  · have hk' : ∀ n ∈ l, n.it.k ≠ k := fun n hn q => hin ⟨n, hn, q⟩
    by_cases hlM : l.length = M
    · have hfree : ∃ n ∈ l, n.it.p = 0 := by
        rcases l with _ | ⟨a, _ | ⟨b, r⟩⟩
        · simp at hlM; omega
        · simp at hlM; omega
        · by_cases ha : a.it.k = pin
          · refine ⟨b, by simp, hp b (by simp) (fun hb => ?_)⟩
            simp at hnd
            exact hnd.1.1 (ha.trans hb.symm)
          · exact ⟨a, by simp, hp a (by simp) ha⟩
      obtain ⟨l1, x, l2, rfl, h1, h2⟩ := first_free l hfree
      refine (put_goes w h k hk' v d (by exact_mod_cast hlM) h1 h2).mono ?_
      rintro e w' ⟨a, rfl, hR, hU, ha⟩
      have hx0x : x0 ≠ x := fun q => by rw [q, h2] at hxp; cases hxp
      have hxne : x.it.k ≠ pin := fun q => by
        have hm : x0 ∈ l1 ∨ x0 ∈ l2 := by
          rcases List.mem_append.1 hx0 with h | h
          · exact .inl h
          · rcases List.mem_cons.1 h with h | h
            · exact absurd h hx0x
            · exact .inr h
        simp [List.nodup_append] at hnd
        obtain ⟨g1, ⟨g2, g3⟩, g4⟩ := hnd
        rcases hm with hm | hm
        · exact (g4 x0 hm).1 (hxk.trans q.symm)
        · exact g2 x0 hm (hxk.trans q.symm)
      refine ⟨_, _, _, _, _, rfl, fun _ => hxne, hR, ⟨by simp at hl ⊢; omega, ⟨x0, ?_, hxk, hxv, hxp⟩, ?_⟩, ⟨_, List.mem_append_right _ (List.mem_singleton.2 rfl), rfl, rfl⟩, hU, ?_⟩
      · simp at hx0 ⊢
        rcases hx0 with hx0 | hx0 | hx0
        · exact .inl hx0
        · exact absurd hx0 hx0x
        · exact .inr (.inl hx0)
      · intro n hn hne
        simp at hn
        rcases hn with hn | hn | rfl
        · exact hp n (by simp [hn]) hne
        · exact hp n (by simp [hn]) hne
        · rfl
      · intro q hq; simp at hq ⊢; grind
    · refine (put_new w h k hk' v d (fun q => hlM (by exact_mod_cast q))).mono ?_
      rintro e w' ⟨a, rfl, hR, hU, ha⟩
      refine ⟨_, _, _, _, _, rfl, by simp, hR, ⟨by simp; omega, ⟨x0, by simp [hx0], hxk, hxv, hxp⟩, ?_⟩, ⟨_, List.mem_append_right _ (List.mem_singleton.2 rfl), rfl, rfl⟩, hU, ?_⟩
      · intro n hn hne
        simp at hn
        rcases hn with hn | rfl
        · exact hp n hn hne
        · rfl
      · intro q hq; simp at hq ⊢; grind

def GotPost (w : World) (c m M : Nat) (pin : ByteArray) (l : List (Nd ByteArray Int)) (v : Int) (e : Ending) (w' : World) : Prop :=
  ∃ l', e = .returned (.tuple #[.int .i64 v, .bool true]) ∧ Rep cfg w' c m M l' ∧ HInv pin M l' ∧ Upd (foot c m l) w w' ∧ ∀ q ∈ foot c m l', q ∈ foot c m l

theorem get_hold (w : World) {c m M : Nat} {l : List (Nd ByteArray Int)} (h : Rep cfg w c m M l) {pin : ByteArray} (hI : HInv pin M l) (k : ByteArray) (v : Int) (hx : ∃ x ∈ l, x.it.k = k ∧ x.it.v = v) :
    Calls Try.prog 15 #[.pointer (some ⟨c, 0, none⟩), .string k] w (GotPost w c m M pin l v) := by
  obtain ⟨x, hx, hk, hv⟩ := hx
  obtain ⟨l1, l2, rfl⟩ := List.append_of_mem hx
  refine (get_hit w h k hk).mono ?_
  rintro e w' ⟨rfl, hR, hU⟩
  obtain ⟨hl, ⟨x0, hx0, hq⟩, hp⟩ := hI
  refine ⟨_, by rw [← hv], hR, ⟨by simp at hl ⊢; omega, ⟨x0, by simp at hx0 ⊢; grind, hq⟩, fun n hn => hp n (by simp at hn ⊢; grind)⟩, hU, fun q hq => by simp at hq ⊢; grind⟩
end Go.Proofs.Ytgndkmdmpiiedaa.SI
