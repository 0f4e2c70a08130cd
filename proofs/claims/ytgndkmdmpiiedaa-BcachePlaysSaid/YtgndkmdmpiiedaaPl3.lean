/- BcachePlays, its parts: any call, done on both, answers alike. -/
import Derived.Test.YtgndkmdmpiiedaaPl2
namespace Go.Proofs.Ytgndkmdmpiiedaa
open Go.RowKit

theorem free_at : ∀ (l : List (Nd Int Int)), (∃ n ∈ l, n.it.p = 0) → ∃ l1 x l2, l = l1 ++ x :: l2 ∧ (∀ n ∈ l1, 0 < n.it.p) ∧ x.it.p = 0 := by
  intro l
  induction l with
  | nil => intro ⟨n, hn, _⟩; simp at hn
  | cons y l ih =>
    intro ⟨n, hn, hp⟩
    by_cases hy : y.it.p = 0
    · exact ⟨[], y, l, rfl, by simp, hy⟩
    · rcases List.mem_cons.1 hn with rfl | hn
      · exact absurd hp hy
      · obtain ⟨l1, x, l2, rfl, h1, h2⟩ := ih ⟨n, hn, hp⟩
        refine ⟨y :: l1, x, l2, rfl, ?_, h2⟩
        intro z hz
        rcases List.mem_cons.1 hz with rfl | hz
        · omega
        · exact h1 z hz

theorem ahead {l1 l2 : List (Nd Int Int)} {x : Nd Int Int} (h : ((l1 ++ x :: l2).map (·.it.k)).Nodup) {k : Int} (hk : x.it.k = k) : ∀ y ∈ l1.map (·.it), y.k ≠ k := by
  simp [List.nodup_append] at h
  obtain ⟨_, _, h3⟩ := h
  intro y hy q
  obtain ⟨n, hn, rfl⟩ := List.mem_map.1 hy
  exact (h3 n hn).1 (q.trans hk.symm)

theorem mapit (l1 l2 : List (Nd Int Int)) (x : Nd Int Int) : (l1 ++ x :: l2).map (·.it) = l1.map (·.it) ++ x.it :: l2.map (·.it) := by simp
theorem mapit2 (l1 l2 : List (Nd Int Int)) (x : Nd Int Int) : (l1 ++ l2 ++ [x]).map (·.it) = l1.map (·.it) ++ l2.map (·.it) ++ [x.it] := by simp
theorem mapit0 (l1 l2 : List (Nd Int Int)) : (l1 ++ l2).map (·.it) = l1.map (·.it) ++ l2.map (·.it) := by simp

section
variable {W : World} {c m r M : Nat} {lv : Value} {l : List (Nd Int Int)} {N : Nat} {w : World}

theorem done1 (h : Both W c m r M lv l N w) (K V : Int) (D : Bool) : Calls Try.prog 19 #[.pointer (some ⟨c, 0, none⟩), .pointer (some ⟨r, 0, none⟩), .agg #[.int .i64 1, .int .i64 K, .int .i64 V, .bool D]] w (DonePost W c m r M (N + 1)) := by
  have hlen := h.len
  have hl : l.length ≤ 1024 := by have := h.most; omega
  have hpins := h.pins
  have hkeys := h.rep.keys
  by_cases hin : ∃ x ∈ l, x.it.k = K
  · obtain ⟨x, hx, hk⟩ := hin
    obtain ⟨l1, l2, rfl⟩ := List.append_of_mem hx
    refine do1 W w h K V D x.it.v true (its := l1.map (·.it) ++ l2.map (·.it) ++ [x.it]) (fun X hX => ?_) (fun X hX => ?_) (by simp at hlen ⊢; omega) (fun y hy => ?_)
    · refine (II.get_hit X hX K hk).mono ?_
      rintro e w' ⟨he, hR, hU⟩
      exact ⟨he, _, hR, mapit2 .., hU, fun q hq => by left; simp at hq ⊢; grind⟩
    · rw [mapit] at hX
      exact Ref.get_hit X hX (by simpa using hl) K hk (ahead hkeys hk)
    · simp at hy
      rcases hy with ⟨n, hn, rfl⟩ | ⟨n, hn, rfl⟩ | rfl
      · have := hpins n (by simp [hn]); omega
      · have := hpins n (by simp [hn]); omega
      · have := hpins x (by simp); omega
  · have hn : ∀ n ∈ l, n.it.k ≠ K := fun n hn q => hin ⟨n, hn, q⟩
    refine do1 W w h K V D 0 false (its := l.map (·.it)) (fun X hX => ?_) (fun X hX => ?_) (by simpa using hlen) (fun y hy => ?_)
    · refine (II.get_miss X hX K hn).mono ?_
      rintro e w' ⟨he, rfl⟩
      exact ⟨he, _, hX, rfl, Upd.refl _ _, fun q hq => .inl hq⟩
    · refine (Ref.get_miss X hX (by simpa using hl) K (by simpa using hn)).mono ?_
      rintro e w' ⟨he, rfl⟩
      exact ⟨he, _, hX, Upd.refl _ _, fun q hq => .inl hq⟩
    · obtain ⟨n, hn, rfl⟩ := List.mem_map.1 hy
      have := hpins n hn; omega

theorem done2 (h : Both W c m r M lv l N w) (K V : Int) (D : Bool) : Calls Try.prog 19 #[.pointer (some ⟨c, 0, none⟩), .pointer (some ⟨r, 0, none⟩), .agg #[.int .i64 2, .int .i64 K, .int .i64 V, .bool D]] w (DonePost W c m r M (N + 1)) := by
  have hlen := h.len
  have hl : l.length ≤ 1024 := by have := h.most; omega
  have hpins := h.pins
  have hkeys := h.rep.keys
  by_cases hin : ∃ x ∈ l, x.it.k = K
  · obtain ⟨x, hx, hk⟩ := hin
    obtain ⟨l1, l2, rfl⟩ := List.append_of_mem hx
    refine do2 W w h K V D 0 0 false false 0 (its := l1.map (·.it) ++ l2.map (·.it) ++ [{ x.it with v := V, d := x.it.d || D }]) (fun X hX => ?_) (fun X hX => ?_) (by simp at hlen ⊢; omega) (fun y hy => ?_)
    · refine (II.put_there X hX K hk V D).mono ?_
      rintro e w' ⟨he, hR, hU⟩
      exact ⟨he, _, hR, mapit2 .., hU, fun q hq => by left; simp at hq ⊢; grind⟩
    · rw [mapit] at hX
      exact Ref.put_there X hX (by simpa using hl) K hk (ahead hkeys hk) V D
    · simp at hy
      rcases hy with ⟨n, hn, rfl⟩ | ⟨n, hn, rfl⟩ | rfl
      · have := hpins n (by simp [hn]); omega
      · have := hpins n (by simp [hn]); omega
      · have := hpins x (by simp); simp; omega
  · have hn : ∀ n ∈ l, n.it.k ≠ K := fun n hn q => hin ⟨n, hn, q⟩
    have hn' : ∀ y ∈ l.map (·.it), y.k ≠ K := by simpa using hn
    by_cases hM : l.length = M
    · by_cases hfree : ∃ n ∈ l, n.it.p = 0
      · obtain ⟨l1, x, l2, rfl, h1, h2⟩ := free_at l hfree
        refine do2 W w h K V D x.it.k x.it.v true x.it.d 0 (its := l1.map (·.it) ++ l2.map (·.it) ++ [{ k := K, v := V, d := D, p := 0 }]) (fun X hX => ?_) (fun X hX => ?_) (by simp at hlen ⊢; omega) (fun y hy => ?_)
        · refine (II.put_goes X hX K hn V D (by exact_mod_cast hM) h1 h2).mono ?_
          rintro e w' ⟨a, he, hR, hU, ha⟩
          exact ⟨he, _, hR, mapit2 .., hU, fun q hq => by simp at hq ⊢; grind⟩
        · rw [mapit] at hX hn'
          exact Ref.put_goes X hX (by simpa using hl) K hn' (by simp at hM ⊢; omega) (by simpa using h1) h2 V D
        · simp at hy
          rcases hy with ⟨n, hn, rfl⟩ | ⟨n, hn, rfl⟩ | rfl
          · have := hpins n (by simp [hn]); omega
          · have := hpins n (by simp [hn]); omega
          · simp
      · have hp : ∀ n ∈ l, 0 < n.it.p := fun n hn => Nat.pos_of_ne_zero (fun q => hfree ⟨n, hn, q⟩)
        refine do2 W w h K V D 0 0 false false 70 (its := l.map (·.it)) (fun X hX => ?_) (fun X hX => ?_) (by simpa using hlen) (fun y hy => ?_)
        · refine (II.put_full X hX K hn V D (by exact_mod_cast hM) hp).mono ?_
          rintro e w' ⟨he, hR, hU⟩
          exact ⟨he, _, hR, rfl, hU, fun q hq => .inl hq⟩
        · exact Ref.put_full X hX (by simpa using hl) K hn' (by simp [hM]) (by simpa using hp) V D
        · obtain ⟨n, hn, rfl⟩ := List.mem_map.1 hy
          have := hpins n hn; omega
    · refine do2 W w h K V D 0 0 false false 0 (its := l.map (·.it) ++ [{ k := K, v := V, d := D, p := 0 }]) (fun X hX => ?_) (fun X hX => ?_) (by simp; omega) (fun y hy => ?_)
      · refine (II.put_new X hX K hn V D (fun q => hM (by exact_mod_cast q))).mono ?_
        rintro e w' ⟨a, he, hR, hU, ha⟩
        exact ⟨he, _, hR, by simp, hU, fun q hq => by simp at hq ⊢; grind⟩
      · exact Ref.put_new X hX (by simpa using hl) K hn' (fun q => hM (by simp at q; exact_mod_cast q)) V D
      · simp at hy
        rcases hy with ⟨n, hn, rfl⟩ | rfl
        · have := hpins n hn; omega
        · simp

theorem done3 (h : Both W c m r M lv l N w) (hN : N ≤ 1000000) (K V : Int) (D : Bool) : Calls Try.prog 19 #[.pointer (some ⟨c, 0, none⟩), .pointer (some ⟨r, 0, none⟩), .agg #[.int .i64 3, .int .i64 K, .int .i64 V, .bool D]] w (DonePost W c m r M (N + 1)) := by
  have hlen := h.len
  have hl : l.length ≤ 1024 := by have := h.most; omega
  have hpins := h.pins
  have hkeys := h.rep.keys
  by_cases hin : ∃ x ∈ l, x.it.k = K
  · obtain ⟨x, hx, hk⟩ := hin
    obtain ⟨l1, l2, rfl⟩ := List.append_of_mem hx
    have hpx := hpins x (by simp)
    refine do3 W w h K V D 0 (its := l1.map (·.it) ++ { x.it with p := x.it.p + 1 } :: l2.map (·.it)) (fun X hX => ?_) (fun X hX => ?_) (by simp at hlen ⊢; omega) (fun y hy => ?_)
    · refine (II.pin_hit X hX K hk (by omega)).mono ?_
      rintro e w' ⟨he, hR, hU⟩
      exact ⟨he, _, hR, mapit .., hU, fun q hq => by left; simp at hq ⊢; grind⟩
    · rw [mapit] at hX
      exact Ref.do_pin X hX (by simpa using hl) K hk (ahead hkeys hk) (by omega)
    · simp at hy
      rcases hy with ⟨n, hn, rfl⟩ | rfl | ⟨n, hn, rfl⟩
      · have := hpins n (by simp [hn]); omega
      · simp; omega
      · have := hpins n (by simp [hn]); omega
  · have hn : ∀ n ∈ l, n.it.k ≠ K := fun n hn q => hin ⟨n, hn, q⟩
    refine do3 W w h K V D 71 (its := l.map (·.it)) (fun X hX => ?_) (fun X hX => ?_) (by simpa using hlen) (fun y hy => ?_)
    · refine (II.pin_miss X hX K hn).mono ?_
      rintro e w' ⟨he, hR, hU⟩
      exact ⟨he, _, hR, rfl, hU, fun q hq => .inl hq⟩
    · exact Ref.do_miss X hX (by simpa using hl) 1 K (by simpa using hn)
    · obtain ⟨n, hn, rfl⟩ := List.mem_map.1 hy
      have := hpins n hn; omega

theorem done4 (h : Both W c m r M lv l N w) (hN : N ≤ 1000000) (K V : Int) (D : Bool) : Calls Try.prog 19 #[.pointer (some ⟨c, 0, none⟩), .pointer (some ⟨r, 0, none⟩), .agg #[.int .i64 4, .int .i64 K, .int .i64 V, .bool D]] w (DonePost W c m r M (N + 1)) := by
  have hlen := h.len
  have hl : l.length ≤ 1024 := by have := h.most; omega
  have hpins := h.pins
  have hkeys := h.rep.keys
  by_cases hin : ∃ x ∈ l, x.it.k = K
  · obtain ⟨x, hx, hk⟩ := hin
    obtain ⟨l1, l2, rfl⟩ := List.append_of_mem hx
    have hpx := hpins x (by simp)
    by_cases hp0 : x.it.p = 0
    · refine do4 W w h K V D 72 (its := l1.map (·.it) ++ x.it :: l2.map (·.it)) (fun X hX => ?_) (fun X hX => ?_) (by simp at hlen ⊢; omega) (fun y hy => ?_)
      · refine (II.unpin_zero X hX K hk hp0).mono ?_
        rintro e w' ⟨he, hR, hU⟩
        exact ⟨he, _, hR, mapit .., hU, fun q hq => .inl hq⟩
      · rw [mapit] at hX
        exact Ref.do_unpin0 X hX (by simpa using hl) K hk (ahead hkeys hk) hp0
      · simp at hy
        rcases hy with ⟨n, hn, rfl⟩ | rfl | ⟨n, hn, rfl⟩
        · have := hpins n (by simp [hn]); omega
        · omega
        · have := hpins n (by simp [hn]); omega
    · refine do4 W w h K V D 0 (its := l1.map (·.it) ++ { x.it with p := x.it.p - 1 } :: l2.map (·.it)) (fun X hX => ?_) (fun X hX => ?_) (by simp at hlen ⊢; omega) (fun y hy => ?_)
      · refine (II.unpin_hit X hX K hk (by omega) (by omega)).mono ?_
        rintro e w' ⟨he, hR, hU⟩
        exact ⟨he, _, hR, mapit .., hU, fun q hq => by left; simp at hq ⊢; grind⟩
      · rw [mapit] at hX
        exact Ref.do_unpin X hX (by simpa using hl) K hk (ahead hkeys hk) (by omega) (by omega)
      · simp at hy
        rcases hy with ⟨n, hn, rfl⟩ | rfl | ⟨n, hn, rfl⟩
        · have := hpins n (by simp [hn]); omega
        · simp; omega
        · have := hpins n (by simp [hn]); omega
  · have hn : ∀ n ∈ l, n.it.k ≠ K := fun n hn q => hin ⟨n, hn, q⟩
    refine do4 W w h K V D 71 (its := l.map (·.it)) (fun X hX => ?_) (fun X hX => ?_) (by simpa using hlen) (fun y hy => ?_)
    · refine (II.unpin_miss X hX K hn).mono ?_
      rintro e w' ⟨he, hR, hU⟩
      exact ⟨he, _, hR, rfl, hU, fun q hq => .inl hq⟩
    · exact Ref.do_miss X hX (by simpa using hl) 2 K (by simpa using hn)
    · obtain ⟨n, hn, rfl⟩ := List.mem_map.1 hy
      have := hpins n hn; omega

theorem done5 (h : Both W c m r M lv l N w) (K V : Int) (D : Bool) : Calls Try.prog 19 #[.pointer (some ⟨c, 0, none⟩), .pointer (some ⟨r, 0, none⟩), .agg #[.int .i64 5, .int .i64 K, .int .i64 V, .bool D]] w (DonePost W c m r M (N + 1)) := by
  have hlen := h.len
  have hl : l.length ≤ 1024 := by have := h.most; omega
  have hpins := h.pins
  have hkeys := h.rep.keys
  by_cases hin : ∃ x ∈ l, x.it.k = K
  · obtain ⟨x, hx, hk⟩ := hin
    obtain ⟨l1, l2, rfl⟩ := List.append_of_mem hx
    have hpx := hpins x (by simp)
    refine do5 W w h K V D 0 (its := l1.map (·.it) ++ { x.it with d := false } :: l2.map (·.it)) (fun X hX => ?_) (fun X hX => ?_) (by simp at hlen ⊢; omega) (fun y hy => ?_)
    · refine (II.clean_hit X hX K hk).mono ?_
      rintro e w' ⟨he, hR, hU⟩
      exact ⟨he, _, hR, mapit .., hU, fun q hq => by left; simp at hq ⊢; grind⟩
    · rw [mapit] at hX
      exact Ref.do_clean X hX (by simpa using hl) K hk (ahead hkeys hk)
    · simp at hy
      rcases hy with ⟨n, hn, rfl⟩ | rfl | ⟨n, hn, rfl⟩
      · have := hpins n (by simp [hn]); omega
      · simp; omega
      · have := hpins n (by simp [hn]); omega
  · have hn : ∀ n ∈ l, n.it.k ≠ K := fun n hn q => hin ⟨n, hn, q⟩
    refine do5 W w h K V D 71 (its := l.map (·.it)) (fun X hX => ?_) (fun X hX => ?_) (by simpa using hlen) (fun y hy => ?_)
    · refine (II.clean_miss X hX K hn).mono ?_
      rintro e w' ⟨he, hR, hU⟩
      exact ⟨he, _, hR, rfl, hU, fun q hq => .inl hq⟩
    · exact Ref.do_miss X hX (by simpa using hl) 3 K (by simpa using hn)
    · obtain ⟨n, hn, rfl⟩ := List.mem_map.1 hy
      have := hpins n hn; omega

theorem done6 (h : Both W c m r M lv l N w) (K V : Int) (D : Bool) : Calls Try.prog 19 #[.pointer (some ⟨c, 0, none⟩), .pointer (some ⟨r, 0, none⟩), .agg #[.int .i64 6, .int .i64 K, .int .i64 V, .bool D]] w (DonePost W c m r M (N + 1)) := by
  have hlen := h.len
  have hl : l.length ≤ 1024 := by have := h.most; omega
  have hpins := h.pins
  have hkeys := h.rep.keys
  by_cases hin : ∃ x ∈ l, x.it.k = K
  · obtain ⟨x, hx, hk⟩ := hin
    obtain ⟨l1, l2, rfl⟩ := List.append_of_mem hx
    have hpx := hpins x (by simp)
    by_cases hp0 : x.it.p = 0
    · refine do6 W w h K V D 0 (its := l1.map (·.it) ++ l2.map (·.it)) (fun X hX => ?_) (fun X hX => ?_) (by simp at hlen ⊢; omega) (fun y hy => ?_)
      · refine (II.drop_hit X hX K hk hp0).mono ?_
        rintro e w' ⟨he, hR, hU⟩
        exact ⟨he, _, hR, mapit0 .., hU, fun q hq => by left; simp at hq ⊢; grind⟩
      · rw [mapit] at hX
        exact Ref.do_drop X hX (by simpa using hl) K hk (ahead hkeys hk) hp0
      · simp at hy
        rcases hy with ⟨n, hn, rfl⟩ | ⟨n, hn, rfl⟩
        · have := hpins n (by simp [hn]); omega
        · have := hpins n (by simp [hn]); omega
    · refine do6 W w h K V D 72 (its := l1.map (·.it) ++ x.it :: l2.map (·.it)) (fun X hX => ?_) (fun X hX => ?_) (by simp at hlen ⊢; omega) (fun y hy => ?_)
      · refine (II.drop_pinned X hX K hk (by omega)).mono ?_
        rintro e w' ⟨he, hR, hU⟩
        exact ⟨he, _, hR, mapit .., hU, fun q hq => .inl hq⟩
      · rw [mapit] at hX
        exact Ref.do_drop1 X hX (by simpa using hl) K hk (ahead hkeys hk) (by omega)
      · simp at hy
        rcases hy with ⟨n, hn, rfl⟩ | rfl | ⟨n, hn, rfl⟩
        · have := hpins n (by simp [hn]); omega
        · omega
        · have := hpins n (by simp [hn]); omega
  · have hn : ∀ n ∈ l, n.it.k ≠ K := fun n hn q => hin ⟨n, hn, q⟩
    refine do6 W w h K V D 71 (its := l.map (·.it)) (fun X hX => ?_) (fun X hX => ?_) (by simpa using hlen) (fun y hy => ?_)
    · refine (II.drop_miss X hX K hn).mono ?_
      rintro e w' ⟨he, hR, hU⟩
      exact ⟨he, _, hR, rfl, hU, fun q hq => .inl hq⟩
    · exact Ref.do_miss X hX (by simpa using hl) 4 K (by simpa using hn)
    · obtain ⟨n, hn, rfl⟩ := List.mem_map.1 hy
      have := hpins n hn; omega

theorem Both.mono {N' : Nat} (h : Both W c m r M lv l N w) (hN : N ≤ N') : Both W c m r M lv l N' w :=
  ⟨h.rep, h.ref, h.len, h.most, fun n hn => Nat.le_trans (h.pins n hn) hN, h.upd, h.old, h.apart⟩

set_option maxRecDepth 100000 in
set_option maxHeartbeats 2000000 in
theorem done7 (h : Both W c m r M lv l N w) (K V : Int) (D : Bool) : Calls Try.prog 19 #[.pointer (some ⟨c, 0, none⟩), .pointer (some ⟨r, 0, none⟩), .agg #[.int .i64 7, .int .i64 K, .int .i64 V, .bool D]] w (DonePost W c m r M (N + 1)) := by
  have HB : Hid (∀ X, Upd [] w X → Both W c m r M lv l N X) := Lib.hid fun X u => h.keep u
  clear h
  go_enter Try.func19, Try.ntmps19
  go_wp2_with fail
  refine (asked_ok W _ (HB.out _ ((Upd.refl _ _).alloc _))).mono ?_
  rintro e w1 ⟨rfl, hU⟩
  have HF : Hid (∃ lv' l', Both W c m r M lv' l' (N + 1) w1) := Lib.hid ⟨lv, l, (HB.out w1 (((Upd.refl [] w).alloc _).trans hU)).mono (by omega)⟩
  clear hU
  go_wp2_with fail
  go_ret
  exact ⟨rfl, HF.out⟩

set_option maxRecDepth 100000 in
set_option maxHeartbeats 2000000 in
theorem done0 (h : Both W c m r M lv l N w) (kind K V : Int) (D : Bool) (h1 : kind ≠ 1) (h2 : kind ≠ 2) (h3 : kind ≠ 3) (h4 : kind ≠ 4) (h5 : kind ≠ 5) (h6 : kind ≠ 6) (h7 : kind ≠ 7) :
    Calls Try.prog 19 #[.pointer (some ⟨c, 0, none⟩), .pointer (some ⟨r, 0, none⟩), .agg #[.int .i64 kind, .int .i64 K, .int .i64 V, .bool D]] w (DonePost W c m r M (N + 1)) := by
  have HB : Hid (∃ lv' l', Both W c m r M lv' l' (N + 1) (w.alloc (.cells #[.int .i64 kind, .int .i64 K, .int .i64 V, .bool D] 53))) := Lib.hid ⟨lv, l, (h.keep ((Upd.refl [] w).alloc _)).mono (by omega)⟩
  have q1 : (kind == 1) = false := by simpa using h1
  have q2 : (kind == 2) = false := by simpa using h2
  have q3 : (kind == 3) = false := by simpa using h3
  have q4 : (kind == 4) = false := by simpa using h4
  have q5 : (kind == 5) = false := by simpa using h5
  have q6 : (kind == 6) = false := by simpa using h6
  have q7 : (kind == 7) = false := by simpa using h7
  clear h h1 h2 h3 h4 h5 h6 h7
  go_enter Try.func19, Try.ntmps19
  go_wp2_with fail
  go_ret
  exact ⟨rfl, HB.out⟩

theorem done_ok (h : Both W c m r M lv l N w) (hN : N ≤ 1000000) (kind K V : Int) (D : Bool) :
    Calls Try.prog 19 #[.pointer (some ⟨c, 0, none⟩), .pointer (some ⟨r, 0, none⟩), .agg #[.int .i64 kind, .int .i64 K, .int .i64 V, .bool D]] w (DonePost W c m r M (N + 1)) := by
  by_cases h1 : kind = 1
  · subst h1; exact done1 h K V D
  by_cases h2 : kind = 2
  · subst h2; exact done2 h K V D
  by_cases h3 : kind = 3
  · subst h3; exact done3 h hN K V D
  by_cases h4 : kind = 4
  · subst h4; exact done4 h hN K V D
  by_cases h5 : kind = 5
  · subst h5; exact done5 h K V D
  by_cases h6 : kind = 6
  · subst h6; exact done6 h K V D
  by_cases h7 : kind = 7
  · subst h7; exact done7 h K V D
  exact done0 h kind K V D h1 h2 h3 h4 h5 h6 h7
end
end Go.Proofs.Ytgndkmdmpiiedaa
