/- BcachePlays, its parts: the cache and the reference side by side; asked. -/
import Derived.Test.YtgndkmdmpiiedaaRef6
import Derived.Test.YtgndkmdmpiiedaaRef4
import Derived.Test.YtgndkmdmpiiedaaII7
import Derived.Test.YtgndkmdmpiiedaaII4
import Derived.Test.YtgndkmdmpiiedaaII3
namespace Go.Proofs.Ytgndkmdmpiiedaa
open Go.RowKit

/-- The cache at c and the reference at r hold the same things. -/
structure Both (W : World) (c m r M : Nat) (lv : Value) (l : List (Nd Int Int)) (N : Nat) (w : World) : Prop where
  rep : Rep II.cfg w c m M l
  ref : Ref.RRep w W.heap.size r M lv (l.map (·.it))
  len : l.length ≤ M
  most : M ≤ 1024
  pins : ∀ n ∈ l, n.it.p ≤ N
  upd : Upd [] W w
  old : ∀ q ∈ foot c m l, W.heap.size ≤ q
  apart : ∀ q ∈ foot c m l, q ∉ Ref.rfoot r lv

theorem Both.keep {W : World} {c m r M : Nat} {lv : Value} {l : List (Nd Int Int)} {N : Nat} {w w' : World} (h : Both W c m r M lv l N w) (u : Upd [] w w') : Both W c m r M lv l N w' :=
  ⟨h.rep.keep u (by simp), h.ref.keep u (by simp), h.len, h.most, h.pins, h.upd.trans u, h.old, h.apart⟩

/-- First the cache, then the reference. -/
theorem Both.next {W : World} {c m r M : Nat} {lv lv' : Value} {l l' : List (Nd Int Int)} {N N' : Nat} {w w1 w2 : World} (h : Both W c m r M lv l N w)
    (hR1 : Rep II.cfg w1 c m M l') (hU1 : Upd (foot c m l) w w1) (hF1 : ∀ q ∈ foot c m l', q ∈ foot c m l ∨ w.heap.size ≤ q)
    (hR2 : Ref.RRep w2 W.heap.size r M lv' (l'.map (·.it))) (hU2 : Upd (Ref.rfoot r lv) w1 w2) (hF2 : ∀ q ∈ Ref.rfoot r lv', q ∈ Ref.rfoot r lv ∨ w1.heap.size ≤ q)
    (hlen : l'.length ≤ M) (hpins : ∀ n ∈ l', n.it.p ≤ N') : Both W c m r M lv' l' N' w2 := by
  have hw := h.upd.size
  have hw1 := hU1.size
  have d1 : ∀ q ∈ foot c m l', q ∉ Ref.rfoot r lv := fun q hq hr => by
    rcases hF1 q hq with h1 | h1
    · exact h.apart q h1 hr
    · have := (h.ref.lt hr).2; omega
  refine ⟨hR1.keep hU2 d1, hR2, hlen, h.most, hpins, ?_, fun q hq => ?_, fun q hq hr => ?_⟩
  · exact (h.upd.next hU1 (fun q hq hlt => by have := h.old q hq; omega)).next hU2 (fun q hq hlt => by have := (h.ref.lt hq).1; omega)
  · rcases hF1 q hq with h1 | h1
    · exact h.old q h1
    · omega
  · rcases hF2 q hr with h2 | h2
    · exact d1 q hq h2
    · have := hR1.lt hq; omega

/-- First the reference, then the cache. -/
theorem Both.next' {W : World} {c m r M : Nat} {lv lv' : Value} {l l' : List (Nd Int Int)} {N N' : Nat} {w w1 w2 : World} (h : Both W c m r M lv l N w)
    (hR2 : Ref.RRep w1 W.heap.size r M lv' (l'.map (·.it))) (hU2 : Upd (Ref.rfoot r lv) w w1) (hF2 : ∀ q ∈ Ref.rfoot r lv', q ∈ Ref.rfoot r lv ∨ w.heap.size ≤ q)
    (hR1 : Rep II.cfg w2 c m M l') (hU1 : Upd (foot c m l) w1 w2) (hF1 : ∀ q ∈ foot c m l', q ∈ foot c m l)
    (hlen : l'.length ≤ M) (hpins : ∀ n ∈ l', n.it.p ≤ N') : Both W c m r M lv' l' N' w2 := by
  have hw := h.upd.size
  have hw1 := hU2.size
  have d1 : ∀ q ∈ Ref.rfoot r lv', q ∉ foot c m l := fun q hq hr => by
    rcases hF2 q hq with h1 | h1
    · exact h.apart q hr h1
    · have := h.rep.lt hr; omega
  refine ⟨hR1, hR2.keep hU1 d1, hlen, h.most, hpins, ?_, fun q hq => h.old q (hF1 q hq), fun q hq hr => d1 q hr (hF1 q hq)⟩
  exact (h.upd.next hU2 (fun q hq hlt => by have := (h.ref.lt hq).1; omega)).next hU1 (fun q hq hlt => by have := h.old q hq; omega)

theorem kept_wanted (dirty : Bool) (l : List (Nd Int Int)) : II.kept (fun x => !dirty || x.d) l = ints (Ref.wanted dirty (l.map (·.it))) := by
  unfold II.kept ints Ref.wanted
  induction l with
  | nil => rfl
  | cons n l ih =>
    simp only [List.filter_cons, List.map_cons]
    split <;> simp_all

def Rowy (w : World) (b : Nat) (v : Value) (n : Nat) : Prop := ∃ xs, w.ownsRow b 3 1 v n xs

theorem Rowy.setCell {w : World} {b : Nat} {v : Value} {n : Nat} (h : Rowy w b v n) (g o : Nat) (u : Value) : Rowy (w.setCell ⟨g, o, none⟩ u) b v n := by
  obtain ⟨xs, h1, h2⟩ := h
  rcases h2 with h2 | ⟨q, cap, cur, hv, hg, hh, r1, r2, r3, r4⟩
  · exact ⟨xs, h1, .inl h2⟩
  · by_cases e : q = g
    · subst e
      refine ⟨(cur.setIfInBounds o u).toList.take (n * 1), ?_, .inr ⟨q, cap, cur.setIfInBounds o u, hv, hg, ?_, r1, r2, by simpa using r3, rfl⟩⟩
      · rw [List.length_take]; simp; omega
      · rw [heap_setCell, if_pos rfl, hh]; rfl
    · exact ⟨xs, h1, .inr ⟨q, cap, cur, hv, hg, by rw [heap_setCell, if_neg e]; exact hh, r1, r2, r3, r4⟩⟩

theorem Rowy.at {w : World} {b : Nat} {v : Value} {n i : Nat} (h : Rowy w b v n) (hi : i < n) : ∃ g cap, v = .slice (some ⟨g, 0, none⟩) n cap ∧ b ≤ g ∧ (∃ u, w.cell? ⟨g, i, none⟩ = some u) ∧ ∀ o, w.frozen? ⟨g, o, none⟩ = false := by
  obtain ⟨xs, h1, h2⟩ := h
  rcases h2 with ⟨_, h2⟩ | ⟨q, cap, cur, hv, hg, hh, r1, r2, r3, r4⟩
  · omega
  · exact ⟨q, cap, hv, hg, ⟨cur[i]'(by omega), by rw [cell_blk hh]; exact Array.getElem?_eq_getElem _⟩, frozen_blk hh⟩

set_option maxRecDepth 100000 in
set_option maxHeartbeats 2000000 in
theorem asked_ok (W : World) {c m r M : Nat} {lv : Value} {l : List (Nd Int Int)} {N : Nat} (w : World) (h : Both W c m r M lv l N w) :
    Calls Try.prog 20 #[.pointer (some ⟨c, 0, none⟩), .pointer (some ⟨r, 0, none⟩)] w fun e w' => e = .returned (.bool true) ∧ Upd [] w w' := by
  have hl : l.length ≤ 1024 := by have := h.len; have := h.most; omega
  have hlm : (l.map (·.it)).length ≤ 1024 := by simpa using hl
  have HB : Hid (∀ X, Upd [] w X → Both W c m r M lv l N X) := Lib.hid fun X u => h.keep u
  have k1 := kept_wanted false l
  have k2 := kept_wanted true l
  have e1 : (fun x : It Int Int => !false || x.d) = fun _ => true := by funext x; simp
  have e2 : (fun x : It Int Int => !true || x.d) = fun x => x.d := by funext x; simp
  rw [e1] at k1
  rw [e2] at k2
  have hw1 : (Ref.wanted false (l.map (·.it))).length ≤ 1024 := by have := Ref.wanted_len false (l.map (·.it)); omega
  have hw2 : (Ref.wanted true (l.map (·.it))).length ≤ 1024 := by have := Ref.wanted_len true (l.map (·.it)); omega
  have K1 := Lib.hid k1
  have K2 := Lib.hid k2
  clear k1 k2 e1 e2 h
  go_enter Try.func20, Try.ntmps20
  go_wp2_with fail
  refine (II.keys_ok w (HB.out w (Upd.refl _ _)).rep hl).mono ?_
  rintro e w1 ⟨va, rfl, ha, hU1⟩
  go_wp2_with fail
  refine (II.dirty_ok w1 (HB.out w1 hU1).rep hl).mono ?_
  rintro e w2 ⟨vb, rfl, hb, hU2⟩
  have hV2 := hU1.trans hU2
  go_wp2_with fail
  refine (Ref.keys_ok w2 (HB.out w2 hV2).ref hlm false).mono ?_
  rintro e w3 ⟨vc, rfl, hc, hU3⟩
  have hV3 := hV2.trans hU3
  rw [K1.out, show (ints (Ref.wanted false (l.map (·.it)))).length = (Ref.wanted false (l.map (·.it))).length by simp] at ha
  rw [K2.out, show (ints (Ref.wanted true (l.map (·.it)))).length = (Ref.wanted true (l.map (·.it))).length by simp] at hb
  have ha3 := own_upd (own_upd ha hU2 (by simp)) hU3 (by simp)
  go_wp2_with fail
  refine (Ref.same_ok w3 ha3 hc hw1).mono ?_
  rintro e w4 ⟨rfl, hA4⟩
  have hV4 := hV3.alike hA4
  go_wp2_with fail
  refine (Ref.keys_ok w4 (HB.out w4 hV4).ref hlm true).mono ?_
  rintro e w5 ⟨vd, rfl, hd, hU5⟩
  have hV5 := hV4.trans hU5
  have hb5 := own_upd (own_upd (own_upd hb hU3 (by simp)) ((Upd.refl [] _).alike hA4) (by simp)) hU5 (by simp)
  have ha5 := own_upd (own_upd ha3 ((Upd.refl [] _).alike hA4) (by simp)) hU5 (by simp)
  go_wp2_with fail
  refine (Ref.same_ok w5 hb5 hd hw2).mono ?_
  rintro e w6 ⟨rfl, hA6⟩
  have HV6 := Lib.hid (hV5.alike hA6)
  have HA6 := Lib.hid (own_upd ha5 ((Upd.refl [] _).alike hA6) (by simp))
  have HB6 := Lib.hid (own_upd (own_mono hb5 hU1.size) ((Upd.refl [] _).alike hA6) (by simp))
  clear ha hU1 hb hU2 hV2 hc hU3 hV3 ha3 hA4 hV4 hd hU5 hV5 hb5 ha5 hA6
  obtain ⟨a1, cap1, rfl⟩ := own_slice HA6.out
  obtain ⟨a2, cap2, rfl⟩ := own_slice HB6.out
  generalize (Ref.wanted false (l.map (·.it))).length = n1 at *
  generalize (Ref.wanted true (l.map (·.it))).length = n2 at *
  go_wp2_with fail
  have RA : Hid (Rowy w6 w.heap.size (.slice a1 n1 cap1) n1) := Lib.hid ⟨_, HA6.out⟩
  have RB : Hid (Rowy w6 w.heap.size (.slice a2 n2 cap2) n2) := Lib.hid ⟨_, HB6.out⟩
  clear HA6 HB6
  go_loopg [9] n1 (fun q i wr => ∃ j : Nat, i = .int .i64 j ∧ j ≤ n1 ∧ q = n1 - j ∧ Rowy wr w.heap.size (.slice a1 n1 cap1) n1 ∧ Rowy wr w.heap.size (.slice a2 n2 cap2) n2 ∧ Upd [] w wr)
  case atStart => exact ⟨0, rfl, by omega, rfl, RA.out, RB.out, HV6.out⟩
  case round =>
    obtain ⟨j, rfl, hj, rfl, ra, rb, hu⟩ := hrel
    have RA1 := Lib.hid ra
    have RB1 := Lib.hid rb
    have HU1 := Lib.hid hu
    clear ra rb hu
    by_cases hjn : j < n1
    · obtain ⟨g, cap, hv, hg, ⟨u, hcu⟩, hfr⟩ := RA1.out.at hjn
      simp only [Value.slice.injEq, true_and] at hv
      obtain ⟨rfl, rfl⟩ := hv
      go_wp2_with fail
      go_roundg (n1 - (j + 1))
      case measure => omega
      case rel => exact ⟨j + 1, by go_num, by omega, rfl, RA1.out.setCell _ _ _, RB1.out.setCell _ _ _, HU1.out.setCellNew hg _ _⟩
    · go_wp2_with fail
      go_loopg [10] n2 (fun q i wr => ∃ j : Nat, i = .int .i64 j ∧ j ≤ n2 ∧ q = n2 - j ∧ Rowy wr w.heap.size (.slice a2 n2 cap2) n2 ∧ Upd [] w wr)
      case atStart => exact ⟨0, rfl, by omega, rfl, RB1.out, HU1.out⟩
      case round =>
        obtain ⟨j2, rfl, hj2, rfl, rb, hu⟩ := hrel
        have RB2 := Lib.hid rb
        have HU2 := Lib.hid hu
        clear rb hu
        by_cases hjn2 : j2 < n2
        · obtain ⟨g, cap, hv, hg, ⟨u, hcu⟩, hfr⟩ := RB2.out.at hjn2
          simp only [Value.slice.injEq, true_and] at hv
          obtain ⟨rfl, rfl⟩ := hv
          go_wp2_with fail
          go_roundg (n2 - (j2 + 1))
          case measure => omega
          case rel => exact ⟨j2 + 1, by go_num, by omega, rfl, RB2.out.setCell _ _ _, HU2.out.setCellNew hg _ _⟩
        · obtain ⟨lva, lcap, hlv⟩ := own_slice (HB.out _ HU2.out).ref.own
          have r1 := (HB.out _ HU2.out).ref.cellsR.2.1
          rw [hlv, List.length_map] at r1
          go_wp2_with fail
          have hb0 : (0 : Int) ≤ (l.length : Int) := by omega
          go_region_held3 (fun w' => w'.cell? ⟨r, 1, none⟩ = some (.slice lva l.length lcap))
            (go_keep)
            (first | (go_at_call 27; refine (II.len_ok _ (HB.out _ (HU2.out.drew)).rep).mono ?_; rintro e w9 ⟨rfl, rfl⟩))
          all_goals
            go_wp2_with fail
            go_ret
            exact ⟨rfl, HU2.out.drew⟩
end Go.Proofs.Ytgndkmdmpiiedaa
