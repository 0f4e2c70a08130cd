/- The contracts of there and Pin at one pair of types. -/
import Derived.Test.YtgndkmdmpiiedaaII2
namespace Go.Proofs.Ytgndkmdmpiiedaa.II
open Go.RowKit

theorem there_miss (w : World) {c m : Nat} {most : Int} {l : List (Nd Int Int)} (h : Rep cfg w c m most l) (k : Int) (hk : ∀ n ∈ l, n.it.k ≠ k) :
    Calls Try.prog 51 #[.pointer (some ⟨c, 0, none⟩), cfg.ek k] w fun e w' => e = .returned (.tuple #[.pointer none, .int .i64 71]) ∧ w = w' := by
  have HK := Lib.hid hk
  clear hk
  go_enter Try.func51, Try.ntmps51
  go_wp2_with fail
  refine (find_miss w h k HK.out false).mono ?_
  rintro e w1 ⟨rfl, rfl⟩
  go_wp2_with fail
  go_ret2
  exact ⟨rfl, rfl⟩

theorem there_hit (w : World) {c m : Nat} {most : Int} {l1 l2 : List (Nd Int Int)} {x : Nd Int Int} (h : Rep cfg w c m most (l1 ++ x :: l2)) (k : Int) (hk : x.it.k = k) :
    Calls Try.prog 51 #[.pointer (some ⟨c, 0, none⟩), cfg.ek k] w fun e w' => e = .returned (.tuple #[.pointer (some ⟨x.a, 0, none⟩), .int .i64 0]) ∧ w = w' := by
  have HK := Lib.hid hk
  clear hk
  go_enter Try.func51, Try.ntmps51
  go_wp2_with fail
  refine (find_hit w h k HK.out).mono ?_
  rintro e w1 ⟨rfl, rfl⟩
  go_wp2_with fail
  go_ret2
  exact ⟨rfl, rfl⟩

def ErrPost (w : World) (c m : Nat) (most : Int) (l l' : List (Nd Int Int)) (err : Int) (e : Ending) (w' : World) : Prop :=
  e = .returned (.int .i64 err) ∧ Rep cfg w' c m most l' ∧ Upd (foot c m l) w w'

theorem pin_miss (w : World) {c m : Nat} {most : Int} {l : List (Nd Int Int)} (h : Rep cfg w c m most l) (k : Int) (hk : ∀ n ∈ l, n.it.k ≠ k) :
    Calls Try.prog 23 #[.pointer (some ⟨c, 0, none⟩), cfg.ek k] w (ErrPost w c m most l l 71) := by
  have HK := Lib.hid hk
  clear hk
  go_enter Try.func23, Try.ntmps23
  go_wp2_with fail
  refine (there_miss w h k HK.out).mono ?_
  rintro e w1 ⟨rfl, rfl⟩
  go_wp2_with fail
  go_ret
  exact ⟨rfl, h, Upd.refl _ _⟩

theorem pin_hit (w : World) {c m : Nat} {most : Int} {l1 l2 : List (Nd Int Int)} {x : Nd Int Int} (h : Rep cfg w c m most (l1 ++ x :: l2)) (k : Int) (hk : x.it.k = k) (hb : x.it.p ≤ 1000000) :
    Calls Try.prog 23 #[.pointer (some ⟨c, 0, none⟩), cfg.ek k] w (ErrPost w c m most (l1 ++ x :: l2) (l1 ++ ⟨x.a, { x.it with p := x.it.p + 1 }⟩ :: l2) 0) := by
  have HK := Lib.hid hk
  clear hk
  obtain ⟨-, -, -, x3, -, -, fx⟩ := node_cells cfg h.node
  go_enter Try.func23, Try.ntmps23
  go_wp2_with fail
  refine (there_hit w h k HK.out).mono ?_
  rintro e w1 ⟨rfl, rfl⟩
  go_wp2_with fail
  go_ret
  exact ⟨rfl, h.set3 _ (alike_refl _), (Upd.refl _ _).setCell (by simp) _ _⟩
end Go.Proofs.Ytgndkmdmpiiedaa.II
