/- The contracts of Get and Len at one pair of types. -/
import Derived.Test.YtgndkmdmpiiedaaII2
namespace Go.Proofs.Ytgndkmdmpiiedaa.II
open Go.RowKit

theorem get_nil (w : World) (k : Int) : Calls Try.prog 21 #[.pointer none, cfg.ek k] w fun e w' => e = .returned (.tuple #[cfg.ev zv, .bool false]) ∧ w = w' := by
  go_enter Try.func21, Try.ntmps21
  go_wp2_with fail
  refine (find_nil w k true).mono ?_
  rintro e w1 ⟨rfl, rfl⟩
  go_wp2_with fail
  go_ret2
  exact ⟨rfl, rfl⟩

theorem get_miss (w : World) {c m : Nat} {most : Int} {l : List (Nd Int Int)} (h : Rep cfg w c m most l) (k : Int) (hk : ∀ n ∈ l, n.it.k ≠ k) :
    Calls Try.prog 21 #[.pointer (some ⟨c, 0, none⟩), cfg.ek k] w fun e w' => e = .returned (.tuple #[cfg.ev zv, .bool false]) ∧ w = w' := by
  have HK := Lib.hid hk
  clear hk
  go_enter Try.func21, Try.ntmps21
  go_wp2_with fail
  refine (find_miss w h k HK.out true).mono ?_
  rintro e w1 ⟨rfl, rfl⟩
  go_wp2_with fail
  go_ret2
  exact ⟨rfl, rfl⟩

def GetPost (w : World) (c m : Nat) (most : Int) (l l' : List (Nd Int Int)) (v : Int) (e : Ending) (w' : World) : Prop :=
  e = .returned (.tuple #[cfg.ev v, .bool true]) ∧ Rep cfg w' c m most l' ∧ Upd (foot c m l) w w'

theorem get_hit (w : World) {c m : Nat} {most : Int} {l1 l2 : List (Nd Int Int)} {x : Nd Int Int} (h : Rep cfg w c m most (l1 ++ x :: l2)) (k : Int) (hk : x.it.k = k) :
    Calls Try.prog 21 #[.pointer (some ⟨c, 0, none⟩), cfg.ek k] w (GetPost w c m most (l1 ++ x :: l2) (l1 ++ l2 ++ [x]) x.it.v) := by
  have HK := Lib.hid hk
  clear hk
  go_enter Try.func21, Try.ntmps21
  go_wp2_with fail
  refine (find_use w h k HK.out).mono ?_
  rintro e w1 ⟨rfl, hR, hU⟩
  obtain ⟨-, x1, -, -, -, -, fx⟩ := node_cells cfg hR.node
  have HR := Lib.hid hR
  have HU := Lib.hid hU
  clear hR hU
  simp only [] at x1
  go_wp2_with fail
  go_ret2
  exact ⟨rfl, HR.out, HU.out.mono (fun q hq _ => by simp at hq ⊢; grind)⟩

theorem len_nil (w : World) : Calls Try.prog 27 #[.pointer none] w fun e w' => e = .returned (.int .i64 0) ∧ w = w' := by
  go_enter Try.func27, Try.ntmps27
  go_wp2_with fail
  go_ret
  exact ⟨rfl, rfl⟩

theorem len_ok (w : World) {c m : Nat} {most : Int} {l : List (Nd Int Int)} (h : Rep cfg w c m most l) :
    Calls Try.prog 27 #[.pointer (some ⟨c, 0, none⟩)] w fun e w' => e = .returned (.int .i64 l.length) ∧ w = w' := by
  obtain ⟨es, ck, h1, h2⟩ := h.map
  obtain ⟨-, c1, -, -, fc⟩ := lay_cells cfg h.lay
  have hlen := run_len_map (P := Try.prog) (T := 88) (w := w) tmap h1 3
  rw [mapRep_size cfg h2] at hlen
  clear h h1 h2
  go_enter Try.func27, Try.ntmps27
  go_wp2_with fail
  go_ret
  exact ⟨rfl, rfl⟩
end Go.Proofs.Ytgndkmdmpiiedaa.II
