/- The contracts of Unpin, Clean and Drop at one pair of types. -/
import Derived.Test.YtgndkmdmpiiedaaII6
namespace Go.Proofs.Ytgndkmdmpiiedaa.II
open Go.RowKit

theorem unpin_miss (w : World) {c m : Nat} {most : Int} {l : List (Nd Int Int)} (h : Rep cfg w c m most l) (k : Int) (hk : ∀ n ∈ l, n.it.k ≠ k) :
    Calls Try.prog 24 #[.pointer (some ⟨c, 0, none⟩), cfg.ek k] w (ErrPost w c m most l l 71) := by
  have HK := Lib.hid hk
  clear hk
  go_enter Try.func24, Try.ntmps24
  go_wp2_with fail
  refine (there_miss w h k HK.out).mono ?_
  rintro e w1 ⟨rfl, rfl⟩
  go_wp2_with fail
  go_ret
  exact ⟨rfl, h, Upd.refl _ _⟩

theorem clean_miss (w : World) {c m : Nat} {most : Int} {l : List (Nd Int Int)} (h : Rep cfg w c m most l) (k : Int) (hk : ∀ n ∈ l, n.it.k ≠ k) :
    Calls Try.prog 25 #[.pointer (some ⟨c, 0, none⟩), cfg.ek k] w (ErrPost w c m most l l 71) := by
  have HK := Lib.hid hk
  clear hk
  go_enter Try.func25, Try.ntmps25
  go_wp2_with fail
  refine (there_miss w h k HK.out).mono ?_
  rintro e w1 ⟨rfl, rfl⟩
  go_wp2_with fail
  go_ret
  exact ⟨rfl, h, Upd.refl _ _⟩

theorem drop_miss (w : World) {c m : Nat} {most : Int} {l : List (Nd Int Int)} (h : Rep cfg w c m most l) (k : Int) (hk : ∀ n ∈ l, n.it.k ≠ k) :
    Calls Try.prog 26 #[.pointer (some ⟨c, 0, none⟩), cfg.ek k] w (ErrPost w c m most l l 71) := by
  have HK := Lib.hid hk
  clear hk
  go_enter Try.func26, Try.ntmps26
  go_wp2_with fail
  refine (there_miss w h k HK.out).mono ?_
  rintro e w1 ⟨rfl, rfl⟩
  go_wp2_with fail
  go_ret
  exact ⟨rfl, h, Upd.refl _ _⟩

theorem unpin_hit (w : World) {c m : Nat} {most : Int} {l1 l2 : List (Nd Int Int)} {x : Nd Int Int} (h : Rep cfg w c m most (l1 ++ x :: l2)) (k : Int) (hk : x.it.k = k) (hb : x.it.p ≤ 1000000) (hp : 0 < x.it.p) :
    Calls Try.prog 24 #[.pointer (some ⟨c, 0, none⟩), cfg.ek k] w (ErrPost w c m most (l1 ++ x :: l2) (l1 ++ ⟨x.a, { x.it with p := x.it.p - 1 }⟩ :: l2) 0) := by
  have HK := Lib.hid hk
  clear hk
  obtain ⟨-, -, -, x3, -, -, fx⟩ := node_cells cfg h.node
  have hz : ((x.it.p : Int) == 0) = false := by simp; omega
  go_enter Try.func24, Try.ntmps24
  go_wp2_with fail
  refine (there_hit w h k HK.out).mono ?_
  rintro e w1 ⟨rfl, rfl⟩
  go_wp2_with fail
  go_ret
  have e : ((x.it.p - 1 : Nat) : Int) = (x.it.p : Int) - 1 := by omega
  exact ⟨rfl, h.set3 _ (by rw [e]; exact alike_refl _), (Upd.refl _ _).setCell (by simp) _ _⟩

theorem unpin_zero (w : World) {c m : Nat} {most : Int} {l1 l2 : List (Nd Int Int)} {x : Nd Int Int} (h : Rep cfg w c m most (l1 ++ x :: l2)) (k : Int) (hk : x.it.k = k) (hp : x.it.p = 0) :
    Calls Try.prog 24 #[.pointer (some ⟨c, 0, none⟩), cfg.ek k] w (ErrPost w c m most (l1 ++ x :: l2) (l1 ++ x :: l2) 72) := by
  have HK := Lib.hid hk
  clear hk
  obtain ⟨-, -, -, x3, -, -, fx⟩ := node_cells cfg h.node
  have hz : ((x.it.p : Int) == 0) = true := by simp; omega
  clear hp
  go_enter Try.func24, Try.ntmps24
  go_wp2_with fail
  refine (there_hit w h k HK.out).mono ?_
  rintro e w1 ⟨rfl, rfl⟩
  go_wp2_with fail
  go_ret
  exact ⟨rfl, h, Upd.refl _ _⟩

theorem clean_hit (w : World) {c m : Nat} {most : Int} {l1 l2 : List (Nd Int Int)} {x : Nd Int Int} (h : Rep cfg w c m most (l1 ++ x :: l2)) (k : Int) (hk : x.it.k = k) :
    Calls Try.prog 25 #[.pointer (some ⟨c, 0, none⟩), cfg.ek k] w (ErrPost w c m most (l1 ++ x :: l2) (l1 ++ ⟨x.a, { x.it with d := false }⟩ :: l2) 0) := by
  have HK := Lib.hid hk
  clear hk
  obtain ⟨-, -, x2, -, -, -, fx⟩ := node_cells cfg h.node
  go_enter Try.func25, Try.ntmps25
  go_wp2_with fail
  refine (there_hit w h k HK.out).mono ?_
  rintro e w1 ⟨rfl, rfl⟩
  go_wp2_with fail
  go_ret
  exact ⟨rfl, h.set2 _ (alike_refl _), (Upd.refl _ _).setCell (by simp) _ _⟩

theorem drop_pinned (w : World) {c m : Nat} {most : Int} {l1 l2 : List (Nd Int Int)} {x : Nd Int Int} (h : Rep cfg w c m most (l1 ++ x :: l2)) (k : Int) (hk : x.it.k = k) (hp : 0 < x.it.p) :
    Calls Try.prog 26 #[.pointer (some ⟨c, 0, none⟩), cfg.ek k] w (ErrPost w c m most (l1 ++ x :: l2) (l1 ++ x :: l2) 72) := by
  have HK := Lib.hid hk
  clear hk
  obtain ⟨-, -, -, x3, -, -, fx⟩ := node_cells cfg h.node
  have hz : decide (0 < (x.it.p : Int)) = true := by simpa using hp
  go_enter Try.func26, Try.ntmps26
  go_wp2_with fail
  refine (there_hit w h k HK.out).mono ?_
  rintro e w1 ⟨rfl, rfl⟩
  go_wp2_with fail
  go_ret
  exact ⟨rfl, h, Upd.refl _ _⟩

theorem drop_hit (w : World) {c m : Nat} {most : Int} {l1 l2 : List (Nd Int Int)} {x : Nd Int Int} (h : Rep cfg w c m most (l1 ++ x :: l2)) (k : Int) (hk : x.it.k = k) (hp : x.it.p = 0) :
    Calls Try.prog 26 #[.pointer (some ⟨c, 0, none⟩), cfg.ek k] w (ErrPost w c m most (l1 ++ x :: l2) (l1 ++ l2) 0) := by
  have HK := Lib.hid hk
  obtain ⟨-, -, -, x3, -, -, fx⟩ := node_cells cfg h.node
  rw [hp] at x3
  simp only [cast0] at x3
  clear hp
  obtain ⟨es, ck, h1, h2⟩ := h.map
  have HM := Lib.hid h1
  have HR := Lib.hid h2
  clear h1 h2 hk
  go_enter Try.func26, Try.ntmps26
  go_wp2_with fail
  refine (there_hit w h k HK.out).mono ?_
  rintro e w1 ⟨rfl, rfl⟩
  go_wp2_with fail
  refine (unlink_ok w h.lay).mono ?_
  rintro e w2 ⟨rfl, hL, -, hU2⟩
  have hm2 : w2.heap[m]? = some (.map es ck) := by rw [hU2.block m h.m_lt h.lay.m_not]; exact HM.out
  obtain ⟨es', hdel, hmr⟩ := run_delete_hit (w := w2) (P := Try.prog) (T := 88) keys tmap hm2 HR.out h.keys (k := k) HK.out 3 0
  obtain ⟨-, c1, -, -, -⟩ := lay_cells cfg hL
  have HF : Hid (∀ w3 : World, w3.Alike (ChangeMaps.setBlock w2 m (.map es' ck)) → Rep cfg w3 c m most (l1 ++ l2) ∧ Upd (foot c m (l1 ++ x :: l2)) w w3) := Lib.hid fun w3 h3 => by
    obtain ⟨g1, g2⟩ := rep_gone h hm2 hL hmr h3
    exact ⟨g1, (hU2.mono (fun q hq _ => by simp at hq ⊢; grind)).next g2 (fun q hq _ => by simp at hq ⊢; grind)⟩
  clear hL hU2 hm2 hmr x3 fx
  simp only [] at hdel
  go_wp2_with fail
  go_ret
  obtain ⟨g1, g2⟩ := HF.out _ (alike_refl _)
  exact ⟨rfl, g1, g2⟩
end Go.Proofs.Ytgndkmdmpiiedaa.II
