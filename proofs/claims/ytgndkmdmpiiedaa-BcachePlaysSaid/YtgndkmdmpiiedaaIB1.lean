/- The contracts of the cache's inner functions (new, unlink, link, find) at one pair of types, over any world that holds the cache's list. -/
import Derived.Test.YtgndkmdmpiiedaaBase
import Derived.Test.YtgndkmdmpiiedaaChecked
namespace Go.Proofs.Ytgndkmdmpiiedaa.IB
open Go.RowKit

abbrev cfg : Cfg Int Bool := { ek := fun k => .int .i64 k, ev := fun s => .bool s, tc := 71, ti := 73 }

theorem tmap : Try.prog.underlying 68 = some (.map 3 69) := by kernel_rfl
theorem zeroPi (w : World) : (zeroValue 69).run Try.prog w = .ok (.pointer none) w := by kernel_rfl
theorem keys : Go.Proofs.Ytgndkmdmpiiedaa.Keys cfg Try.prog 3 where
  plain := .inl Try.underlying3
  same := fun D h a b => by rw [Try.underlying3] at h; cases h; simp [Instr.sameNow, Bool.beq_eq_decide_eq]
  bits := fun a => by simp [Instr.sameBits]

def NewPost (most : Int) (w : World) (e : Ending) (w' : World) : Prop :=
  ∃ c m, e = .returned (.tuple #[.pointer (some ⟨c, 0, none⟩), .int .i64 0]) ∧ Rep cfg w' c m most [] ∧ Upd [] w w' ∧ w.heap.size ≤ c ∧ w.heap.size ≤ m

theorem new_ok (most : Int) (w : World) (h1 : 1 ≤ most) (h2 : most ≤ 1024) : Calls Try.prog 9 #[.int .i64 most] w (NewPost most w) := by
  have hmm := @run_makeMap Try.prog
  go_enter Try.func9, Try.ntmps9
  go_wp2
  go_ret2
  exact ⟨_, _, rfl, new_rep cfg w most, ((Upd.refl _ _).alloc _).alloc _, by omega, by omega⟩

theorem new_bad (most : Int) (w : World) (h : most < 1 ∨ 1024 < most) : Calls Try.prog 9 #[.int .i64 most] w (fun e w' => e = .returned (.tuple #[.pointer none, .int .i64 1]) ∧ w = w') := by
  rcases h with h | h
  · go_enter Try.func9, Try.ntmps9
    go_wp2
    go_ret2
    exact ⟨rfl, rfl⟩
  · have h' : ¬ most < 1 := by omega
    go_enter Try.func9, Try.ntmps9
    go_wp2
    go_ret2
    exact ⟨rfl, rfl⟩

def UnlinkPost (w : World) (c x : Nat) (prev next : Option Nat) (e : Ending) (w' : World) : Prop := e = .returned (.tuple #[]) ∧ w'.Alike (unlinkW w c x prev next)

set_option maxHeartbeats 1000000 in
theorem unlink_walk (w : World) {c m : Nat} {most : Int} {l1 l2 : List (Nd Int Bool)} {x : Nd Int Bool} (h : Lay cfg w c m most (l1 ++ x :: l2)) :
    Calls Try.prog 35 #[.pointer (some ⟨c, 0, none⟩), .pointer (some ⟨x.a, 0, none⟩)] w (UnlinkPost w c x.a (lst l1 none) (hd l2 none)) := by
  obtain ⟨-, -, c2, c3, fc⟩ := lay_cells cfg h
  obtain ⟨-, h2, h3⟩ := h
  rw [chain_app] at h2
  obtain ⟨h2, h4, h5⟩ := h2
  obtain ⟨-, -, -, -, x4, x5, fx⟩ := node_cells cfg h4
  obtain ⟨xa, xi⟩ := x
  simp only [] at *
  rcases List.eq_nil_or_concat l1 with rfl | ⟨l1, y, rfl⟩
  · rcases l2 with _ | ⟨z, l2⟩
    · simp only [lst_nil, lst_cons, hd_nil, hd_cons, pt_none, List.nil_append] at *
      simp at h3
      have n1 : c ≠ xa := h3.1.2
      have n2 : xa ≠ c := Ne.symm n1
      clear h2 h3 h4 h5
      go_enter Try.func35, Try.ntmps35
      go_wp2
      go_end0
      exact ⟨rfl, rfl, rfl, rfl⟩
    · obtain ⟨h5, h6⟩ := h5
      obtain ⟨-, -, -, -, z4, z5, fz⟩ := node_cells cfg h5
      simp only [lst_nil, lst_cons, hd_cons, pt_none, pt_some, List.nil_append] at *
      simp at h3
      obtain ⟨⟨-, n1, n2, -⟩, -, ⟨n3, -⟩, -⟩ := h3
      obtain ⟨za, zi⟩ := z
      simp only [] at *
      have n1' := Ne.symm n1; have n2' := Ne.symm n2; have n3' := Ne.symm n3
      clear h2 h4 h5 h6 z5
      go_enter Try.func35, Try.ntmps35
      go_wp2
      go_region
      go_wp2
      all_goals go_end0
      all_goals exact ⟨rfl, rfl, rfl, rfl⟩
  · simp only [List.concat_eq_append, List.append_assoc] at *
    rw [chain_app] at h2
    obtain ⟨h2, h7, _⟩ := h2
    obtain ⟨-, -, -, -, y4, y5, fy⟩ := node_cells cfg h7
    obtain ⟨ya, yi⟩ := y
    simp only [] at *
    rcases l2 with _ | ⟨z, l2⟩
    · simp only [lst_nil, lst_cons, hd_nil, hd_cons, lst_app, hd_app, pt_none, pt_some] at *
      simp [List.nodup_append] at h3
      obtain ⟨⟨n1, n2, n3, n4⟩, ⟨n5, n6, n7⟩, n8, n9, n10⟩ := h3
      have n3' := Ne.symm n3; have n4' := Ne.symm n4; have n9' := Ne.symm n9
      clear h2 h4 h5 h7 n2 n5 n8 n10 n1 n6 n7 y4 c2
      go_enter Try.func35, Try.ntmps35
      go_wp2
      go_region
      go_wp2
      all_goals go_end0
      all_goals exact ⟨rfl, rfl, rfl, rfl⟩
    · obtain ⟨h5, h6⟩ := h5
      obtain ⟨-, -, -, -, z4, z5, fz⟩ := node_cells cfg h5
      obtain ⟨za, zi⟩ := z
      simp only [] at *
      simp only [lst_nil, lst_cons, hd_nil, hd_cons, lst_app, hd_app, pt_some] at *
      simp [List.nodup_append] at h3
      obtain ⟨⟨n1, n2, n3, n4, n5, n6⟩, ⟨n7, n8, n9, n10, n11⟩, n12, ⟨⟨n13, n14, n15⟩, ⟨n16, n17⟩, n18, n19⟩, n20⟩ := h3
      have n13' := Ne.symm n13; have n14' := Ne.symm n14; have n16' := Ne.symm n16
      clear h2 h4 h5 h6 h7 n1 n2 n6 n7 n8 n9 n10 n11 n12 n15 n17 n18 n19 n20 y4 z5 c2 c3
      go_enter Try.func35, Try.ntmps35
      go_wp2
      go_region
      go_wp2
      go_region
      go_wp2
      all_goals go_end0
      all_goals exact ⟨rfl, rfl, rfl, rfl⟩

theorem unlink_ok (w : World) {c m : Nat} {most : Int} {l1 l2 : List (Nd Int Bool)} {x : Nd Int Bool} (h : Lay cfg w c m most (l1 ++ x :: l2)) :
    Calls Try.prog 35 #[.pointer (some ⟨c, 0, none⟩), .pointer (some ⟨x.a, 0, none⟩)] w fun e w' => e = .returned (.tuple #[]) ∧
      Lay cfg w' c m most (l1 ++ l2) ∧ w'.heap[x.a]? = some (nodeObj cfg x.it none none) ∧ Upd (c :: (l1 ++ x :: l2).map (·.a)) w w' :=
  (unlink_walk w h).mono fun _ _ ⟨he, hw⟩ => ⟨he, lay_unlink cfg h hw⟩

def LinkPost (w : World) (c x : Nat) (last : Option Nat) (e : Ending) (w' : World) : Prop := e = .returned (.tuple #[]) ∧ w'.Alike (linkW w c x last)

set_option maxHeartbeats 1000000 in
theorem link_walk (w : World) {c m : Nat} {most : Int} {l : List (Nd Int Bool)} {x : Nd Int Bool} (h : Lay cfg w c m most l) (hx : w.heap[x.a]? = some (nodeObj cfg x.it none none))
    (hnd : (c :: m :: (l ++ [x]).map (·.a)).Nodup) : Calls Try.prog 36 #[.pointer (some ⟨c, 0, none⟩), .pointer (some ⟨x.a, 0, none⟩)] w (LinkPost w c x.a (lst l none)) := by
  obtain ⟨-, -, c2, c3, fc⟩ := lay_cells cfg h
  obtain ⟨-, h2, -⟩ := h
  obtain ⟨-, -, -, -, x4, x5, fx⟩ := node_cells cfg hx
  obtain ⟨xa, xi⟩ := x
  simp only [] at *
  rcases List.eq_nil_or_concat l with rfl | ⟨l1, y, rfl⟩
  · simp only [lst_nil, hd_nil, pt_none, List.nil_append] at *
    simp at hnd
    have n1 : c ≠ xa := hnd.1.2
    have n2 : xa ≠ c := Ne.symm n1
    clear h2 hnd hx x5
    go_enter Try.func36, Try.ntmps36
    go_wp2
    go_end0
    exact ⟨rfl, rfl, rfl, rfl⟩
  · simp only [List.concat_eq_append, List.append_assoc] at *
    rw [chain_app] at h2
    obtain ⟨-, h7, _⟩ := h2
    obtain ⟨-, -, -, -, y4, y5, fy⟩ := node_cells cfg h7
    obtain ⟨ya, yi⟩ := y
    simp only [] at *
    simp only [lst_nil, lst_cons, hd_nil, hd_cons, lst_app, hd_app, pt_none, pt_some] at *
    simp [List.nodup_append] at hnd
    obtain ⟨⟨n1, n2, n3, n4⟩, ⟨n5, n6, n7⟩, n8, n9, n10⟩ := hnd
    have n3' := Ne.symm n3; have n4' := Ne.symm n4; have n9' := Ne.symm n9
    clear h7 n1 n2 n5 n6 n7 n8 n10 c2 x5 y4 hx
    go_enter Try.func36, Try.ntmps36
    go_wp2
    go_end0
    exact ⟨rfl, rfl, rfl, rfl⟩

theorem link_ok (w : World) {c m : Nat} {most : Int} {l : List (Nd Int Bool)} {x : Nd Int Bool} (h : Lay cfg w c m most l) (hx : w.heap[x.a]? = some (nodeObj cfg x.it none none))
    (hnd : (c :: m :: (l ++ [x]).map (·.a)).Nodup) : Calls Try.prog 36 #[.pointer (some ⟨c, 0, none⟩), .pointer (some ⟨x.a, 0, none⟩)] w fun e w' => e = .returned (.tuple #[]) ∧
      Lay cfg w' c m most (l ++ [x]) ∧ Upd (c :: (l ++ [x]).map (·.a)) w w' :=
  (link_walk w h hx hnd).mono fun _ _ ⟨he, hw⟩ => ⟨he, lay_link cfg h hx hnd hw⟩

theorem find_nil (w : World) (k : Int) (use : Bool) : Calls Try.prog 34 #[.pointer none, cfg.ek k, .bool use] w fun e w' => e = .returned (.pointer none) ∧ w = w' := by
  go_enter Try.func34, Try.ntmps34
  go_wp2
  go_ret
  exact ⟨rfl, rfl⟩

theorem find_miss (w : World) {c m : Nat} {most : Int} {l : List (Nd Int Bool)} (h : Rep cfg w c m most l) (k : Int) (hk : ∀ n ∈ l, n.it.k ≠ k) (use : Bool) :
    Calls Try.prog 34 #[.pointer (some ⟨c, 0, none⟩), cfg.ek k, .bool use] w fun e w' => e = .returned (.pointer none) ∧ w = w' := by
  obtain ⟨-, c1, -, -, fc⟩ := lay_cells cfg h.lay
  obtain ⟨es, ck, h1, h2⟩ := h.map
  have hl := run_lookup_miss keys tmap (zeroPi w) h1 h2 hk
  simp only [pt_none] at hl
  clear h h1 h2 hk
  go_enter Try.func34, Try.ntmps34
  go_wp2
  go_ret
  exact ⟨rfl, rfl⟩

theorem find_hit (w : World) {c m : Nat} {most : Int} {l1 l2 : List (Nd Int Bool)} {x : Nd Int Bool} (h : Rep cfg w c m most (l1 ++ x :: l2)) (k : Int) (hk : x.it.k = k) :
    Calls Try.prog 34 #[.pointer (some ⟨c, 0, none⟩), cfg.ek k, .bool false] w fun e w' => e = .returned (.pointer (some ⟨x.a, 0, none⟩)) ∧ w = w' := by
  obtain ⟨-, c1, -, -, fc⟩ := lay_cells cfg h.lay
  obtain ⟨es, ck, h1, h2⟩ := h.map
  have hl := run_lookup_hit keys tmap h1 h2 h.keys hk
  simp only [pt_some] at hl
  clear h h1 h2 hk
  go_enter Try.func34, Try.ntmps34
  go_wp2
  go_ret
  exact ⟨rfl, rfl⟩

def UsedPost (w : World) (c m : Nat) (most : Int) (l1 l2 : List (Nd Int Bool)) (x : Nd Int Bool) (e : Ending) (w' : World) : Prop :=
  e = .returned (.pointer (some ⟨x.a, 0, none⟩)) ∧ Rep cfg w' c m most (l1 ++ l2 ++ [x]) ∧ Upd (c :: (l1 ++ x :: l2).map (·.a)) w w'

theorem find_use (w : World) {c m : Nat} {most : Int} {l1 l2 : List (Nd Int Bool)} {x : Nd Int Bool} (h : Rep cfg w c m most (l1 ++ x :: l2)) (k : Int) (hk : x.it.k = k) :
    Calls Try.prog 34 #[.pointer (some ⟨c, 0, none⟩), cfg.ek k, .bool true] w (UsedPost w c m most l1 l2 x) := by
  obtain ⟨-, c1, -, -, fc⟩ := lay_cells cfg h.lay
  obtain ⟨es, ck, h1, h2⟩ := h.map
  have hl := run_lookup_hit keys tmap h1 h2 h.keys hk
  simp only [pt_some] at hl
  clear h1 h2 hk
  go_enter Try.func34, Try.ntmps34
  go_wp2_with fail
  refine (unlink_ok w h.lay).mono ?_
  rintro e w1 ⟨rfl, hL, hx, hU⟩
  have HX := Lib.hid hx; clear hx
  go_wp2_with fail
  refine (link_ok w1 hL HX.out (used_nodup h.lay.nodup)).mono ?_
  rintro e w2 ⟨rfl, hL2, hU2⟩
  go_wp2_with fail
  go_ret
  exact ⟨rfl, rep_used h hU hL2 hU2⟩
end Go.Proofs.Ytgndkmdmpiiedaa.IB
