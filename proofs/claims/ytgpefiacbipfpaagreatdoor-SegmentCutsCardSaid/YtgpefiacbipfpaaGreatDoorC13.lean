/- The contracts of the cache's inner functions (new, unlink, link, find) at one pair of types, over any world that holds the cache's list. The contracts of the cache's outer functions (Put, Get, Len) at one pair of types. The contracts of Get and Len at one pair of types. A cache whose things are blocks as they are seen: got and put. -/
import Derived.Deep.QuietTactic
import Derived.BigQuiet
import Derived.Deep.DeepCutAuto
import Derived.Test.YtgpefiacbipfpaaGreatDoorC12
import Derived.Test.YtgpefiacbipfpaaGreatDoorChecked
import Derived.Test.YtgpefiacbipfpaaGreatDoorC04
namespace Go.Proofs.YtgpefiacbipfpaaGreatDoor.Bc.C
open Go.RowKit
structure Sl where
 a : Option Addr
 n : Nat
 c : Nat
abbrev cfg : Cfg Int Sl := { ek := fun k => .int .i64 k, ev := fun s => .slice s.a s.n s.c, tc := 197, ti := 208 }
theorem tmap : Tryz.prog.underlying 194 = some (.map 3 195) := by kernel_rfl
theorem zeroPi (w : World) : (zeroValue 195).run Tryz.prog w = .ok (.pointer none) w := by kernel_rfl
theorem keys : Go.Proofs.YtgpefiacbipfpaaGreatDoor.Bc.Keys cfg Tryz.prog 3 where
 plain := .inl Tryz.underlying3
 same := fun D h a b => by rw [Tryz.underlying3] at h; cases h; simp [Instr.sameNow, Bool.beq_eq_decide_eq]
 bits := fun a => by simp [Instr.sameBits]
def NewPost (most : Int) (w : World) (e : Ending) (w' : World) : Prop :=
 ∃ c m, e = .returned (.tuple #[.pointer (some ⟨c, 0, none⟩), .int .i64 0]) ∧ Rep cfg w' c m most [] ∧ Upd [] w w' ∧ w.heap.size ≤ c ∧ w.heap.size ≤ m
theorem new_ok (most : Int) (w : World) (h1 : 1 ≤ most) (h2 : most ≤ 1024) : Calls Tryz.prog 81 #[.int .i64 most] w (NewPost most w) := by
 have hmm := @run_makeMap Tryz.prog
 go_enter Tryz.func81, Tryz.ntmps81
 go_wp2
 go_ret2
 exact ⟨_, _, rfl, new_rep cfg w most, ((Upd.refl _ _).alloc _).alloc _, by omega, by omega⟩
def UnlinkPost (w : World) (c x : Nat) (prev next : Option Nat) (e : Ending) (w' : World) : Prop := e = .returned (.tuple #[]) ∧ w'.Alike (unlinkW w c x prev next)
set_option maxHeartbeats 1000000 in
theorem unlink_walk (w : World) {c m : Nat} {most : Int} {l1 l2 : List (Nd Int Sl)} {x : Nd Int Sl} (h : Lay cfg w c m most (l1 ++ x :: l2)) :
  Calls Tryz.prog 141 #[.pointer (some ⟨c, 0, none⟩), .pointer (some ⟨x.a, 0, none⟩)] w (UnlinkPost w c x.a (lst l1 none) (hd l2 none)) := by
 obtain ⟨-, -, c2, c3, fc⟩ := lay_cells cfg h
 obtain ⟨-, h2, h3⟩ := h
 rw [chain_app] at h2
 obtain ⟨h2, h4, h5⟩ := h2
 obtain ⟨-, -, -, -, x4, x5, fx⟩ := node_cells cfg h4
 obtain ⟨xa, xi⟩ := x
 simp only [] at *
 rcases List.eq_nil_or_concat l1 with rfl | ⟨l1, y, rfl⟩
 ·rcases l2 with _ | ⟨z, l2⟩
  ·simp only [lst_nil, lst_cons, hd_nil, hd_cons, pt_none, List.nil_append] at *
   simp at h3
   have n1 : c ≠ xa := h3.1.2
   have n2 : xa ≠ c := Ne.symm n1
   clear h2 h3 h4 h5
   go_enter Tryz.func141, Tryz.ntmps141
   go_wp2
   go_end0
   exact ⟨rfl, rfl, rfl, rfl⟩
  ·obtain ⟨h5, h6⟩ := h5
   obtain ⟨-, -, -, -, z4, z5, fz⟩ := node_cells cfg h5
   simp only [lst_nil, lst_cons, hd_cons, pt_none, pt_some, List.nil_append] at *
   simp at h3
   obtain ⟨⟨-, n1, n2, -⟩, -, ⟨n3, -⟩, -⟩ := h3
   obtain ⟨za, zi⟩ := z
   simp only [] at *
   have n1' := Ne.symm n1; have n2' := Ne.symm n2; have n3' := Ne.symm n3
   clear h2 h4 h5 h6 z5
   go_enter Tryz.func141, Tryz.ntmps141
   go_wp2
   go_region
   go_wp2
   all_goals go_end0
   all_goals exact ⟨rfl, rfl, rfl, rfl⟩
 ·simp only [List.concat_eq_append, List.append_assoc] at *
  rw [chain_app] at h2
  obtain ⟨h2, h7, _⟩ := h2
  obtain ⟨-, -, -, -, y4, y5, fy⟩ := node_cells cfg h7
  obtain ⟨ya, yi⟩ := y
  simp only [] at *
  rcases l2 with _ | ⟨z, l2⟩
  ·simp only [lst_nil, lst_cons, hd_nil, hd_cons, lst_app, hd_app, pt_none, pt_some] at *
   simp [List.nodup_append] at h3
   obtain ⟨⟨n1, n2, n3, n4⟩, ⟨n5, n6, n7⟩, n8, n9, n10⟩ := h3
   have n3' := Ne.symm n3; have n4' := Ne.symm n4; have n9' := Ne.symm n9
   clear h2 h4 h5 h7 n2 n5 n8 n10 n1 n6 n7 y4 c2
   go_enter Tryz.func141, Tryz.ntmps141
   go_wp2
   go_region
   go_wp2
   all_goals go_end0
   all_goals exact ⟨rfl, rfl, rfl, rfl⟩
  ·obtain ⟨h5, h6⟩ := h5
   obtain ⟨-, -, -, -, z4, z5, fz⟩ := node_cells cfg h5
   obtain ⟨za, zi⟩ := z
   simp only [] at *
   simp only [lst_nil, lst_cons, hd_nil, hd_cons, lst_app, hd_app, pt_some] at *
   simp [List.nodup_append] at h3
   obtain ⟨⟨n1, n2, n3, n4, n5, n6⟩, ⟨n7, n8, n9, n10, n11⟩, n12, ⟨⟨n13, n14, n15⟩, ⟨n16, n17⟩, n18, n19⟩, n20⟩ := h3
   have n13' := Ne.symm n13; have n14' := Ne.symm n14; have n16' := Ne.symm n16
   clear h2 h4 h5 h6 h7 n1 n2 n6 n7 n8 n9 n10 n11 n12 n15 n17 n18 n19 n20 y4 z5 c2 c3
   go_enter Tryz.func141, Tryz.ntmps141
   go_wp2
   go_region
   go_wp2
   go_region
   go_wp2
   all_goals go_end0
   all_goals exact ⟨rfl, rfl, rfl, rfl⟩
theorem unlink_ok (w : World) {c m : Nat} {most : Int} {l1 l2 : List (Nd Int Sl)} {x : Nd Int Sl} (h : Lay cfg w c m most (l1 ++ x :: l2)) :
  Calls Tryz.prog 141 #[.pointer (some ⟨c, 0, none⟩), .pointer (some ⟨x.a, 0, none⟩)] w fun e w' => e = .returned (.tuple #[]) ∧
   Lay cfg w' c m most (l1 ++ l2) ∧ w'.heap[x.a]? = some (nodeObj cfg x.it none none) ∧ Upd (c :: (l1 ++ x :: l2).map (·.a)) w w' :=
 (unlink_walk w h).mono fun _ _ ⟨he, hw⟩ => ⟨he, lay_unlink cfg h hw⟩
def LinkPost (w : World) (c x : Nat) (last : Option Nat) (e : Ending) (w' : World) : Prop := e = .returned (.tuple #[]) ∧ w'.Alike (linkW w c x last)
set_option maxHeartbeats 1000000 in
theorem link_walk (w : World) {c m : Nat} {most : Int} {l : List (Nd Int Sl)} {x : Nd Int Sl} (h : Lay cfg w c m most l) (hx : w.heap[x.a]? = some (nodeObj cfg x.it none none))
  (hnd : (c :: m :: (l ++ [x]).map (·.a)).Nodup) : Calls Tryz.prog 142 #[.pointer (some ⟨c, 0, none⟩), .pointer (some ⟨x.a, 0, none⟩)] w (LinkPost w c x.a (lst l none)) := by
 obtain ⟨-, -, c2, c3, fc⟩ := lay_cells cfg h
 obtain ⟨-, h2, -⟩ := h
 obtain ⟨-, -, -, -, x4, x5, fx⟩ := node_cells cfg hx
 obtain ⟨xa, xi⟩ := x
 simp only [] at *
 rcases List.eq_nil_or_concat l with rfl | ⟨l1, y, rfl⟩
 ·simp only [lst_nil, hd_nil, pt_none, List.nil_append] at *
  simp at hnd
  have n1 : c ≠ xa := hnd.1.2
  have n2 : xa ≠ c := Ne.symm n1
  clear h2 hnd hx x5
  go_enter Tryz.func142, Tryz.ntmps142
  go_wp2
  go_end0
  exact ⟨rfl, rfl, rfl, rfl⟩
 ·simp only [List.concat_eq_append, List.append_assoc] at *
  rw [chain_app] at h2
  obtain ⟨-, h7, _⟩ := h2
  obtain ⟨-, -, -, -, y4, y5, fy⟩ := node_cells cfg h7
  obtain ⟨ya, yi⟩ := y
  simp only [] at *
  simp only [lst_nil, lst_cons, hd_nil, hd_cons, lst_app, hd_app, pt_none, pt_some] at *
  simp [List.nodup_append] at hnd
  obtain ⟨⟨n1, n2, n3, n4⟩, ⟨n5, n6, n7⟩, n8, n9, n10⟩ := hnd
  have n3' := Ne.symm n3; have n4' := Ne.symm n4; have n9' := Ne.symm n9
  clear h7 n1 n2 n5 n6 n7 n8 n10 c2 x5 y4 hx
  go_enter Tryz.func142, Tryz.ntmps142
  go_wp2
  go_end0
  exact ⟨rfl, rfl, rfl, rfl⟩
theorem link_ok (w : World) {c m : Nat} {most : Int} {l : List (Nd Int Sl)} {x : Nd Int Sl} (h : Lay cfg w c m most l) (hx : w.heap[x.a]? = some (nodeObj cfg x.it none none))
  (hnd : (c :: m :: (l ++ [x]).map (·.a)).Nodup) : Calls Tryz.prog 142 #[.pointer (some ⟨c, 0, none⟩), .pointer (some ⟨x.a, 0, none⟩)] w fun e w' => e = .returned (.tuple #[]) ∧
   Lay cfg w' c m most (l ++ [x]) ∧ Upd (c :: (l ++ [x]).map (·.a)) w w' :=
 (link_walk w h hx hnd).mono fun _ _ ⟨he, hw⟩ => ⟨he, lay_link cfg h hx hnd hw⟩
theorem find_miss (w : World) {c m : Nat} {most : Int} {l : List (Nd Int Sl)} (h : Rep cfg w c m most l) (k : Int) (hk : ∀ n ∈ l, n.it.k ≠ k) (use : Bool) :
  Calls Tryz.prog 140 #[.pointer (some ⟨c, 0, none⟩), cfg.ek k, .bool use] w fun e w' => e = .returned (.pointer none) ∧ w = w' := by
 obtain ⟨-, c1, -, -, fc⟩ := lay_cells cfg h.lay
 obtain ⟨es, ck, h1, h2⟩ := h.map
 have hl := run_lookup_miss keys tmap (zeroPi w) h1 h2 hk
 simp only [pt_none] at hl
 clear h h1 h2 hk
 go_enter Tryz.func140, Tryz.ntmps140
 go_wp2
 go_ret
 exact ⟨rfl, rfl⟩
theorem find_hit (w : World) {c m : Nat} {most : Int} {l1 l2 : List (Nd Int Sl)} {x : Nd Int Sl} (h : Rep cfg w c m most (l1 ++ x :: l2)) (k : Int) (hk : x.it.k = k) :
  Calls Tryz.prog 140 #[.pointer (some ⟨c, 0, none⟩), cfg.ek k, .bool false] w fun e w' => e = .returned (.pointer (some ⟨x.a, 0, none⟩)) ∧ w = w' := by
 obtain ⟨-, c1, -, -, fc⟩ := lay_cells cfg h.lay
 obtain ⟨es, ck, h1, h2⟩ := h.map
 have hl := run_lookup_hit keys tmap h1 h2 h.keys hk
 simp only [pt_some] at hl
 clear h h1 h2 hk
 go_enter Tryz.func140, Tryz.ntmps140
 go_wp2
 go_ret
 exact ⟨rfl, rfl⟩
def UsedPost (w : World) (c m : Nat) (most : Int) (l1 l2 : List (Nd Int Sl)) (x : Nd Int Sl) (e : Ending) (w' : World) : Prop :=
 e = .returned (.pointer (some ⟨x.a, 0, none⟩)) ∧ Rep cfg w' c m most (l1 ++ l2 ++ [x]) ∧ Upd (c :: (l1 ++ x :: l2).map (·.a)) w w'
theorem find_use (w : World) {c m : Nat} {most : Int} {l1 l2 : List (Nd Int Sl)} {x : Nd Int Sl} (h : Rep cfg w c m most (l1 ++ x :: l2)) (k : Int) (hk : x.it.k = k) :
  Calls Tryz.prog 140 #[.pointer (some ⟨c, 0, none⟩), cfg.ek k, .bool true] w (UsedPost w c m most l1 l2 x) := by
 obtain ⟨-, c1, -, -, fc⟩ := lay_cells cfg h.lay
 obtain ⟨es, ck, h1, h2⟩ := h.map
 have hl := run_lookup_hit keys tmap h1 h2 h.keys hk
 simp only [pt_some] at hl
 clear h1 h2 hk
 go_enter Tryz.func140, Tryz.ntmps140
 go_wp2_with fail
 refine (unlink_ok w h.lay).mono ?_
 rintro e w1 ⟨rfl, hL, hx, hU⟩
 have HX := Lib.hid hx; clear hx
 go_wp2_with fail
 refine (link_ok w1 hL HX.out (used_nodup h.lay.nodup)).mono ?_
 rintro e w2 ⟨rfl, hL2, hU2⟩
 go_wp2_with fail
 go_ret
 exact ⟨rfl, rep_used h hU hL2 hU2⟩
end Go.Proofs.YtgpefiacbipfpaaGreatDoor.Bc.C

namespace Go.Proofs.YtgpefiacbipfpaaGreatDoor.Bc.C
open Go.RowKit
abbrev zk : Int := 0
abbrev zv : Sl := ⟨none, 0, 0⟩
def PutPost (w : World) (c m : Nat) (most : Int) (l l' : List (Nd Int Sl)) (gk : Int) (gv : Sl) (went gd : Bool) (err : Int) (e : Ending) (w' : World) : Prop :=
 e = .returned (.tuple #[cfg.ek gk, cfg.ev gv, .bool went, .bool gd, .int .i64 err]) ∧ Rep cfg w' c m most l' ∧ Upd (foot c m l) w w'
set_option maxRecDepth 100000 in
set_option maxHeartbeats 1000000 in
theorem put_there (w : World) {c m : Nat} {most : Int} {l1 l2 : List (Nd Int Sl)} {x : Nd Int Sl} (h : Rep cfg w c m most (l1 ++ x :: l2)) (k : Int) (hk : x.it.k = k) (v : Sl) (d : Bool) :
  Calls Tryz.prog 93 #[.pointer (some ⟨c, 0, none⟩), cfg.ek k, cfg.ev v, .bool d] w
   (PutPost w c m most (l1 ++ x :: l2) (l1 ++ l2 ++ [⟨x.a, { x.it with v := v, d := x.it.d || d }⟩]) zk zv false false 0) := by
 obtain ⟨xa, xk, xv, xd, xp⟩ := x
 simp only [] at hk ⊢
 have H := Lib.hid h
 clear h
 cases xd
 all_goals
  go_enter Tryz.func93, Tryz.ntmps93
  go_wp2_with fail
  refine (find_use _ (H.out.alloc _) k hk).mono ?_
  rintro e w1 ⟨rfl, hR, hU⟩
  obtain ⟨-, x1, x2, -, -, -, fx⟩ := node_cells cfg hR.node
  simp only [] at x1 x2 fx hR
  have nF := H.out.new_not
  have hg : w1.heap[w.heap.size]? = some (.cells #[cfg.ek zk, cfg.ev zv, .bool false, .int .i64 0, .pointer none, .pointer none] 208) := by
   rw [hU.block _ (by simp) (fun q => nF (by simp at q ⊢; grind)), heap_alloc, if_pos rfl]; try rfl
  have g0 : w1.cell? ⟨w.heap.size, 0, none⟩ = some (cfg.ek zk) := cell_blk hg 0
  have g1 : w1.cell? ⟨w.heap.size, 1, none⟩ = some (cfg.ev zv) := cell_blk hg 1
  simp only [] at g0 g1
  have nx : xa ≠ w.heap.size := fun q => nF (by simp [q])
  have nx' : w.heap.size ≠ xa := Ne.symm nx
  clear nF hg
  have HU := Lib.hid hU
  have HR := Lib.hid hR
  clear hU hR
  go_wp2
  go_region
  go_wp2
 ·refine bodyPost_ret (v := .tuple #[cfg.ek zk, cfg.ev zv, .bool false, .bool false, .int .i64 0]) (by simp [results, Tryz.results93, go_sem]; try rfl) rfl ⟨rfl, HR.out.set12 v _ ⟨rfl, rfl, rfl⟩, ?_⟩
  exact (((((Upd.refl _ _).alloc _).trans (HU.out.mono (fun q hq _ => by simp at hq ⊢; grind))).setCell (by simp) _ _).setCell (by simp) _ _).drew
 ·refine bodyPost_ret (v := .tuple #[cfg.ek zk, cfg.ev zv, .bool false, .bool false, .int .i64 0]) (by simp [results, Tryz.results93, go_sem]; try rfl) rfl ⟨rfl, HR.out.set12 v _ ⟨rfl, rfl, rfl⟩, ?_⟩
  exact (((((Upd.refl _ _).alloc _).trans (HU.out.mono (fun q hq _ => by simp at hq ⊢; grind))).setCell (by simp) _ _).setCell (by simp) _ _).drew
def PutNewPost (w : World) (c m : Nat) (most : Int) (l0 l : List (Nd Int Sl)) (it : It Int Sl) (gk : Int) (gv : Sl) (went gd : Bool) (e : Ending) (w' : World) : Prop :=
 ∃ a, e = .returned (.tuple #[cfg.ek gk, cfg.ev gv, .bool went, .bool gd, .int .i64 0]) ∧ Rep cfg w' c m most (l ++ [⟨a, it⟩]) ∧ Upd (foot c m l0) w w' ∧ w.heap.size ≤ a
abbrev goneObj : Obj := .cells #[cfg.ek zk, cfg.ev zv, .bool false, .int .i64 0, .pointer none, .pointer none] 208
set_option maxRecDepth 100000 in
set_option maxHeartbeats 1000000 in
theorem put_new (w : World) {c m : Nat} {most : Int} {l : List (Nd Int Sl)} (h : Rep cfg w c m most l) (k : Int) (hk : ∀ n ∈ l, n.it.k ≠ k) (v : Sl) (d : Bool) (hl : (l.length : Int) ≠ most) :
  Calls Tryz.prog 93 #[.pointer (some ⟨c, 0, none⟩), cfg.ek k, cfg.ev v, .bool d] w
   (PutNewPost w c m most l l { k := k, v := v, d := d, p := 0 } zk zv false false) := by
 have hN := h.new_not
 have h0 := h.alloc goneObj
 have HK := Lib.hid hk
 go_enter Tryz.func93, Tryz.ntmps93
 go_wp2_with fail
 refine (find_miss _ h0 k HK.out true).mono ?_
 rintro e w1 ⟨rfl, hw1⟩
 obtain ⟨es, ck, h1, h2⟩ := h0.map
 obtain ⟨c0, c1, c2, c3, fc⟩ := lay_cells cfg h0.lay
 have hg : (w.alloc goneObj).heap[w.heap.size]? = some goneObj := by rw [heap_alloc, if_pos rfl]
 have hs : (w.alloc goneObj).heap.size = w.heap.size + 1 := by simp
 have u0 : Upd (foot c m l) w (w.alloc goneObj) := (Upd.refl _ _).alloc _
 obtain rfl : w.alloc goneObj = w1 := hw1
 generalize w.alloc goneObj = w0 at *
 clear hk h
 have hcs : c < w0.heap.size := h0.c_lt
 have hcs' : c ≠ w0.heap.size := by omega
 have hms := h0.m_lt
 have hlen := run_len_map (P := Tryz.prog) (T := 194) (w := w0.drew) tmap h1 3
 have hz : ((es.size : Int) == most) = false := by rw [mapRep_size cfg h2]; simpa using hl
 have hst := run_store_new (P := Tryz.prog) (T := 194) (w := (w0.alloc (nodeObj cfg { k := k, v := v, d := d, p := 0 } none none)).drew) keys tmap (m := m) (es := es) (clock := ck) (by rw [heap_drew, heap_alloc, if_neg (by omega)]; exact h1) h2 HK.out (pt (some w0.heap.size))
 have hL := fun W2 hW => put_new_pre (W2 := W2) h0.lay h1 { k := k, v := v, d := d, p := 0 } hW
 have HP := Lib.hid (mapRep_push cfg h2 ⟨w0.heap.size, { k := k, v := v, d := d, p := 0 }⟩ ck)
 have HL := Lib.hid hL
 have HR := Lib.hid h0
 have HG := Lib.hid hg
 have HM := Lib.hid h1
 have HS := Lib.hid hs
 have HU := Lib.hid u0
 have HN := Lib.hid hN
 clear hg h1 hs hl h0 u0 hL hN
 simp only [nodeObj, pt_none, pt_some, cast0] at hst
 go_wp2_with fail
 go_region
 go_wp2_with fail
 generalize hW2 : ChangeMaps.setBlock ((w0.alloc _).drew) m _ = W2
 obtain ⟨hL, hx, hmap, hU2, hnd⟩ := HL.out W2 (by rw [← hW2]; exact ⟨rfl, rfl, rfl⟩)
 clear hW2
 have HX := Lib.hid hx
 have HB := Lib.hid hmap
 clear hx hmap hlen hst c0 c1 c2 c3 fc
 refine (link_ok W2 hL HX.out hnd).mono ?_
 rintro e w3 ⟨rfl, hL3, hU3⟩
 have hnw : w.heap.size ∉ c :: (l ++ [(⟨w0.heap.size, { k := k, v := v, d := d, p := 0 }⟩ : Nd Int Sl)]).map (·.a) := by
  have h1 := HN.out; have h2 := HS.out
  simp at h1 ⊢; refine ⟨h1.1, fun x hx => h1.2.2 x hx, by omega⟩
 have hg : w3.heap[w.heap.size]? = some goneObj := by
  have h1 := HN.out; have h2 := HS.out
  rw [hU3.block _ (by have := hU2.size; omega) hnw, hU2.block _ (by omega) (by simp at h1 ⊢; exact h1.2.1)]; exact HG.out
 have g0 : w3.cell? ⟨w.heap.size, 0, none⟩ = some (cfg.ek zk) := cell_blk hg 0
 have g1 : w3.cell? ⟨w.heap.size, 1, none⟩ = some (cfg.ev zv) := cell_blk hg 1
 have g2 : w3.cell? ⟨w.heap.size, 2, none⟩ = some (.bool false) := cell_blk hg 2
 have hkk : ((l ++ [(⟨w0.heap.size, { k := k, v := v, d := d, p := 0 }⟩ : Nd Int Sl)]).map (·.it.k)).Nodup := by
  have h1 := HR.out.keys; have h2 := HK.out
  simp only [List.map_append, List.map_cons, List.map_nil, List.nodup_append]
  refine ⟨h1, by simp, ?_⟩
  simp; exact fun x hx => h2 x hx
 have hR := rep_new HB.out HP.out hkk hL3 hU3
 have hUU : Upd (foot c m l) w w3 := by
  have h2 := HS.out
  refine (HU.out.next hU2 (by simp)).next hU3 (fun q hq hlt => ?_)
  simp at hq ⊢
  rcases hq with hq | hq | hq
  ·exact .inl hq
  ·exact .inr (.inr hq)
  ·omega
 have HF := Lib.hid (And.intro hR hUU)
 clear hg hnw hkk hR hUU hL3 hU3 hL hnd
 simp only [] at g0 g1 g2
 go_wp2
 go_region
 go_wp2
 all_goals exact bodyPost_ret (v := .tuple #[cfg.ek zk, cfg.ev zv, .bool false, .bool false, .int .i64 0]) (by simp [results, Tryz.results93, go_sem]; try rfl) rfl ⟨w0.heap.size, rfl, HF.out.1.alike cfg ⟨rfl, rfl, rfl⟩, HF.out.2.drew, by have := HS.out; omega⟩
set_option maxRecDepth 100000 in
set_option maxHeartbeats 2000000 in
theorem put_goes (w : World) {c m : Nat} {most : Int} {l1 l2 : List (Nd Int Sl)} {x : Nd Int Sl} (h : Rep cfg w c m most (l1 ++ x :: l2)) (k : Int) (hk : ∀ n ∈ l1 ++ x :: l2, n.it.k ≠ k) (v : Sl) (d : Bool)
  (hl : ((l1 ++ x :: l2).length : Int) = most) (hp : ∀ n ∈ l1, 0 < n.it.p) (hx : x.it.p = 0) :
  Calls Tryz.prog 93 #[.pointer (some ⟨c, 0, none⟩), cfg.ek k, cfg.ev v, .bool d] w (PutNewPost w c m most (l1 ++ x :: l2) (l1 ++ l2) { k := k, v := v, d := d, p := 0 } x.it.k x.it.v true x.it.d) := by
 obtain ⟨xa, xk, xv, xd, xp⟩ := x
 simp only [] at hx ⊢
 subst hx
 have hN := h.new_not
 have h0 := h.alloc goneObj
 have HK := Lib.hid hk
 go_enter Tryz.func93, Tryz.ntmps93
 go_wp2_with fail
 refine (find_miss _ h0 k HK.out true).mono ?_
 rintro e w1 ⟨rfl, hw1⟩
 obtain ⟨es, ck, h1, h2⟩ := h0.map
 obtain ⟨c0, c1, c2, c3, fc⟩ := lay_cells cfg h0.lay
 have hg : (w.alloc goneObj).heap[w.heap.size]? = some goneObj := by rw [heap_alloc, if_pos rfl]
 have hs : (w.alloc goneObj).heap.size = w.heap.size + 1 := by simp
 have u0 : Upd (foot c m (l1 ++ ⟨xa, { k := xk, v := xv, d := xd, p := 0 }⟩ :: l2)) w (w.alloc goneObj) := (Upd.refl _ _).alloc _
 obtain rfl : w.alloc goneObj = w1 := hw1
 generalize w.alloc goneObj = w0 at *
 clear hk h
 have hlen := run_len_map (P := Tryz.prog) (T := 194) (w := w0.drew) tmap h1 3
 have hz : ((es.size : Int) == most) = true := by rw [mapRep_size cfg h2]; simpa using hl
 obtain ⟨x0, x1, x2, x3, x4, x5, fx⟩ := node_cells cfg h0.node
 have g0 : w0.cell? ⟨w.heap.size, 0, none⟩ = some (cfg.ek zk) := cell_blk hg 0
 have g1 : w0.cell? ⟨w.heap.size, 1, none⟩ = some (cfg.ev zv) := cell_blk hg 1
 have g2 : w0.cell? ⟨w.heap.size, 2, none⟩ = some (.bool false) := cell_blk hg 2
 have g3 : w0.cell? ⟨w.heap.size, 3, none⟩ = some (.int .i64 0) := cell_blk hg 3
 have g4 : w0.cell? ⟨w.heap.size, 4, none⟩ = some (.pointer none) := cell_blk hg 4
 have g5 : w0.cell? ⟨w.heap.size, 5, none⟩ = some (.pointer none) := cell_blk hg 5
 have fg := frozen_blk hg
 have nx : xa ≠ w.heap.size := fun q => hN (by simp [q])
 have nx' : w.heap.size ≠ xa := Ne.symm nx
 simp only [cast0] at g0 g1 x0 x1 x2 x3 x4 x5
 obtain ⟨pp, hpp⟩ : ∃ o, pt (lst l1 none) = .pointer o := ⟨_, rfl⟩
 obtain ⟨pq, hpq⟩ : ∃ o, pt (hd l2 none) = .pointer o := ⟨_, rfl⟩
 rw [hpp] at x4
 rw [hpq] at x5
 clear hpp hpq
 have hst6 := fun W' hW => store6 (w' := W') (b0 := cfg.ek xk) (b1 := cfg.ev xv) (b2 := .bool xd) (b3 := .int .i64 0) (b4 := .pointer pp) (b5 := .pointer pq) hg hW
 have H6 := Lib.hid hst6
 have HR := Lib.hid h0
 have HU := Lib.hid u0
 have HP := Lib.hid hp
 have HN := Lib.hid hN
 have HM := Lib.hid h1
 have HMR := Lib.hid h2
 have HS := Lib.hid hs
 clear hg h1 hl h0 u0 hp h2 hst6 hN hs
 go_wp2_with fail
 go_region
 go_wp2_with fail
 go_loopg [16] l1.length (fun n v wr => wr = w0.drew ∧ ∃ a b, l1 = a ++ b ∧ v = pt (hd (b ++ ⟨xa, { k := xk, v := xv, d := xd, p := 0 }⟩ :: l2) none) ∧ n = b.length)
 case atStart => exact ⟨rfl, [], l1, rfl, rfl, rfl⟩
 case round =>
  obtain ⟨rfl, a, b, hab, rfl, rfl⟩ := hrel
  rcases b with _ | ⟨n, b⟩
  ·simp only [List.nil_append, hd_cons, pt_some]
   clear hab c0 c1 c2 c3 fc hlen hz
   go_wp2_with fail
   generalize hW1 : World.drew (World.setCell _ _ _) = w1
   obtain ⟨hg1, hU1⟩ := H6.out w1 (by rw [← hW1]; exact alike_drew _)
   clear hW1 H6 x0 x1 x2 x3 x4 x5 fx g0 g1 g2 g3 g4 g5 fg
   have hR1 := HR.out.keep hU1 (fun q hq => by simp only [List.mem_singleton]; rintro rfl; exact HN.out hq)
   have hc := unlink_ok w1 hR1.lay
   simp only [] at hc
   refine hc.mono ?_
   clear hc
   rintro e w2 ⟨rfl, hL, hX, hU2⟩
   have hs2 : w.heap.size + 1 ≤ w2.heap.size := by have h1 := HS.out; have h2 := hU1.size; have h3 := hU2.size; omega
   have hms := HR.out.m_lt
   have hm2 : w2.heap[m]? = some (.map es ck) := by
    have h1 := hU1.size
    rw [hU2.block _ (by omega) hR1.lay.m_not, hU1.block _ hms (by simp only [List.mem_singleton]; rintro rfl; exact HN.out (by simp))]
    exact HM.out
   have hg2 : w2.heap[w.heap.size]? = some (.cells #[cfg.ek xk, cfg.ev xv, .bool xd, .int .i64 0, .pointer pp, .pointer pq] 208) := by
    have h1 := hU1.size; have h2 := HS.out
    rw [hU2.block _ (by omega) (fun q => HN.out (by simp at q ⊢; grind))]; exact hg1
   obtain ⟨es', hdel, hmr⟩ := run_delete_hit (w := w2.drew) (P := Tryz.prog) (T := 194) keys tmap hm2 HMR.out HR.out.keys (k := xk) rfl 3 0
   obtain ⟨c0, c1, c2, c3, fc⟩ := lay_cells cfg hL
   obtain ⟨x0, -, -, -, -, -, fx⟩ := node_cells cfg hX
   have HF1 := Lib.hid hR1
   have HF2 := Lib.hid hL
   have HF3 := Lib.hid hU2
   have HF4 := Lib.hid hm2
   have HF5 := Lib.hid hg2
   have HF6 := Lib.hid hU1
   clear hg1 hR1 hL hX hU2 hm2 hg2 hU1 c0 c2 c3
   simp only [] at x0 hdel
   go_upto_region 17 with (fail)
   go_region
   go_upto_region 18 with (fail)
   generalize hW4 : ChangeMaps.setBlock w2.drew m _ = w4
   obtain ⟨hR4, hU4⟩ := rep_gone (w2 := w4) HF1.out HF4.out HF2.out hmr (by rw [← hW4]; exact ⟨rfl, rfl, rfl⟩)
   have hu0 : Upd (foot c m (l1 ++ ⟨xa, { k := xk, v := xv, d := xd, p := 0 }⟩ :: l2)) w w4 := by
    refine ((HU.out.next HF6.out (fun q hq hlt => ?_)).next HF3.out (fun q hq _ => ?_)).next hU4 (fun q hq _ => ?_)
    ·simp at hq; omega
    ·simp at hq ⊢; grind
    ·simp at hq ⊢; grind
   have hgm : w.heap.size ≠ m := fun q => HN.out (by simp [q])
   have hg4 : w4.heap[w.heap.size]? = some (.cells #[cfg.ek xk, cfg.ev xv, .bool xd, .int .i64 0, .pointer pp, .pointer pq] 208) := by
    rw [hU4.block _ (by omega) (by simpa using hgm)]; exact HF5.out
   have hs4 : w.heap.size + 1 ≤ w4.heap.size := by have := hU4.size; omega
   have HK4 : Hid (∀ n ∈ l1 ++ l2, n.it.k ≠ k) := Lib.hid (fun n hn => HK.out n (by simp at hn ⊢; grind))
   have hgF : w.heap.size ∉ foot c m (l1 ++ l2) := fun q => HN.out (by simp at q ⊢; grind)
   clear hW4 hdel hmr c1 fc x0 fx HF1 HF2 HF3 HF4 HF5 HF6 hU4 HK HU HN HM HMR HS HR HP nx nx' hs2 hms
   obtain ⟨es4, ck4, h1, h2⟩ := hR4.map
   obtain ⟨c0, c1, c2, c3, fc⟩ := lay_cells cfg hR4.lay
   have hcs : c < w4.heap.size := hR4.c_lt
   have hcs' : c ≠ w4.heap.size := by omega
   have hms := hR4.m_lt
   have hst := run_store_new (P := Tryz.prog) (T := 194) (w := w4.alloc (nodeObj cfg { k := k, v := v, d := d, p := 0 } none none)) keys tmap (m := m) (es := es4) (clock := ck4) (by rw [heap_alloc, if_neg (by omega)]; exact h1) h2 HK4.out (pt (some w4.heap.size))
   have hL := fun W2 hW => put_new_pre (W2 := W2) hR4.lay h1 { k := k, v := v, d := d, p := 0 } hW
   have HP := Lib.hid (mapRep_push cfg h2 ⟨w4.heap.size, { k := k, v := v, d := d, p := 0 }⟩ ck4)
   have HL := Lib.hid hL
   have HR := Lib.hid hR4
   have HG := Lib.hid hg4
   have HM := Lib.hid h1
   have HU := Lib.hid hu0
   have HN := Lib.hid hgF
   clear hg4 h1 hu0 hL hgF hR4 h2
   simp only [nodeObj, pt_none, pt_some, cast0] at hst
   go_wp2_with fail
   generalize hW2 : ChangeMaps.setBlock (w4.alloc _) m _ = w5
   obtain ⟨hL, hx, hmap, hU2, hnd⟩ := HL.out w5 (by rw [← hW2]; exact alike_refl _)
   clear hW2
   have HX := Lib.hid hx
   have HB := Lib.hid hmap
   clear hx hmap hst c0 c1 c2 c3 fc HL
   refine (link_ok w5 hL HX.out hnd).mono ?_
   rintro e w3 ⟨rfl, hL3, hU3⟩
   have hnw : w.heap.size ∉ c :: (l1 ++ l2 ++ [(⟨w4.heap.size, { k := k, v := v, d := d, p := 0 }⟩ : Nd Int Sl)]).map (·.a) := by
    intro q
    rw [List.map_append, ← List.cons_append] at q
    rcases List.mem_append.1 q with q | q
    ·exact HN.out (by simp at q ⊢; grind)
    ·simp at q; omega
   have hg : w3.heap[w.heap.size]? = some (.cells #[cfg.ek xk, cfg.ev xv, .bool xd, .int .i64 0, .pointer pp, .pointer pq] 208) := by
    rw [hU3.block _ (by have := hU2.size; omega) hnw, hU2.block _ (by omega) (by simpa using hgm)]; exact HG.out
   have g0 : w3.cell? ⟨w.heap.size, 0, none⟩ = some (cfg.ek xk) := cell_blk hg 0
   have g1 : w3.cell? ⟨w.heap.size, 1, none⟩ = some (cfg.ev xv) := cell_blk hg 1
   have g2 : w3.cell? ⟨w.heap.size, 2, none⟩ = some (.bool xd) := cell_blk hg 2
   have hkk : ((l1 ++ l2 ++ [(⟨w4.heap.size, { k := k, v := v, d := d, p := 0 }⟩ : Nd Int Sl)]).map (·.it.k)).Nodup := by
    have h1 := HR.out.keys; have h2 := HK4.out
    rw [List.map_append, List.nodup_append]
    refine ⟨h1, by simp, ?_⟩
    intro q hq r hr
    obtain ⟨n, hn, rfl⟩ := List.mem_map.1 hq
    simp at hr; subst hr
    exact h2 n hn
   have hR := rep_new HB.out HP.out hkk hL3 hU3
   have hUU : Upd (foot c m (l1 ++ ⟨xa, { k := xk, v := xv, d := xd, p := 0 }⟩ :: l2)) w w3 := by
    refine (HU.out.next hU2 (by simp)).next hU3 (fun q hq hlt => ?_)
    rw [List.map_append, ← List.cons_append] at hq
    rcases List.mem_append.1 hq with hq | hq
    ·simp at hq ⊢; grind
    ·simp at hq; omega
   have HF := Lib.hid (And.intro hR hUU)
   clear hg hnw hkk hR hUU hL3 hU3 hL hnd
   simp only [] at g0 g1 g2
   go_wp2
   go_region
   go_wp2
   all_goals exact bodyPost_ret (v := .tuple #[cfg.ek xk, cfg.ev xv, .bool true, .bool xd, .int .i64 0]) (by simp [results, Tryz.results93, go_sem]; try rfl) rfl ⟨w4.heap.size, rfl, HF.out.1.alike cfg (alike_drew _), HF.out.2.drew, by omega⟩
  ·have hn := ((by have := HR.out; rw [hab, List.append_assoc, List.cons_append] at this; exact this : Rep cfg w0 c m most (a ++ n :: (b ++ ⟨xa, { k := xk, v := xv, d := xd, p := 0 }⟩ :: l2)))).node
   have hpn := HP.out n (by rw [hab]; simp)
   obtain ⟨na, nk, nv, nd, np⟩ := n
   obtain ⟨-, -, -, n3, -, n5, -⟩ := node_cells cfg hn
   simp only [hd_cons, pt_some, List.cons_append] at *
   have hq : decide (0 < (np : Int)) = true := by simpa using hpn
   have hq2 : 0 < np := by simpa using hpn
   have HA := Lib.hid hab
   clear hab hn hpn c0 c1 c2 c3 fc g0 g1 g2 g3 g4 g5 fg x0 x1 x2 x3 x4 x5 fx hlen hz
   go_wp2_with fail
   go_roundg b.length
   case measure => simp
   case rel => exact ⟨rfl, a ++ [⟨na, { k := nk, v := nv, d := nd, p := np }⟩], b, by rw [HA.out]; simp, rfl, rfl⟩
end Go.Proofs.YtgpefiacbipfpaaGreatDoor.Bc.C

namespace Go.Proofs.YtgpefiacbipfpaaGreatDoor.Bc.C
open Go.RowKit
theorem get_miss (w : World) {c m : Nat} {most : Int} {l : List (Nd Int Sl)} (h : Rep cfg w c m most l) (k : Int) (hk : ∀ n ∈ l, n.it.k ≠ k) :
  Calls Tryz.prog 91 #[.pointer (some ⟨c, 0, none⟩), cfg.ek k] w fun e w' => e = .returned (.tuple #[cfg.ev zv, .bool false]) ∧ w = w' := by
 have HK := Lib.hid hk
 clear hk
 go_enter Tryz.func91, Tryz.ntmps91
 go_wp2_with fail
 refine (find_miss w h k HK.out true).mono ?_
 rintro e w1 ⟨rfl, rfl⟩
 go_wp2_with fail
 go_ret2
 exact ⟨rfl, rfl⟩
def GetPost (w : World) (c m : Nat) (most : Int) (l l' : List (Nd Int Sl)) (v : Sl) (e : Ending) (w' : World) : Prop :=
 e = .returned (.tuple #[cfg.ev v, .bool true]) ∧ Rep cfg w' c m most l' ∧ Upd (foot c m l) w w'
theorem get_hit (w : World) {c m : Nat} {most : Int} {l1 l2 : List (Nd Int Sl)} {x : Nd Int Sl} (h : Rep cfg w c m most (l1 ++ x :: l2)) (k : Int) (hk : x.it.k = k) :
  Calls Tryz.prog 91 #[.pointer (some ⟨c, 0, none⟩), cfg.ek k] w (GetPost w c m most (l1 ++ x :: l2) (l1 ++ l2 ++ [x]) x.it.v) := by
 have HK := Lib.hid hk
 clear hk
 go_enter Tryz.func91, Tryz.ntmps91
 go_wp2_with fail
 refine (find_use w h k HK.out).mono ?_
 rintro e w1 ⟨rfl, hR, hU⟩
 obtain ⟨-, x1, -, -, -, -, fx⟩ := node_cells cfg hR.node
 have HR := Lib.hid hR
 have HU := Lib.hid hU
 clear hR hU
 simp only [] at x1
 go_wp2_with fail
 go_ret2
 exact ⟨rfl, HR.out, HU.out.mono (fun q hq _ => by simp at hq ⊢; grind)⟩
end Go.Proofs.YtgpefiacbipfpaaGreatDoor.Bc.C

namespace Go.Proofs.YtgpefiacbipfpaaGreatDoor
open Go.RowKit
open Bc (Nd It Rep foot chain_at)
abbrev SvB := Bc.C.Sl
abbrev svV (s : Bc.C.Sl) : Value := .slice s.a s.n s.c
abbrev cfgB := Bc.C.cfg
theorem own_ne' {α : Type} {f : α → List Value} {e t : TypeId} {k base B : Nat} {W : World} {v : Value} {l : List α} {c : Array Value} {fr : Nat × Nat} (h : OwnG f e k W base v l) (hb : W.heap[B]? = some (.cells c t fr)) (ht : t ≠ e) : v.ownBlock ≠ some B := by
 intro hv
 rcases h.2 with ⟨rfl, -⟩ | ⟨g, cap, cur, rfl, -, hg, -⟩
 ·cases hv
 ·simp only [Value.ownBlock, Option.some.injEq] at hv
  subst hv
  rw [hg] at hb
  simp only [Option.some.injEq, Obj.cells.injEq] at hb
  exact ht hb.2.1.symm
theorem own_map {α : Type} {f : α → List Value} {e : TypeId} {k base B : Nat} {W : World} {v : Value} {l : List α} {es : Array MapEntry} {ck : Nat} (h : OwnG f e k W base v l) (hb : W.heap[B]? = some (.map es ck)) : v.ownBlock ≠ some B := by
 intro hv
 rcases h.2 with ⟨rfl, -⟩ | ⟨g, cap, cur, rfl, -, hg, -⟩
 ·cases hv
 ·simp only [Value.ownBlock, Option.some.injEq] at hv
  subst hv
  rw [hg] at hb
  cases hb
theorem row_foot {w : World} {c m : Nat} {most : Int} {l : List (Nd Int SvB)} (h : Rep cfgB w c m most l) {base : Nat} {v : Value} {b : Bs} (ho : OwnG c8 5 1 w base v b) : ∀ j ∈ foot c m l, v.ownBlock ≠ some j := by
 intro j hj
 simp only [foot, List.mem_cons, List.mem_map] at hj
 rcases hj with rfl | rfl | ⟨n, hn, rfl⟩
 ·exact own_ne' ho h.lay.cache (by decide)
 ·obtain ⟨es, ck, h1, -⟩ := h.map
  exact own_map ho h1
 ·obtain ⟨p, q, h1⟩ := chain_at cfgB h.lay.chain hn
  exact own_ne' ho h1 (by decide)
structure CaR (w : World) (c m : Nat) (l : List (Nd Int SvB)) (V : Nat → Bs) (FC : List Nat) : Prop where
 rep : Rep cfgB w c m 16 l
 few : l.length ≤ 16
 val : ∀ x ∈ l, ∃ kk : Nat, x.it.k = kk ∧ x.it.p = 0 ∧ OwnG c8 5 1 w 0 (svV x.it.v) (V kk)
 foot : ∀ k ∈ foot c m l, k ∈ FC
 vin : ∀ x ∈ l, ∀ g, (svV x.it.v).ownBlock = some g → g ∈ FC
theorem CaR.upd {w w' : World} {c m : Nat} {l : List (Nd Int SvB)} {V : Nat → Bs} {FC : List Nat} (h : CaR w c m l V FC) {F : List Nat} (u : Upd F w w') (hF : ∀ k ∈ FC, k ∉ F) : CaR w' c m l V FC :=
 ⟨h.rep.keep u fun k hk => hF k (h.foot k hk), h.few, fun x hx => by
  obtain ⟨kk, h1, h2, h3⟩ := h.val x hx
  exact ⟨kk, h1, h2, h3.upd u fun j hj e => hF j (h.vin x hx j e) hj⟩, h.foot, h.vin⟩
theorem CaR.congr {w : World} {c m : Nat} {l : List (Nd Int SvB)} {V V' : Nat → Bs} {FC : List Nat} (h : CaR w c m l V FC) (e : ∀ k, V' k = V k) : CaR w c m l V' FC :=
 ⟨h.rep, h.few, fun x hx => by obtain ⟨kk, h1, h2, h3⟩ := h.val x hx; exact ⟨kk, h1, h2, by rw [e]; exact h3⟩, h.foot, h.vin⟩
theorem hit_or {l : List (Nd Int SvB)} (x : Int) : (∀ n ∈ l, n.it.k ≠ x) ∨ ∃ l1 y l2, l = l1 ++ y :: l2 ∧ y.it.k = x := by
 by_cases h : ∃ y ∈ l, y.it.k = x
 ·obtain ⟨y, hy, hk⟩ := h
  obtain ⟨l1, l2, rfl⟩ := List.append_of_mem hy
  exact .inr ⟨l1, y, l2, rfl, hk⟩
 ·exact .inl fun n hn e => h ⟨n, hn, e⟩
def CGetPost (w : World) (c m : Nat) (_l : List (Nd Int SvB)) (V : Nat → Bs) (FC : List Nat) (x : Nat) (e : Ending) (w' : World) : Prop :=
 (∃ (v : SvB) (l' : List (Nd Int SvB)), e = .returned (.tuple #[svV v, .bool true]) ∧ OwnG c8 5 1 w' 0 (svV v) (V x) ∧ CaR w' c m l' V FC ∧ Upd FC w w') ∨ (e = .returned (.tuple #[.slice none 0 0, .bool false]) ∧ w' = w)
theorem cget_ok (w : World) {c m : Nat} {l : List (Nd Int SvB)} {V : Nat → Bs} {FC : List Nat} (h : CaR w c m l V FC) (x : Nat) : Calls Tryz.prog 91 #[.pointer (some ⟨c, 0, none⟩), .int .i64 x] w (CGetPost w c m l V FC x) := by
 rcases hit_or (l := l) (x : Int) with hx | ⟨l1, y, l2, rfl, hk⟩
 ·exact (Bc.C.get_miss w h.rep (x : Int) hx).mono fun e w' ⟨he, hw⟩ => .inr ⟨he, hw.symm⟩
 ·refine (Bc.C.get_hit w h.rep (x : Int) hk).mono ?_
  rintro e w' ⟨he, hR, hU⟩
  have hrow : ∀ n ∈ l1 ++ y :: l2, ∃ kk : Nat, n.it.k = kk ∧ n.it.p = 0 ∧ OwnG c8 5 1 w' 0 (svV n.it.v) (V kk) := fun n hn => by
   obtain ⟨kk, h1, h2, h3⟩ := h.val n hn
   exact ⟨kk, h1, h2, h3.upd hU fun j hj => row_foot h.rep h3 j hj⟩
  have hmem : ∀ n, n ∈ l1 ++ l2 ++ [y] → n ∈ l1 ++ y :: l2 := fun n hn => by simp at hn ⊢; grind
  refine .inl ⟨y.it.v, _, he, ?_, ⟨hR, by have := h.few; simp at this ⊢; omega, fun n hn => hrow n (hmem n hn), fun k hk => h.foot k ?_, fun n hn => h.vin n (hmem n hn)⟩, hU.mono fun k hk _ => h.foot k hk⟩
  ·obtain ⟨kk, h1, -, h3⟩ := hrow y (by simp)
   have : kk = x := by rw [hk] at h1; omega
   rw [← this]; exact h3
  ·simp only [foot, List.mem_cons, List.mem_map] at hk ⊢
   rcases hk with rfl | rfl | ⟨n, hn, rfl⟩
   ·simp
   ·simp
   ·exact .inr (.inr ⟨n, hmem n hn, rfl⟩)
def setV (V : Nat → Bs) (x : Nat) (d : Bs) : Nat → Bs := fun k => if k = x then d else V k
def CPutPost (w : World) (c m : Nat) (V : Nat → Bs) (FC : List Nat) (x : Nat) (v : SvB) (d : Bs) (e : Ending) (w' : World) : Prop :=
 ∃ (k' : Int) (v' : SvB) (b1 b2 : Bool) (l' : List (Nd Int SvB)) (FC' : List Nat), e = .returned (.tuple #[.int .i64 k', svV v', .bool b1, .bool b2, .int .i64 0]) ∧ CaR w' c m l' (setV V x d) FC' ∧ Upd FC w w' ∧ ∀ i ∈ FC', i ∈ FC ∨ (w.heap.size ≤ i ∧ i < w'.heap.size) ∨ (svV v).ownBlock = some i
theorem cput_ok (w : World) {c m : Nat} {l : List (Nd Int SvB)} {V : Nat → Bs} {FC : List Nat} (h : CaR w c m l V FC) (x : Nat) (v : SvB) {d : Bs} (hv : OwnG c8 5 1 w 0 (svV v) d) :
  Calls Tryz.prog 93 #[.pointer (some ⟨c, 0, none⟩), .int .i64 x, svV v, .bool false] w (CPutPost w c m V FC x v d) := by
 have hkeep : ∀ {w' : World}, Upd (foot c m l) w w' → ∀ n ∈ l, ∃ kk : Nat, n.it.k = kk ∧ n.it.p = 0 ∧ OwnG c8 5 1 w' 0 (svV n.it.v) (V kk) := fun hU n hn => by
  obtain ⟨kk, h1, h2, h3⟩ := h.val n hn
  exact ⟨kk, h1, h2, h3.upd hU fun j hj => row_foot h.rep h3 j hj⟩
 have hnew : ∀ {w' : World}, Upd (foot c m l) w w' → OwnG c8 5 1 w' 0 (svV v) d := fun hU => hv.upd hU fun j hj => row_foot h.rep hv j hj
 have hoth : ∀ {w' : World}, Upd (foot c m l) w w' → ∀ n ∈ l, n.it.k ≠ x → ∃ kk : Nat, n.it.k = kk ∧ n.it.p = 0 ∧ OwnG c8 5 1 w' 0 (svV n.it.v) (setV V x d kk) := fun hU n hn hne => by
  obtain ⟨kk, h1, h2, h3⟩ := hkeep hU n hn
  exact ⟨kk, h1, h2, by unfold setV; rw [if_neg (fun e => hne (by rw [h1, e]))]; exact h3⟩
 have hfu : ∀ {w' : World}, Upd (foot c m l) w w' → Upd FC w w' := fun hU => hU.mono fun k hk _ => h.foot k hk
 rcases hit_or (l := l) (x : Int) with hx | ⟨l1, y, l2, rfl, hk⟩
 ·by_cases hl : l.length = 16
  ·obtain ⟨y, l2, rfl⟩ : ∃ y l2, l = y :: l2 := by
    cases l with
    | nil => simp at hl
    | cons y l2 => exact ⟨y, l2, rfl⟩
   obtain ⟨_, _, hp0, _⟩ := h.val y (by simp)
   refine (Bc.C.put_goes (l1 := []) w h.rep (x : Int) hx v false (by rw [List.nil_append, hl]; rfl) (by simp) hp0).mono ?_
   rintro e w' ⟨a, he, hR, hU, ha⟩
   rw [List.nil_append] at hR
   refine ⟨_, _, _, _, _, a :: ((svV v).ownBlock.toList ++ FC), he, ⟨hR, by simp at hl ⊢; omega, fun n hn => ?_, fun k hk => ?_, fun n hn g hg => ?_⟩, hfu hU, fun i hi => ?_⟩
   ·rcases List.mem_append.1 hn with hn | hn
    ·exact hoth hU n (by simp [hn]) (hx n (by simp [hn]))
    ·simp only [List.mem_singleton] at hn; subst hn
     exact ⟨x, rfl, rfl, by unfold setV; rw [if_pos rfl]; exact hnew hU⟩
   ·simp only [foot, List.mem_cons, List.mem_map, List.mem_append, List.not_mem_nil, or_false] at hk ⊢
    rcases hk with rfl | rfl | ⟨n, hn | rfl, rfl⟩
    ·exact .inr (.inr (h.foot _ (by simp)))
    ·exact .inr (.inr (h.foot _ (by simp)))
    ·exact .inr (.inr (h.foot _ (by simp; exact .inr (.inr (.inr ⟨n, hn, rfl⟩)))))
    ·exact .inl rfl
   ·rcases List.mem_append.1 hn with hn | hn
    ·have := h.vin n (by simp [hn]) g hg
     simp [this]
    ·simp only [List.mem_singleton] at hn; subst hn
     simp [Option.mem_toList] at hg ⊢
     exact .inr (.inl hg)
   ·simp only [List.mem_cons, List.mem_append, Option.mem_toList] at hi
    rcases hi with rfl | hi | hi
    ·exact .inr (.inl ⟨ha, hR.lt (by simp)⟩)
    ·exact .inr (.inr hi)
    ·exact .inl hi
  ·refine (Bc.C.put_new w h.rep (x : Int) hx v false (by omega)).mono ?_
   rintro e w' ⟨a, he, hR, hU, ha⟩
   refine ⟨_, _, _, _, _, a :: ((svV v).ownBlock.toList ++ FC), he, ⟨hR, by have := h.few; simp; omega, fun n hn => ?_, fun k hk => ?_, fun n hn g hg => ?_⟩, hfu hU, fun i hi => ?_⟩
   ·rcases List.mem_append.1 hn with hn | hn
    ·exact hoth hU n hn (hx n hn)
    ·simp only [List.mem_singleton] at hn; subst hn
     exact ⟨x, rfl, rfl, by unfold setV; rw [if_pos rfl]; exact hnew hU⟩
   ·simp only [foot, List.mem_cons, List.mem_map, List.mem_append, List.not_mem_nil, or_false] at hk ⊢
    rcases hk with rfl | rfl | ⟨n, hn | rfl, rfl⟩
    ·exact .inr (.inr (h.foot _ (by simp)))
    ·exact .inr (.inr (h.foot _ (by simp)))
    ·exact .inr (.inr (h.foot _ (by simp; exact .inr (.inr ⟨n, hn, rfl⟩))))
    ·exact .inl rfl
   ·rcases List.mem_append.1 hn with hn | hn
    ·have := h.vin n hn g hg
     simp [this]
    ·simp only [List.mem_singleton] at hn; subst hn
     simp [Option.mem_toList] at hg ⊢
     exact .inr (.inl hg)
   ·simp only [List.mem_cons, List.mem_append, Option.mem_toList] at hi
    rcases hi with rfl | hi | hi
    ·exact .inr (.inl ⟨ha, hR.lt (by simp)⟩)
    ·exact .inr (.inr hi)
    ·exact .inl hi
 ·refine (Bc.C.put_there w h.rep (x : Int) hk v false).mono ?_
  rintro e w' ⟨he, hR, hU⟩
  obtain ⟨_, _, hp0, _⟩ := h.val y (by simp)
  have hkeys := h.rep.keys
  have hne : ∀ n ∈ l1 ++ l2, n.it.k ≠ x := fun n hn e => by
   rw [List.map_append, List.map_cons] at hkeys
   have h2 := List.nodup_append.1 hkeys
   rcases List.mem_append.1 hn with hn | hn
   ·exact h2.2.2 n.it.k (List.mem_map.2 ⟨n, hn, rfl⟩) y.it.k (by simp) (by rw [e, hk])
   ·exact (List.nodup_cons.1 h2.2.1).1 (List.mem_map.2 ⟨n, hn, by rw [e, hk]⟩)
  refine ⟨_, _, _, _, _, (svV v).ownBlock.toList ++ FC, he, ⟨hR, by have := h.few; simp at this ⊢; omega, fun n hn => ?_, fun k hk2 => ?_, fun n hn g hg => ?_⟩, hfu hU, fun i hi => ?_⟩
  ·rcases List.mem_append.1 hn with hn | hn
   ·exact hoth hU n (by simp at hn ⊢; grind) (hne n hn)
   ·simp only [List.mem_singleton] at hn; subst hn
    exact ⟨x, hk, hp0, by unfold setV; rw [if_pos rfl]; exact hnew hU⟩
  ·have : k ∈ foot c m (l1 ++ y :: l2) := by
    simp only [foot, List.mem_cons, List.mem_map, List.mem_append, List.not_mem_nil, or_false] at hk2 ⊢
    rcases hk2 with rfl | rfl | ⟨n, hn | rfl, rfl⟩
    ·simp
    ·simp
    ·exact .inr (.inr ⟨n, by grind, rfl⟩)
    ·exact .inr (.inr ⟨y, by simp, rfl⟩)
   simp [h.foot k this]
  ·rcases List.mem_append.1 hn with hn | hn
   ·have := h.vin n (by simp at hn ⊢; grind) g hg
    simp [this]
   ·simp only [List.mem_singleton] at hn; subst hn
    simp [Option.mem_toList] at hg ⊢
    exact .inl hg
  ·simp only [List.mem_append, Option.mem_toList] at hi
   rcases hi with hi | hi
   ·exact .inr (.inr hi)
   ·exact .inl hi
end Go.Proofs.YtgpefiacbipfpaaGreatDoor
