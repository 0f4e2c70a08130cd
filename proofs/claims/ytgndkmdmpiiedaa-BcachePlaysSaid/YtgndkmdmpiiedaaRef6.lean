/- The reference cache: Do (Pin, Unpin, Clean, Drop). -/
import Derived.Test.YtgndkmdmpiiedaaRef5
namespace Go.Proofs.Ytgndkmdmpiiedaa.Ref
open Go.RowKit

def DoPost (w : World) (base r : Nat) (M : Int) (lv : Value) (l : List IT) (err : Int) (e : Ending) (w' : World) : Prop :=
  e = .returned (.int .i64 err) ∧ ∃ lv', RRep w' base r M lv' l ∧ Upd (rfoot r lv) w w' ∧ ∀ k ∈ rfoot r lv', k ∈ rfoot r lv ∨ w.heap.size ≤ k

theorem do_miss (w : World) {base r : Nat} {M : Int} {lv : Value} {l : List IT} (h : RRep w base r M lv l) (hl : l.length ≤ 1024) (what k : Int) (hn : ∀ y ∈ l, y.k ≠ k) :
    Calls Try.prog 45 #[.pointer (some ⟨r, 0, none⟩), .int .i64 what, .int .i64 k] w (DoPost w base r M lv l 71) := by
  have HN := Lib.hid hn
  clear hn
  go_enter Try.func45, Try.ntmps45
  go_wp2_with fail
  refine (find_miss w h hl k HN.out).mono ?_
  rintro e w1 ⟨rfl, rfl⟩
  go_wp2_with fail
  go_ret
  exact ⟨rfl, _, h, Upd.refl _ _, fun k hk => .inl hk⟩

/-- What each way of Do asks of memory. -/
theorem do_cells {w : World} {base r : Nat} {M : Int} {lv : Value} {l1 l2 : List IT} {x : IT} (h : RRep w base r M lv (l1 ++ x :: l2)) :
    ∃ g cap, lv = .slice (some ⟨g, 0, none⟩) (l1 ++ x :: l2).length cap ∧ w.cell? ⟨r, 1, none⟩ = some (.slice (some ⟨g, 0, none⟩) (l1 ++ x :: l2).length cap) ∧ w.cell? ⟨g, l1.length * 4 + 2, none⟩ = some (.bool x.d) ∧
      w.cell? ⟨g, l1.length * 4 + 3, none⟩ = some (.int .i64 x.p) ∧ (∀ o, w.frozen? ⟨g, o, none⟩ = false) ∧ (∀ o, w.frozen? ⟨r, o, none⟩ = false) := by
  obtain ⟨-, r1, fr⟩ := h.cellsR
  obtain ⟨g, cap, cur, rfl, hb, hcap, hcapm, -, -, hc⟩ := h.row (j := 0) (by simp; try omega)
  have hi : l1.length < (l1 ++ x :: l2).length := by simp
  obtain ⟨-, -, x2, x3⟩ := row_cell hb hc hi
  simp at x2 x3
  exact ⟨g, cap, rfl, r1, x2, x3, frozen_blk hb, fr⟩

theorem do_close {w w' : World} {base r : Nat} {M : Int} {g n cap : Nat} {l : List IT} {err : Int} (h : RRep w' base r M (.slice (some ⟨g, 0, none⟩) n cap) l) (u : Upd [g] w w') :
    DoPost w base r M (.slice (some ⟨g, 0, none⟩) n cap) l err (.returned (.int .i64 err)) w' :=
  ⟨rfl, _, h, u.mono (by simp [Value.ownBlock]), fun _ hk => .inl hk⟩

set_option maxRecDepth 100000 in
theorem do_pin (w : World) {base r : Nat} {M : Int} {lv : Value} {l1 l2 : List IT} {x : IT} (h : RRep w base r M lv (l1 ++ x :: l2)) (hl : (l1 ++ x :: l2).length ≤ 1024) (k : Int) (hk : x.k = k) (hn : ∀ y ∈ l1, y.k ≠ k) (hp : x.p ≤ 1000000) :
    Calls Try.prog 45 #[.pointer (some ⟨r, 0, none⟩), .int .i64 1, .int .i64 k] w (DoPost w base r M lv (l1 ++ { x with p := x.p + 1 } :: l2) 0) := by
  have HN := Lib.hid hn
  have HK := Lib.hid hk
  clear hn hk
  obtain ⟨g, cap, rfl, r1, x2, x3, fg, fr⟩ := do_cells h
  have hlt : (l1.length : Int) < ((l1 ++ x :: l2).length : Nat) := by simp; omega
  have H := Lib.hid h
  go_enter Try.func45, Try.ntmps45
  go_wp2_with fail
  refine (find_hit w h hl k HK.out HN.out).mono ?_
  rintro e w1 ⟨rfl, rfl⟩
  generalize (l1 ++ x :: l2).length = n at *
  clear h
  go_wp2_with fail
  go_ret
  obtain ⟨hR, hU⟩ := rrep_setf (w' := w.setCell ⟨g, l1.length * 4 + 3, none⟩ (.int .i64 (x.p + 1))) H.out (f := 3) (u := .int .i64 (x.p + 1)) (x' := { x with p := x.p + 1 }) (by omega) rfl (alike_refl _)
  exact do_close hR hU

set_option maxRecDepth 100000 in
theorem do_unpin (w : World) {base r : Nat} {M : Int} {lv : Value} {l1 l2 : List IT} {x : IT} (h : RRep w base r M lv (l1 ++ x :: l2)) (hl : (l1 ++ x :: l2).length ≤ 1024) (k : Int) (hk : x.k = k) (hn : ∀ y ∈ l1, y.k ≠ k) (hp : x.p ≤ 1000000) (hp0 : 0 < x.p) :
    Calls Try.prog 45 #[.pointer (some ⟨r, 0, none⟩), .int .i64 2, .int .i64 k] w (DoPost w base r M lv (l1 ++ { x with p := x.p - 1 } :: l2) 0) := by
  have HN := Lib.hid hn
  have HK := Lib.hid hk
  clear hn hk
  obtain ⟨g, cap, rfl, r1, x2, x3, fg, fr⟩ := do_cells h
  have hlt : (l1.length : Int) < ((l1 ++ x :: l2).length : Nat) := by simp; omega
  have H := Lib.hid h
  have hz : ((x.p : Int) == 0) = false := by simp; omega
  go_enter Try.func45, Try.ntmps45
  go_wp2_with fail
  refine (find_hit w h hl k HK.out HN.out).mono ?_
  rintro e w1 ⟨rfl, rfl⟩
  generalize (l1 ++ x :: l2).length = n at *
  clear h
  go_wp2_with fail
  go_ret
  have e : ((x.p - 1 : Nat) : Int) = (x.p : Int) - 1 := by omega
  obtain ⟨hR, hU⟩ := rrep_setf (w' := w.setCell ⟨g, l1.length * 4 + 3, none⟩ (.int .i64 ((x.p : Int) - 1))) H.out (f := 3) (u := .int .i64 ((x.p : Int) - 1)) (x' := { x with p := x.p - 1 }) (by omega) (by simp [cells, e]) (alike_refl _)
  exact do_close hR hU

set_option maxRecDepth 100000 in
theorem do_unpin0 (w : World) {base r : Nat} {M : Int} {lv : Value} {l1 l2 : List IT} {x : IT} (h : RRep w base r M lv (l1 ++ x :: l2)) (hl : (l1 ++ x :: l2).length ≤ 1024) (k : Int) (hk : x.k = k) (hn : ∀ y ∈ l1, y.k ≠ k) (hp0 : x.p = 0) :
    Calls Try.prog 45 #[.pointer (some ⟨r, 0, none⟩), .int .i64 2, .int .i64 k] w (DoPost w base r M lv (l1 ++ x :: l2) 72) := by
  have HN := Lib.hid hn
  have HK := Lib.hid hk
  clear hn hk
  obtain ⟨g, cap, rfl, r1, x2, x3, fg, fr⟩ := do_cells h
  have hlt : (l1.length : Int) < ((l1 ++ x :: l2).length : Nat) := by simp; omega
  have H := Lib.hid h
  have hz : ((x.p : Int) == 0) = true := by simp; omega
  clear hp0
  go_enter Try.func45, Try.ntmps45
  go_wp2_with fail
  refine (find_hit w h hl k HK.out HN.out).mono ?_
  rintro e w1 ⟨rfl, rfl⟩
  generalize (l1 ++ x :: l2).length = n at *
  clear h
  go_wp2_with fail
  go_ret
  exact do_close H.out (Upd.refl _ _)

set_option maxRecDepth 100000 in
theorem do_clean (w : World) {base r : Nat} {M : Int} {lv : Value} {l1 l2 : List IT} {x : IT} (h : RRep w base r M lv (l1 ++ x :: l2)) (hl : (l1 ++ x :: l2).length ≤ 1024) (k : Int) (hk : x.k = k) (hn : ∀ y ∈ l1, y.k ≠ k) :
    Calls Try.prog 45 #[.pointer (some ⟨r, 0, none⟩), .int .i64 3, .int .i64 k] w (DoPost w base r M lv (l1 ++ { x with d := false } :: l2) 0) := by
  have HN := Lib.hid hn
  have HK := Lib.hid hk
  clear hn hk
  obtain ⟨g, cap, rfl, r1, x2, x3, fg, fr⟩ := do_cells h
  have hlt : (l1.length : Int) < ((l1 ++ x :: l2).length : Nat) := by simp; omega
  have H := Lib.hid h
  go_enter Try.func45, Try.ntmps45
  go_wp2_with fail
  refine (find_hit w h hl k HK.out HN.out).mono ?_
  rintro e w1 ⟨rfl, rfl⟩
  generalize (l1 ++ x :: l2).length = n at *
  clear h
  go_wp2_with fail
  go_ret
  obtain ⟨hR, hU⟩ := rrep_setf (w' := w.setCell ⟨g, l1.length * 4 + 2, none⟩ (.bool false)) H.out (f := 2) (u := .bool false) (x' := { x with d := false }) (by omega) rfl (alike_refl _)
  exact do_close hR hU

set_option maxRecDepth 100000 in
theorem do_drop1 (w : World) {base r : Nat} {M : Int} {lv : Value} {l1 l2 : List IT} {x : IT} (h : RRep w base r M lv (l1 ++ x :: l2)) (hl : (l1 ++ x :: l2).length ≤ 1024) (k : Int) (hk : x.k = k) (hn : ∀ y ∈ l1, y.k ≠ k) (hp0 : 0 < x.p) :
    Calls Try.prog 45 #[.pointer (some ⟨r, 0, none⟩), .int .i64 4, .int .i64 k] w (DoPost w base r M lv (l1 ++ x :: l2) 72) := by
  have HN := Lib.hid hn
  have HK := Lib.hid hk
  clear hn hk
  obtain ⟨g, cap, rfl, r1, x2, x3, fg, fr⟩ := do_cells h
  have hlt : (l1.length : Int) < ((l1 ++ x :: l2).length : Nat) := by simp; omega
  have H := Lib.hid h
  have hz : decide (0 < (x.p : Int)) = true := by simpa using hp0
  go_enter Try.func45, Try.ntmps45
  go_wp2_with fail
  refine (find_hit w h hl k HK.out HN.out).mono ?_
  rintro e w1 ⟨rfl, rfl⟩
  generalize (l1 ++ x :: l2).length = n at *
  clear h
  go_wp2_with fail
  go_ret
  exact do_close H.out (Upd.refl _ _)

set_option maxRecDepth 100000 in
theorem do_drop (w : World) {base r : Nat} {M : Int} {lv : Value} {l1 l2 : List IT} {x : IT} (h : RRep w base r M lv (l1 ++ x :: l2)) (hl : (l1 ++ x :: l2).length ≤ 1024) (k : Int) (hk : x.k = k) (hn : ∀ y ∈ l1, y.k ≠ k) (hp0 : x.p = 0) :
    Calls Try.prog 45 #[.pointer (some ⟨r, 0, none⟩), .int .i64 4, .int .i64 k] w (DoPost w base r M lv (l1 ++ l2) 0) := by
  have HN := Lib.hid hn
  have HK := Lib.hid hk
  clear hn hk
  obtain ⟨g, cap, rfl, r1, x2, x3, fg, fr⟩ := do_cells h
  have hlt : (l1.length : Int) < ((l1 ++ x :: l2).length : Nat) := by simp; omega
  have H := Lib.hid h
  rw [hp0] at x3
  simp only [cast0] at x3
  clear hp0
  have hbase := h.base_le
  have hrlt := lt_of_blk h.blk
  go_enter Try.func45, Try.ntmps45
  go_wp2_with fail
  refine (find_hit w h hl k HK.out HN.out).mono ?_
  rintro e w1 ⟨rfl, rfl⟩
  generalize hnn : (l1 ++ x :: l2).length = n at *
  have HNN := Lib.hid hnn
  clear h hnn
  go_wp2_with fail
  refine (without_ok w H.out (by rw [HNN.out]; exact hl)).mono ?_
  rintro e w3 ⟨v1, rfl, hown1, hU3⟩
  obtain ⟨a1, c1, rfl⟩ := own_slice hown1
  have hR3 := H.out.keep hU3 (by simp)
  obtain ⟨-, r3, fr3⟩ := hR3.cellsR
  have hge : ∀ q, (Value.slice a1 (l1 ++ l2).length c1).ownBlock = some q → w.heap.size ≤ q := fun q hq => (hown1.lt q hq).1
  have HR4 := Lib.hid (rrep_store hR3 hown1 (by omega) (fun q => by have := hge r q; omega))
  have HU : Hid (Upd (rfoot r (.slice (some ⟨g, 0, none⟩) n cap)) w (w3.setCell ⟨r, 1, none⟩ (.slice a1 (l1 ++ l2).length c1))) := Lib.hid ((hU3.mono (by simp)).setCell (by simp) _ _)
  have HGE := Lib.hid hge
  clear hown1 hU3 hR3 hge r1 x2 x3 fg fr
  generalize (l1 ++ l2).length = n2 at *
  go_wp2_with fail
  go_ret
  refine ⟨rfl, _, HR4.out, HU.out, fun q hq => ?_⟩
  simp only [rfoot, List.mem_cons, Option.mem_toList] at hq ⊢
  rcases hq with hq | hq
  · exact .inl (.inl hq)
  · exact .inr (HGE.out q hq)
end Go.Proofs.Ytgndkmdmpiiedaa.Ref
