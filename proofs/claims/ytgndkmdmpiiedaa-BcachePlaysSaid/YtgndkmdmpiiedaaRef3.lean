/- The reference cache: Get, Put, Do. -/
import Derived.Test.YtgndkmdmpiiedaaRef2
namespace Go.Proofs.Ytgndkmdmpiiedaa.Ref
open Go.RowKit

/-- One cell of one thing is written. -/
theorem rrep_setf {w w' : World} {base r g n cap : Nat} {M : Int} {l1 l2 : List IT} {x x' : IT} (h : RRep w base r M (.slice (some ⟨g, 0, none⟩) n cap) (l1 ++ x :: l2)) {f : Nat} {u : Value} (hf : f < 4) (hx : cells x' = (cells x).set f u)
    (hw : w'.Alike (w.setCell ⟨g, l1.length * 4 + f, none⟩ u)) : RRep w' base r M (.slice (some ⟨g, 0, none⟩) n cap) (l1 ++ x' :: l2) ∧ Upd [g] w w' := by
  have u0 : Upd [g] w w' := ((Upd.refl _ _).setCell (by simp) _ _).alike hw
  have hrg : r ≠ g := fun q => h.apart (by simp [Value.ownBlock, q])
  refine ⟨⟨h.base_le, by rw [u0.block r (lt_of_blk h.blk) (by simpa using hrg)]; exact h.blk, ⟨?_, .inr ?_⟩, h.apart⟩, u0⟩
  · rw [flat_len]
  · obtain ⟨g', cap', cur, hv, hb, r1, r2, r3, hg, r4⟩ := h.row (j := 0) (by simp; try omega)
    simp only [Value.slice.injEq, Option.some.injEq, Addr.mk.injEq, and_true] at hv
    obtain ⟨rfl, rfl, rfl⟩ := hv
    have el : (l1 ++ x' :: l2).length = (l1 ++ x :: l2).length := by simp
    refine ⟨g, cap, cur.setIfInBounds (l1.length * 4 + f) u, by rw [el], hg, ?_, by rw [el]; exact r1, r2, by simpa using r3, ?_⟩
    · rw [hw.1, heap_setCell, if_pos rfl, hb]; rfl
    · rw [el, Array.toList_setIfInBounds, List.take_set, r4, flat_app, flat_app]
      rw [List.set_append_right _ _ (by rw [flat_len]; omega), flat_len, show l1.length * 4 + f - l1.length * 4 = f by omega]
      congr 1
      simp only [flat, List.flatMap_cons]
      rw [List.set_append_left _ _ (by simp [cells]; omega), hx]

def GetPost (w : World) (base r : Nat) (M : Int) (lv : Value) (l : List IT) (v : Int) (e : Ending) (w' : World) : Prop :=
  e = .returned (.tuple #[.int .i64 v, .bool true]) ∧ ∃ lv', RRep w' base r M lv' l ∧ Upd (rfoot r lv) w w' ∧ ∀ k ∈ rfoot r lv', k ∈ rfoot r lv ∨ w.heap.size ≤ k

theorem get_miss (w : World) {base r : Nat} {M : Int} {lv : Value} {l : List IT} (h : RRep w base r M lv l) (hl : l.length ≤ 1024) (k : Int) (hn : ∀ y ∈ l, y.k ≠ k) :
    Calls Try.prog 43 #[.pointer (some ⟨r, 0, none⟩), .int .i64 k] w fun e w' => e = .returned (.tuple #[.int .i64 0, .bool false]) ∧ w = w' := by
  have HN := Lib.hid hn
  clear hn
  go_enter Try.func43, Try.ntmps43
  go_wp2_with fail
  refine (find_miss w h hl k HN.out).mono ?_
  rintro e w1 ⟨rfl, rfl⟩
  go_wp2_with fail
  go_ret2
  exact ⟨rfl, rfl⟩

theorem get_hit (w : World) {base r : Nat} {M : Int} {lv : Value} {l1 l2 : List IT} {x : IT} (h : RRep w base r M lv (l1 ++ x :: l2)) (hl : (l1 ++ x :: l2).length ≤ 1024) (k : Int) (hk : x.k = k) (hn : ∀ y ∈ l1, y.k ≠ k) :
    Calls Try.prog 43 #[.pointer (some ⟨r, 0, none⟩), .int .i64 k] w (GetPost w base r M lv (l1 ++ l2 ++ [x]) x.v) := by
  obtain ⟨-, r1, fr⟩ := h.cellsR
  obtain ⟨g, cap, cur, rfl, hb, hcap, hcapm, -, -, hc⟩ := h.row (j := 0) (by simp; try omega)
  have hi : l1.length < (l1 ++ x :: l2).length := by simp
  obtain ⟨-, x1, -, -⟩ := row_cell hb hc hi
  simp at x1
  have hlt : (l1.length : Int) < ((l1 ++ x :: l2).length : Nat) := by omega
  have HN := Lib.hid hn
  have HK := Lib.hid hk
  clear hn hk hb hc
  go_enter Try.func43, Try.ntmps43
  go_wp2_with fail
  refine (find_hit w h hl k HK.out HN.out).mono ?_
  rintro e w1 ⟨rfl, rfl⟩
  go_wp2_with fail
  refine (use_ok w h hl).mono ?_
  rintro e w1 ⟨rfl, lv', hR, hU, hF⟩
  have HF := Lib.hid (And.intro hR (And.intro hU hF))
  clear hR hU hF r1 fr x1
  go_wp2_with fail
  go_ret2
  exact ⟨rfl, lv', HF.out⟩

def PutPost (w : World) (base r : Nat) (M : Int) (lv : Value) (l : List IT) (gk gv : Int) (went gd : Bool) (err : Int) (e : Ending) (w' : World) : Prop :=
  e = .returned (.tuple #[.int .i64 gk, .int .i64 gv, .bool went, .bool gd, .int .i64 err]) ∧ ∃ lv', RRep w' base r M lv' l ∧ Upd (rfoot r lv) w w' ∧ ∀ k ∈ rfoot r lv', k ∈ rfoot r lv ∨ w.heap.size ≤ k

set_option maxRecDepth 100000 in
set_option maxHeartbeats 2000000 in
theorem put_there (w : World) {base r : Nat} {M : Int} {lv : Value} {l1 l2 : List IT} {x : IT} (h : RRep w base r M lv (l1 ++ x :: l2)) (hl : (l1 ++ x :: l2).length ≤ 1024) (k : Int) (hk : x.k = k) (hn : ∀ y ∈ l1, y.k ≠ k) (v : Int) (d : Bool) :
    Calls Try.prog 44 #[.pointer (some ⟨r, 0, none⟩), .int .i64 k, .int .i64 v, .bool d] w (PutPost w base r M lv (l1 ++ l2 ++ [{ x with v := v, d := x.d || d }]) 0 0 false false 0) := by
  obtain ⟨-, r1, fr⟩ := h.cellsR
  obtain ⟨g, cap, cur, rfl, hb, hcap, hcapm, -, -, hc⟩ := h.row (j := 0) (by simp; try omega)
  have hi : l1.length < (l1 ++ x :: l2).length := by simp
  obtain ⟨-, x1, x2, -⟩ := row_cell hb hc hi
  simp at x1 x2
  have fg := frozen_blk hb
  have hlt : (l1.length : Int) < ((l1 ++ x :: l2).length : Nat) := by omega
  have hrg : r ≠ g := fun q => h.apart (by simp [Value.ownBlock, q])
  have hrg' : g ≠ r := Ne.symm hrg
  have HN := Lib.hid hn
  have HK := Lib.hid hk
  have H := Lib.hid h
  clear hn hk hb hc h
  obtain ⟨xk, xv, xd, xp⟩ := x
  simp only [] at *
  cases xd
  · skip
    go_enter Try.func44, Try.ntmps44
    go_wp2_with fail
    refine (find_hit w H.out hl k HK.out HN.out).mono ?_
    rintro e w1 ⟨rfl, rfl⟩
    go_wp2_with fail
    go_region
    go_wp2_with fail
    generalize hW : World.drew (World.setCell (World.setCell _ _ _) _ _) = w2
    have h1 := rrep_setf (w' := w.setCell ⟨g, l1.length * 4 + 1, none⟩ (.int .i64 v)) H.out (f := 1) (u := .int .i64 v) (x' := { k := xk, v := v, d := _, p := xp }) (by omega) rfl (alike_refl _)
    have h2 := rrep_setf (w' := w2) h1.1 (f := 2) (u := .bool d) (x' := { k := xk, v := v, d := d, p := xp }) (by omega) rfl (by rw [← hW]; exact alike_drew _)
    have hu := h1.2.trans h2.2
    have H2 := Lib.hid h2.1
    have HU := Lib.hid hu
    clear hW h1 h2 hu r1 x1 x2 fr fg
    refine (use_ok w2 H2.out (by simpa using hl)).mono ?_
    rintro e w3 ⟨rfl, lv', hR, hU, hF⟩
    have HF : Hid (∃ lv', RRep w3 base r M lv' (l1 ++ l2 ++ [{ k := xk, v := v, d := d, p := xp }]) ∧ Upd (rfoot r (.slice (some ⟨g, 0, none⟩) (l1 ++ ({ k := xk, v := xv, d := false, p := xp } : IT) :: l2).length cap)) w w3 ∧ ∀ k ∈ rfoot r lv', k ∈ rfoot r (.slice (some ⟨g, 0, none⟩) (l1 ++ ({ k := xk, v := xv, d := false, p := xp } : IT) :: l2).length cap) ∨ w.heap.size ≤ k) :=
      Lib.hid ⟨lv', hR, Upd.next (HU.out.mono (by simp [Value.ownBlock])) hU (fun k hk _ => hk), fun k hk => by
        rcases hF k hk with h | h
        · left; simpa [Value.ownBlock] using h
        · right; have := HU.out.size; omega⟩
    clear hR hU hF
    go_wp2_with fail
    go_returns
    exact ⟨rfl, HF.out⟩
  · skip
    go_enter Try.func44, Try.ntmps44
    go_wp2_with fail
    refine (find_hit w H.out hl k HK.out HN.out).mono ?_
    rintro e w1 ⟨rfl, rfl⟩
    go_wp2_with fail
    go_region
    go_wp2_with fail
    generalize hW : World.drew (World.setCell (World.setCell _ _ _) _ _) = w2
    have h1 := rrep_setf (w' := w.setCell ⟨g, l1.length * 4 + 1, none⟩ (.int .i64 v)) H.out (f := 1) (u := .int .i64 v) (x' := { k := xk, v := v, d := _, p := xp }) (by omega) rfl (alike_refl _)
    have h2 := rrep_setf (w' := w2) h1.1 (f := 2) (u := .bool true) (x' := { k := xk, v := v, d := true, p := xp }) (by omega) rfl (by rw [← hW]; exact alike_drew _)
    have hu := h1.2.trans h2.2
    have H2 := Lib.hid h2.1
    have HU := Lib.hid hu
    clear hW h1 h2 hu r1 x1 x2 fr fg
    refine (use_ok w2 H2.out (by simpa using hl)).mono ?_
    rintro e w3 ⟨rfl, lv', hR, hU, hF⟩
    have HF : Hid (∃ lv', RRep w3 base r M lv' (l1 ++ l2 ++ [{ k := xk, v := v, d := true, p := xp }]) ∧ Upd (rfoot r (.slice (some ⟨g, 0, none⟩) (l1 ++ ({ k := xk, v := xv, d := true, p := xp } : IT) :: l2).length cap)) w w3 ∧ ∀ k ∈ rfoot r lv', k ∈ rfoot r (.slice (some ⟨g, 0, none⟩) (l1 ++ ({ k := xk, v := xv, d := true, p := xp } : IT) :: l2).length cap) ∨ w.heap.size ≤ k) :=
      Lib.hid ⟨lv', hR, Upd.next (HU.out.mono (by simp [Value.ownBlock])) hU (fun k hk _ => hk), fun k hk => by
        rcases hF k hk with h | h
        · left; simpa [Value.ownBlock] using h
        · right; have := HU.out.size; omega⟩
    clear hR hU hF
    go_wp2_with fail
    go_returns
    exact ⟨rfl, HF.out⟩

abbrev zeroItem : Obj := .cells #[.int .i64 0, .int .i64 0, .bool false, .int .i64 0] 116

theorem RRep.alloc {w : World} {base r : Nat} {M : Int} {lv : Value} {l : List IT} (h : RRep w base r M lv l) (o : Obj) : RRep (w.alloc o) base r M lv l := h.keep ((Upd.refl [] w).alloc o) (by simp)
theorem RRep.alike {w w' : World} {base r : Nat} {M : Int} {lv : Value} {l : List IT} (h : RRep w base r M lv l) (g : w'.Alike w) : RRep w' base r M lv l := h.keep ((Upd.refl [] w).alike g) (by simp)

/-- What an append of one thing and its store come to. -/
theorem rrep_push {w w2 w3 : World} {base b2 r : Nat} {M : Int} {lv lv' : Value} {l l' : List IT} (h : RRep w base r M lv l) (u : Upd lv.ownBlock.toList w w2) (hown : w2.ownsRow b2 116 4 lv' l'.length (flat l')) (hb : base ≤ b2)
    (hge : ∀ k, lv'.ownBlock = some k → lv.ownBlock = some k ∨ w.heap.size ≤ k) (h3 : w3.Alike (w2.setCell ⟨r, 1, none⟩ lv')) :
    RRep w3 base r M lv' l' ∧ Upd (rfoot r lv) w w3 ∧ ∀ k ∈ rfoot r lv', k ∈ rfoot r lv ∨ w.heap.size ≤ k := by
  have hrlt := lt_of_blk h.blk
  have hnr : lv'.ownBlock ≠ some r := fun q => by
    rcases hge r q with h1 | h1
    · exact h.apart h1
    · omega
  have hr2 : w2.heap[r]? = some (.cells #[.int .i64 M, lv] 94 (0, 0)) := by
    rw [u.block r hrlt (by simpa using h.apart)]; exact h.blk
  have hu : Upd (rfoot r lv) w (w2.setCell ⟨r, 1, none⟩ lv') := (u.mono (fun k hk _ => List.mem_cons_of_mem _ hk)).setCell (by simp) _ _
  refine ⟨RRep.alike ⟨h.base_le, by rw [heap_setCell, if_pos rfl, hr2]; rfl, own_upd (F := [r]) (own_mono hown hb) ((Upd.refl _ _).setCell (by simp) _ _) (fun k hk q => hnr (by rw [q]; simp at hk; rw [hk])), hnr⟩ h3, hu.alike h3, fun k hk => ?_⟩
  simp only [rfoot, List.mem_cons, Option.mem_toList] at hk ⊢
  rcases hk with rfl | hk
  · left; left; rfl
  · rcases hge k hk with h1 | h1
    · left; right; exact h1
    · right; exact h1

set_option maxRecDepth 100000 in
set_option maxHeartbeats 2000000 in
theorem put_new (w : World) {base r : Nat} {M : Int} {lv : Value} {l : List IT} (h : RRep w base r M lv l) (hl : l.length ≤ 1024) (k : Int) (hn : ∀ y ∈ l, y.k ≠ k) (hM : (l.length : Int) ≠ M) (v : Int) (d : Bool) :
    Calls Try.prog 44 #[.pointer (some ⟨r, 0, none⟩), .int .i64 k, .int .i64 v, .bool d] w (PutPost w base r M lv (l ++ [{ k := k, v := v, d := d, p := 0 }]) 0 0 false false 0) := by
  have HN := Lib.hid hn
  clear hn
  go_enter Try.func44, Try.ntmps44
  go_wp2_with fail
  refine (find_miss w h hl k HN.out).mono ?_
  rintro e w1 ⟨rfl, rfl⟩
  obtain ⟨a, cap, rfl⟩ := own_slice h.own
  have hA := h.alloc zeroItem
  obtain ⟨r0, r1, fr⟩ := hA.cellsR
  have hrlt := lt_of_blk h.blk
  have hrne : r ≠ w.heap.size := by omega
  have hrne2 : r ≠ w.heap.size + 1 := by omega
  have hz : ((l.length : Int) == M) = false := by simpa using hM
  have hsz : (w.alloc zeroItem).heap.size = w.heap.size + 1 := by simp
  have hg : (w.alloc zeroItem).heap[w.heap.size]? = some zeroItem := by rw [heap_alloc, if_pos rfl]
  have H := Lib.hid h
  have HA := Lib.hid hA
  have HG := Lib.hid hg
  have hob : ∀ k, (Value.slice a l.length cap).ownBlock = some k → k < w.heap.size := fun k hk => (h.own.lt k hk).2
  have HOB := Lib.hid hob
  clear hM h hA hg hob
  go_wp2_with fail
  have hrl : r < (w.alloc zeroItem).heap.size := by omega
  have hu0 : Upd [] w (w.alloc zeroItem) := (Upd.refl _ _).alloc _
  have HU0 := Lib.hid hu0
  have HSZ := Lib.hid hsz
  clear hsz hu0 hrlt
  generalize w.alloc zeroItem = W0 at *
  go_region
  go_wp2_with (at_builtin; refine wpList_append_item rfl _ _ rfl (x := { k := k, v := v, d := d, p := 0 }) W0.heap.size rfl rfl ((HA.out.own.alloc _).drew) (by rw [heap_drew, heap_alloc, if_pos rfl]; rfl) hl ?hb ?_)
  case hb => have := HA.out.base_le; simp; omega
  intro g2 c2 w2 hown2 hgrow2 hat
  have hgw : w.heap.size < (W0.alloc (.cells #[.int .i64 k, .int .i64 v, .bool d, .int .i64 0] 116)).drew.heap.size := by have := HSZ.out; simp; omega
  have hgne : some w.heap.size ≠ (Value.slice a l.length cap).ownBlock := fun q => by have := HOB.out _ q.symm; omega
  have hg2 : w2.heap[w.heap.size]? = some zeroItem := by
    have := HSZ.out
    rw [hgrow2.block _ hgw hgne, heap_drew, heap_alloc, if_neg (by omega)]; exact HG.out
  have hu2 : Upd (Value.slice a l.length cap).ownBlock.toList W0 w2 := by
    have e1 : Upd [] W0 (W0.alloc (.cells #[.int .i64 k, .int .i64 v, .bool d, .int .i64 0] 116)).drew := ((Upd.refl _ _).alloc _).drew
    exact (e1.mono (by simp)).trans (upd_of_grown hgrow2)
  have hR2 := HA.out.blk
  have r2 : w2.heap[r]? = some (.cells #[.int .i64 M, .slice a l.length cap] 94 (0, 0)) := by
    rw [hu2.block r (by omega) (by simpa using HA.out.apart)]; exact hR2
  have c1 : w2.cell? ⟨r, 1, none⟩ = some (.slice a l.length cap) := cell_blk r2 1
  have f2 := frozen_blk r2
  have z0 : w2.cell? ⟨w.heap.size, 0, none⟩ = some (.int .i64 0) := cell_blk hg2 0
  have z1 : w2.cell? ⟨w.heap.size, 1, none⟩ = some (.int .i64 0) := cell_blk hg2 1
  have z2 : w2.cell? ⟨w.heap.size, 2, none⟩ = some (.bool false) := cell_blk hg2 2
  have hge : ∀ q, (Value.slice (some ⟨g2, 0, none⟩) (l.length + 1) c2).ownBlock = some q → (Value.slice a l.length cap).ownBlock = some q ∨ W0.heap.size ≤ q := by
    intro q hq
    simp only [Value.ownBlock, Option.some.injEq] at hq
    subst hq
    rcases hat with h | h
    · exact .inl h
    · right; omega
  have HP : Hid (∀ w3 : World, w3.Alike (w2.setCell ⟨r, 1, none⟩ (.slice (some ⟨g2, 0, none⟩) (l.length + 1) c2)) → _) := Lib.hid fun w3 h3 => rrep_push (l' := l ++ [{ k := k, v := v, d := d, p := 0 }]) HA.out hu2 (by simpa using hown2) (Nat.le_refl _) hge h3
  clear hown2 hgrow2 hgw hgne hg2 hu2 hR2 r2 hge r0 r1 fr hz
  have hrne' := Ne.symm hrne
  go_upto_region 19 with (fail)
  go_region
  go_wp2_with fail
  go_returns
  obtain ⟨hR, hU, hF⟩ := HP.out _ (alike_drew _)
  exact ⟨rfl, _, hR, Upd.next (HU0.out.mono (by simp)) hU (fun q hq _ => hq), fun q hq => by
    rcases hF q hq with h | h
    · exact .inl h
    · right; have := HSZ.out; omega⟩
end Go.Proofs.Ytgndkmdmpiiedaa.Ref
