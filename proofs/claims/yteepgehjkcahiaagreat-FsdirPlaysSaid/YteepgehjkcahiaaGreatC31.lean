/- Reset. Sync. Appending, in plain words and in memory: the free blocks that it takes, the node that grows. -/
import Derived.Test.YteepgehjkcahiaaGreatC30
namespace Go.Proofs.YteepgehjkcahiaaGreat
open Go.RowKit Go.Maps
theorem upd_fp {w w' : World} {v : Nat} {X : Fsd} {G : List Nat} (u : Upd G w w') (hG : ∀ i ∈ G, i ∈ X.fp v) : Upd (X.fp v) w w' := u.mono fun k hk _ => hG k hk
set_option maxRecDepth 100000 in
set_option maxHeartbeats 4000000 in
theorem freset_ok (w : World) {v p : Nat} {D : Dev} {room k s : Nat} {fs last : Files} {X : Fsd} (h : FsAt w v p D room k s fs last X) :
  Calls Tryz.prog 32 #[.pointer (some ⟨v, 0, none⟩)] w fun r w' => r = .returned (.tuple #[]) ∧ FsNext w v p room X D k s last last w' := by
 have c3 := cell_blk h.box 3
 have c4 := cell_blk h.box 4
 have f3 := frozen_blk h.box 3
 have f4 := frozen_blk h.box 4
 simp only [List.getElem?_toArray, List.getElem?_cons_zero, List.getElem?_cons_succ] at c3 c4
 have hvl := lt_of_blk h.box
 obtain ⟨o1, o2, o3, o4, o5, o6, o7, o8, o9, o10, o11, o12, o13, o14, o15⟩ := h.off
 have hu0 : Upd [v] w ((w.setCell ⟨v, 3, none⟩ (.map (some X.ml))).setCell ⟨v, 4, none⟩ (.map none)) := ((Upd.refl [v] w).setCell (by simp) _ _).setCell (by simp) _ _
 have hb0 : ((w.setCell ⟨v, 3, none⟩ (.map (some X.ml))).setCell ⟨v, 4, none⟩ (.map none)).heap[v]? = some (boxG X.j X.c X.q X.ml (.map none) X.va false) := by
  rw [heap_setCell, if_pos rfl, heap_setCell, if_pos rfl, h.box]; rfl
 have hl0 := h.las.upd hu0 fun i hi q => o5 (by rw [List.mem_singleton.1 q] at hi; exact hi)
 have HK := Lib.hid (keep_ok _ hb0 hl0 h.inv.was o5)
 have H := Lib.hid h
 have HU0 := Lib.hid hu0
 clear h hu0 hb0 hl0
 go_enter Tryz.func32, Tryz.ntmps32
 go_wp2_with fail
 refine HK.out.mono ?_
 rintro r w1 ⟨rfl, mn, A2, R2, FL2, hb1, hf1, hu1, hn1⟩
 have c2 := cell_blk hb1 2
 simp only [List.getElem?_toArray, List.getElem?_cons_zero, List.getElem?_cons_succ] at c2
 have huv : Upd [v] w w1 := HU0.out.trans hu1
 have hne : ∀ {i x : Nat}, X.T i = x → x ≠ 1 → i ≠ v := fun h1 h2 => tag_ne h1 H.out.sep.v h2
 have hmap : MapR w1 X.base X.q X.nv X.lv (marks room fs) (marks room last) := H.out.map.upd huv (by simp; exact fun e => o6 e.symm) (fun i hi e => by rw [List.mem_singleton.1 hi] at e; exact hne (H.out.sep.nv _ e) (by decide) rfl) (fun i hi e => by rw [List.mem_singleton.1 hi] at e; exact hne (H.out.sep.lv _ e) (by decide) rfl)
 have HR := Lib.hid (areset_ok w1 hmap (by rw [marks_len]; have := H.out.inv.few; omega))
 have H1 := Lib.hid (And.intro hb1 (And.intro hf1 (And.intro huv (And.intro hn1 hmap))))
 have hn1' : ∀ i ∈ FL2, w.heap.size ≤ i := fun i hi => by have := hn1 i hi; simp at this; exact this
 clear hb1 hf1 hu1 hn1 huv hmap HK c3 c4 f3 f4 hne
 go_wp2_with fail
 refine HR.out.mono ?_
 rintro r w2 ⟨rfl, nv2, hm2, hu2, hn2⟩
 go_wp2_with fail
 go_end0
 obtain ⟨hb1, hf1, huv, -, -⟩ := H1.out
 have h := H.out
 have hs1 := huv.size
 have hq : ∀ {i x : Nat}, X.T i = x → x ≠ 7 → i ≠ X.q := fun h1 h2 => tag_ne h1 h.sep.q h2
 have hv : ∀ {i x : Nat}, X.T i = x → x ≠ 1 → i ≠ v := fun h1 h2 => tag_ne h1 h.sep.v h2
 have hqs := lt_of_blk h.map.box
 have huq : Upd [v, X.q] w w2 := (huv.mono (by simp)).trans (hu2.mono (by simp))
 have hoff : ∀ {i x : Nat}, X.T i = x → x ≠ 1 → x ≠ 7 → i ∉ [v, X.q] := fun h1 h2 h3 hi => by
  simp only [List.mem_cons, List.not_mem_nil, or_false] at hi
  rcases hi with hi | hi
  ·exact hv h1 h2 hi
  ·exact hq h1 h3 hi
 have hlt2 := hf1.lt
 refine ⟨rfl, { X with mf := X.ml, ml := mn, FM := X.FL, FL := FL2, A := X.A', A' := A2, R := X.R', R' := R2, nv := nv2, T := fun i => if w.heap.size ≤ i then (if i ∈ FL2 then 6 else 8) else if i ∈ X.FL then 5 else X.T i }, ⟨?_, ?_, ?_, ?_, hm2, ?_, h.up, h.inv.reset, h.see, ?_⟩, upd_fp huq ?_, ?_⟩
 ·exact (hu2.block v (lt_of_blk hb1) (by simp; exact o6)).trans hb1
 ·exact h.log.upd huq (hoff h.sep.j (by decide) (by decide)) (fun i hi => hoff (h.sep.F i hi) (by decide) (by decide)) (fun i hi => hoff (h.sep.FC i hi) (by decide) (by decide))
 ·exact h.las.upd huq fun i hi => hoff (h.sep.FL i hi) (by decide) (by decide)
 ·exact hf1.upd hu2 fun i hi q => by have := hn1' i hi; have := List.mem_singleton.1 q; omega
 ·exact h.dir.upd huq fun i hi e => hoff (h.sep.va i e) (by decide) (by decide) hi
 ·have old : ∀ {i x : Nat}, i < w.heap.size → X.T i = x → x ≠ 6 → (if w.heap.size ≤ i then (if i ∈ FL2 then 6 else 8) else if i ∈ X.FL then 5 else X.T i) = x := fun h1 h2 h3 => by
   rw [if_neg (by omega), if_neg (fun q => h3 (by rw [← h2, h.sep.FL _ q])), h2]
  have lt := h.lt
  exact {
   v := old hvl h.sep.v (by decide)
   j := old (lt _ (mem_fp.2 (by simp))) h.sep.j (by decide)
   F := fun i hi => old (lt _ (mem_fp.2 (by simp [hi]))) (h.sep.F i hi) (by decide)
   FC := fun i hi => old (lt _ (mem_fp.2 (by simp [hi]))) (h.sep.FC i hi) (by decide)
   FM := fun i hi => by show (if _ then _ else _) = _; rw [if_neg (by have := h.las.lt i hi; omega), if_pos hi]
   FL := fun i hi => by show (if _ then _ else _) = _; rw [if_pos (hn1' i hi), if_pos hi]
   q := old (lt _ (mem_fp.2 (by simp))) h.sep.q (by decide)
   nv := fun g hg => by show (if _ then _ else _) = _; have h1 := hn2 g hg; rw [if_pos (by omega), if_neg (fun q => by have := hlt2 g q; omega)]
   lv := fun g hg => old (lt _ (mem_fp.2 (by simp [hg]))) (h.sep.lv g hg) (by decide)
   va := fun g hg => old (lt _ (mem_fp.2 (by simp [hg]))) (h.sep.va g hg) (by decide) }
 ·intro i hi
  simp only [List.mem_cons, List.not_mem_nil, or_false] at hi
  rcases hi with rfl | rfl <;> exact mem_fp.2 (by simp)
 ·intro i hi
  rcases mem_fp.1 hi with q | q | q | q | q | q | q | q | q | q
  ·exact .inl (mem_fp.2 (by simp [q]))
  ·exact .inl (mem_fp.2 (by simp at q; simp [q]))
  ·exact .inl (mem_fp.2 (by simp at q; simp [q]))
  ·exact .inl (mem_fp.2 (by simp at q; simp [q]))
  ·exact .inl (mem_fp.2 (by simp at q; simp [q]))
  ·exact .inl (mem_fp.2 (by simp at q; simp [q]))
  ·exact .inr (hn1' i q)
  ·exact .inr (by have := hn2 i q; omega)
  ·exact .inl (mem_fp.2 (by simp at q; simp [q]))
  ·exact .inl (mem_fp.2 (by simp at q; simp [q]))
end Go.Proofs.YteepgehjkcahiaaGreat

namespace Go.Proofs.YteepgehjkcahiaaGreat
open Go.RowKit Go.Maps
theorem commitT_len {k s : Nat} {w : List Wr} (h : WOk w) : (commitT k s w).length ≤ 64 := by
 have := h.many
 unfold commitT partsT homeT tailT
 simp
 omega
theorem sync_see {l : Nat → Cell} {room k s : Nat} {fs last : Files} (h : FsInv l room k s fs last) (hk : k < 2 ^ 61) (b : Nat) : (exec (syncT k s fs last) l (36 + b)).view = (l (36 + b)).view := by
 have ho := over_writesF (a := dirB last) (h.now.dir_len (by have := h.few; omega))
 obtain ⟨-, -, h3⟩ := h.quiet.commit ho (by omega : k < 2 ^ 62)
 unfold syncT
 rw [h3 _ (by omega)]; rfl
def FsDown (w : World) (v p : Nat) (X : Fsd) (D : Dev) (w' : World) : Prop := ∃ F, Fell w' v p D F ∧ Upd (X.fp v) w w' ∧ ∀ i ∈ F, i ∈ X.fp v ∨ w.heap.size ≤ i
def FSyncPost (w : World) (v p : Nat) (D : Dev) (room k s : Nat) (fs last : Files) (X : Fsd) (r : Ending) (w' : World) : Prop :=
 ∃ (e : Nat) (D' : Dev), r = .returned (.int .i64 e) ∧ Ran D e D' 64 ∧ (e = 0 → FsNext w v p room X D' (k + 1) (1 - s) fs fs w') ∧
  (e ≠ 0 → FsDown w v p X D' w' ∧ ∀ l', CrashOf D'.blk l' → ∃ k', k' ≤ k + 1 ∧ (Rest l' room k' last ∨ Rest l' room k' fs))
set_option maxRecDepth 100000 in
set_option maxHeartbeats 4000000 in
theorem fsync_ok (w : World) {v p : Nat} {D : Dev} {room k s : Nat} {fs last : Files} {X : Fsd} (h : FsAt w v p D room k s fs last X) (hk : k < 2 ^ 61) (hwr : D.wr ≤ 137438950000) :
  Calls Tryz.prog 18 #[.pointer (some ⟨v, 0, none⟩)] w (FSyncPost w v p D room k s fs last X) := by
 have hvl := lt_of_blk h.box
 obtain ⟨o1, o2, o3, o4, o5, o6, o7, o8, o9, o10, o11, o12, o13, o14, o15⟩ := h.off
 have hfew := h.inv.few
 have hU := fuse_ok' w h.box h.log.log h.log.dev (by omega) o1
 rw [h.up] at hU
 have HU := Lib.hid hU
 have H := Lib.hid h
 clear h hU
 go_enter Tryz.func18, Tryz.ntmps18
 go_wp2_with fail
 refine HU.out.mono ?_
 rintro r w1 ⟨rfl, hb1, hl1, hu1⟩
 simp only [Bool.false_or, Bool.false_eq_true, if_false] at hb1 hl1 ⊢
 have hv1 : ∀ {i x : Nat}, X.T i = x → x ≠ 1 → x ≠ 2 → i ∉ [v, X.j] := fun h1 h2 h3 hi => by
  simp only [List.mem_cons, List.not_mem_nil, or_false] at hi
  rcases hi with hi | hi
  ·exact tag_ne h1 H.out.sep.v h2 hi
  ·exact tag_ne h1 H.out.sep.j h3 hi
 have hlog1 : LogA w1 X.j p (room + 16) k X.c X.m false D X.F X.l X.V X.FC :=
  ⟨hl1, H.out.log.dev.upd hu1 fun i hi => hv1 (H.out.sep.F i hi) (by decide) (by decide), H.out.log.ca.upd hu1 fun i hi => hv1 (H.out.sep.FC i hi) (by decide) (by decide), H.out.log.jF, H.out.log.jC, H.out.log.ap, H.out.log.nD, fun i hi => Nat.lt_of_lt_of_le (H.out.log.lt i hi) hu1.size⟩
 have h1 : FsAt w1 v p D room k s fs last X :=
  ⟨hb1, hlog1, H.out.fil.upd hu1 fun i hi => hv1 (H.out.sep.FM i hi) (by decide) (by decide), H.out.las.upd hu1 fun i hi => hv1 (H.out.sep.FL i hi) (by decide) (by decide),
   H.out.map.upd hu1 (hv1 H.out.sep.q (by decide) (by decide)) (fun i hi e => hv1 (H.out.sep.nv _ e) (by decide) (by decide) hi) (fun i hi e => hv1 (H.out.sep.lv _ e) (by decide) (by decide) hi), H.out.dir.upd hu1 (fun i hi e => hv1 (H.out.sep.va _ e) (by decide) (by decide) hi), H.out.up, H.out.inv, H.out.see, H.out.sep⟩
 have hLd := laid_ok w1 h1.fil h1.inv.now (by omega)
 have c3 := cell_blk hb1 3
 simp only [List.getElem?_toArray, List.getElem?_cons_zero, List.getElem?_cons_succ] at c3
 have HLd := Lib.hid hLd
 have H1 := Lib.hid h1
 have HU1 := Lib.hid hu1
 clear hb1 hl1 hu1 hlog1 h1 hLd hv1 HU
 go_wp2_with fail
 refine HLd.out.mono ?_
 rintro r w2 ⟨vd, rfl, hod, hu2⟩
 have h2 : FsAt w2 v p D room k s fs last X := H1.out.keep hu2 (by simp)
 have hfpl : ∀ i ∈ X.fp v, i < w1.heap.size := H1.out.lt
 have hd8 := H.out.inv.now.dir_len (by omega)
 have hl8 := H.out.inv.was.dir_len (by omega)
 have hover := over_writesF (a := dirB last) hd8
 have hWR := fun (Y : World) (u : Upd [] w2 Y) => fwrites_ok Y ((Ow.rd h2.dir).keep u) ((Ow.rd hod).keep u) hl8 hd8 (X.j :: X.F) (fun g hg => ⟨fun q => by
   have h1 := (hod.block g hg).1
   have h2 := hfpl g (mem_fp.2 (by rcases List.mem_cons.1 q with q | q <;> simp [q]))
   omega, by have := (hod.block g hg).2; have := u.size; omega⟩) (fun i hi => by
   have h2 := hfpl i (mem_fp.2 (by rcases List.mem_cons.1 hi with q | q <;> simp [q]))
   have := u.size; have := hu2.size
   omega)
 have hCM := fun (Y : World) (u : Upd [] w2 Y) (vw : Value) (hw : WrsAt Y (X.j :: X.F) vw (writesF (dirB last) (dirB fs))) => commit_ok Y (h2.log.dev.upd u (by simp)) h2.up hwr (h2.log.log.upd u (by simp)) h2.log.jF h2.log.nD hk h2.inv.quiet.slots hw hover.wok (fun x hx => by have := hover.low x hx; omega)
 obtain ⟨da, dc, dm, hdm, hvd⟩ := hod.sliceM
 obtain ⟨la, lc, lm, hlm, hva⟩ := h2.dir.sliceM
 have d0 := cell_blk h2.box 0
 have d5 := cell_blk h2.box 5
 have f5 := frozen_blk h2.box 5
 simp only [List.getElem?_toArray, List.getElem?_cons_zero, List.getElem?_cons_succ] at d0 d5
 rw [hva] at d5
 subst hvd
 have HWR := Lib.hid hWR
 rw [hva] at HWR
 have HCM := Lib.hid hCM
 have H2 := Lib.hid (And.intro hod (And.intro hu2 (And.intro h2 hover)))
 have hvl2 := lt_of_blk h2.box
 clear hod hu2 h2 hover hWR hCM hdm hlm HLd c3
 go_wp2_with fail
 go_region_held3 (fun Y => Y.cell? ⟨v, 0, none⟩ = some (.pointer (some ⟨X.j, 0, none⟩)) ∧ Y.cell? ⟨v, 5, none⟩ = some (.slice la lm lc))
  (first
   | (with_reducible exact held2 (Upd.refl [] w2).drew ⟨d0, d5⟩)
   | (with_reducible exact held2 hv6 ⟨d0, d5⟩)
   | (have hb7 := hu7.block v (by have := hv6.size; omega) (by simp; exact ⟨o1, o2⟩); exact ⟨(World.cell?_of_block hb7).trans (held1 hv6 d0), (World.cell?_of_block hb7).trans (held1 hv6 d5)⟩))
  (first
   | (go_at_call 56; (with_reducible refine (HWR.out _ ?_).mono ?_); (exact (Upd.refl [] w2).drew); rintro e w6 ⟨vw, rfl, hw6, hu6⟩; have hv6 : Upd [] w2 w6 := (Upd.refl [] w2).drew.trans hu6; have HW6 := Lib.hid hw6)
   | (go_at_call 55; (with_reducible refine (HCM.out _ hv6 _ HW6.out).mono ?_); rintro r w7 ⟨e, D7, F7, rfl, hE7, hD7, hL7, hu7, hF7⟩))
 have hs6 := hv6.size
 have hb7 : w7.heap[v]? = some (boxF X.j X.c X.q X.mf X.ml X.va false) := (hu7.block v (by omega) (by simp; exact ⟨o1, o2⟩)).trans (heap_keepU hv6 H2.out.2.2.1.box)
 have hEr := hE7.err
 have hRan := hE7.ran (commitT_len (k := k + 1) (s := s) H2.out.2.2.2.wok)
 have hu17 : Upd (X.fp v) w w7 := by
  refine upd_fp ((((HU1.out.mono (G := v :: X.j :: X.F) ?_).trans (H2.out.2.1.mono (by simp))).trans (hv6.mono (by simp))).trans (hu7.mono ?_)) ?_
  ·intro i hi _; simp at hi ⊢; rcases hi with q | q <;> simp [q]
  ·intro i hi _; simp at hi ⊢; rcases hi with q | q <;> simp [q]
  ·intro i hi
   simp only [List.mem_cons] at hi
   rcases hi with q | q | q <;> exact mem_fp.2 (by simp [q])
 have hF7' : ∀ i ∈ F7, i ∈ X.F ∨ w6.heap.size ≤ i := hF7
 have hs0 : w.heap.size ≤ w6.heap.size := by have := HU1.out.size; have := H2.out.2.1.size; omega
 have H7 := Lib.hid (And.intro hE7 (And.intro hD7 (And.intro hu7 (And.intro hF7 (And.intro hb7 (And.intro hu17 hRan))))))
 have HL7 := Lib.hid hL7
 clear hE7 hD7 hL7 hu7 hF7 hu17 hRan hF7'
 rcases hEr with rfl | rfl
 ·have f7 := frozen_blk hb7 5
  have e5 := cell_blk hb7 5
  have e2 := cell_blk hb7 2
  simp only [List.getElem?_toArray, List.getElem?_cons_zero, List.getElem?_cons_succ] at e5 e2
  have hu8 : Upd [v] w7 (w7.setCell ⟨v, 5, none⟩ (.slice da dm dc)) := (Upd.refl [v] w7).setCell (by simp) _ _
  have hb8 : (w7.setCell ⟨v, 5, none⟩ (.slice da dm dc)).heap[v]? = some (boxF X.j X.c X.q X.mf X.ml (.slice da dm dc) false) := by
   rw [heap_setCell, if_pos rfl, hb7]; rfl
  have hmap6 := H2.out.2.2.1.keep hv6 (by simp)
  have hoffF : ∀ {i x : Nat}, X.T i = x → x ≠ 1 → x ≠ 2 → x ≠ 3 → i ∉ v :: X.j :: X.F := fun h1 h2 h3 h4 hi => by
   simp only [List.mem_cons] at hi
   rcases hi with hi | hi | hi
   ·exact tag_ne h1 H.out.sep.v h2 hi
   ·exact tag_ne h1 H.out.sep.j h3 hi
   ·exact tag_ne h1 (H.out.sep.F _ hi) h4 rfl
  have hu68 : Upd (v :: X.j :: X.F) w6 (w7.setCell ⟨v, 5, none⟩ (.slice da dm dc)) := (H7.out.2.2.1.mono (fun i hi _ => by simp at hi ⊢; rcases hi with q | q <;> simp [q])).trans (hu8.mono (by simp))
  have hsep := H.out.sep
  have hm8 := hmap6.map.upd hu68 (hoffF hsep.q (by decide) (by decide) (by decide)) (fun i hi e => hoffF (hsep.nv _ e) (by decide) (by decide) (by decide) hi) (fun i hi e => hoffF (hsep.lv _ e) (by decide) (by decide) (by decide) hi)
  have hf8 := hmap6.fil.upd hu68 (fun i hi => hoffF (hsep.FM i hi) (by decide) (by decide) (by decide))
  have HAC := Lib.hid (acommit_ok _ hm8 (by rw [marks_len]; omega))
  have H8 := Lib.hid (And.intro hb8 (And.intro hu8 (And.intro hm8 (And.intro hf8 hu68))))
  have e2' := cell_blk hb8 2
  simp only [List.getElem?_toArray, List.getElem?_cons_zero, List.getElem?_cons_succ] at e2'
  have hs8 : (w7.setCell ⟨v, 5, none⟩ (.slice da dm dc)).heap.size = w7.heap.size := by simp
  generalize hW8 : w7.setCell ⟨v, 5, none⟩ (.slice da dm dc) = w8 at *
  clear hb7 hb8 hu8 hmap6 hm8 hf8 hu68 e2
  go_wp2_with fail
  refine HAC.out.mono ?_
  rintro r w9 ⟨rfl, lv9, hm9, hu9, hn9⟩
  have hb9 : w9.heap[v]? = some (boxF X.j X.c X.q X.mf X.ml (.slice da dm dc) false) := (hu9.block v (lt_of_blk H8.out.1) (by simp; exact o6)).trans H8.out.1
  have hf9 := H8.out.2.2.2.1.upd hu9 (fun i hi q => o14 (by rw [List.mem_singleton.1 q] at hi; exact hi))
  have HK := Lib.hid (keep_ok w9 hb9 hf9 H.out.inv.now o4)
  have H9 := Lib.hid (And.intro hm9 (And.intro hu9 (And.intro hn9 (And.intro hb9 hf9))))
  clear hm9 hu9 hn9 hb9 hf9 HAC
  go_wp2_with fail
  refine HK.out.mono ?_
  rintro r w10 ⟨rfl, mn, A2, R2, FL2, hb10, hf10, hu10, hn10⟩
  go_wp2_with fail
  go_ret
  obtain ⟨hE7, hD7, hu7, hF7, -, hu17, hRan⟩ := H7.out
  obtain ⟨hb8, hu8, -, -, hu68⟩ := H8.out
  obtain ⟨hm9, hu9, hn9, hb9, hf9⟩ := H9.out
  have hl7 : LogR w7 X.j p (room + 16) (k + 1) false := by simpa using HL7.out
  have u710 : Upd [v, X.q] w7 w10 := ((hu8.mono (by simp)).trans (hu9.mono (by simp))).trans (hu10.mono (by simp))
  have u610 : Upd (v :: X.q :: X.j :: X.F) w6 w10 := (hu7.mono (fun i hi _ => by simp at hi ⊢; rcases hi with q | q <;> simp [q])).trans (u710.mono (fun i hi _ => by simp at hi ⊢; rcases hi with q | q <;> simp [q]))
  have hlt := H.out.lt
  have hlv := fun i (hi : i ∈ X.fp v) => Nat.lt_of_lt_of_le (hlt i hi) hs0
  have hFn : ∀ {a : Nat}, a ∈ X.fp v → a ∉ X.F → a ∉ F7 := fun ha hn q => by
   rcases hF7 _ q with q | q
   ·exact hn q
   ·have := hlv _ ha; omega
  have hoff : ∀ {i x : Nat}, X.T i = x → x ≠ 1 → x ≠ 2 → x ≠ 3 → x ≠ 7 → i ∉ v :: X.q :: X.j :: X.F := fun h1 h2 h3 h4 h5 hi => by
   simp only [List.mem_cons] at hi
   rcases hi with hi | hi | hi | hi
   ·exact tag_ne h1 hsep.v h2 hi
   ·exact tag_ne h1 hsep.q h5 hi
   ·exact tag_ne h1 hsep.j h3 hi
   ·exact tag_ne h1 (hsep.F _ hi) h4 rfl
  have h6 := H2.out.2.2.1.keep hv6 (by simp)
  have hsy := H.out.inv.sync hk
  have hblk := hE7.up.2.2.2
  have hdlow : ∀ g, (Value.slice da dm dc).ownBlock = some g → w.heap.size ≤ g ∧ g < w6.heap.size ∧ g ∉ v :: X.q :: X.j :: X.F := fun g hg => by
   have h1 := H2.out.1.block g hg
   have h2 := HU1.out.size
   refine ⟨by omega, by omega, fun q => ?_⟩
   have := hlt g (mem_fp.2 (by simp only [List.mem_cons] at q; rcases q with q | q | q | q <;> simp [q]))
   omega
  have hs10 := hu10.size
  have hs9 := hu9.size
  have hsz7 := hu7.size
  have hlv9 : ∀ g, lv9.ownBlock = some g → w7.heap.size ≤ g ∧ g < w9.heap.size := fun g hg => ⟨by have := hn9 g hg; omega, (hm9.last.block g hg).2⟩
  have hF7lt := hD7.lt
  have hdir : Ow w10 0 (.slice da dm dc) (dirB fs) := (((H2.out.1.upd hv6 (by simp)).upd u610 (fun i hi e => (hdlow i e).2.2 hi)).base (Nat.zero_le _))
  refine ⟨0, D7, rfl, hRan, fun _ => ⟨{ X with F := F7, va := .slice da dm dc, lv := lv9, ml := mn, FL := FL2, A' := A2, R' := R2, T := fun i => if w.heap.size ≤ i then (if (Value.slice da dm dc).ownBlock = some i then 10 else if i ∈ F7 then 3 else if lv9.ownBlock = some i then 9 else 6) else X.T i }, ⟨hb10, ⟨hl7.upd u710 (by simp; exact ⟨fun e => o1 e.symm, o11⟩), hD7.upd u710 (fun i hi q => ?_), h6.log.ca.upd u610 (fun i hi => hoff (hsep.FC i hi) (by decide) (by decide) (by decide) (by decide)), hFn (mem_fp.2 (by simp)) o7, o8, fun i hi => hFn (mem_fp.2 (by simp [hi])) (H.out.log.ap i hi), by rw [hE7.n]; exact H.out.log.nD, fun i hi => Nat.lt_of_lt_of_le (h6.log.lt i hi) u610.size⟩,
   hf9.upd hu10 (fun i hi q => o4 (by rw [List.mem_singleton.1 q] at hi; exact hi)), hf10, hm9.upd hu10 (by simp; exact fun e => o6 e.symm) (fun i hi e => ?_) (fun i hi e => ?_), hdir, hE7.up.2.1, by rw [hblk]; exact hsy.2, fun b hb => ?_, ?_⟩, hu17.trans (u710.mono fun i hi _ => ?_), ?_⟩, fun h => absurd rfl h⟩
  ·simp only [List.mem_cons, List.not_mem_nil, or_false] at q
   rcases q with q | q
   ·subst q; exact hFn (mem_fp.2 (by simp)) o2 hi
   ·subst q; exact hFn (mem_fp.2 (by simp)) o12 hi
  ·rw [List.mem_singleton.1 hi] at e; exact tag_ne (hsep.nv _ e) hsep.v (by decide) rfl
  ·rw [List.mem_singleton.1 hi] at e; have := hlv9 _ e; have := hlv v (mem_fp.2 (by simp)); omega
  ·rw [H.out.see b hb, hblk]; exact (sync_see H.out.inv hk b).symm
  ·have old : ∀ {i x : Nat}, i ∈ X.fp v → X.T i = x → (if w.heap.size ≤ i then (if (Value.slice da dm dc).ownBlock = some i then 10 else if i ∈ F7 then 3 else if lv9.ownBlock = some i then 9 else 6) else X.T i) = x := fun h1 h2 => by
    rw [if_neg (by have := hlt _ h1; omega), h2]
   exact {
    v := old (mem_fp.2 (by simp)) hsep.v
    j := old (mem_fp.2 (by simp)) hsep.j
    F := fun i hi => by
     show (if _ then _ else _) = _
     rcases hF7 i hi with q | q
     ·exact old (mem_fp.2 (by simp [q])) (hsep.F i q)
     ·rw [if_pos (by omega), if_neg (fun e => by have := hdlow i e; omega), if_pos hi]
    FC := fun i hi => old (mem_fp.2 (by simp [hi])) (hsep.FC i hi)
    FM := fun i hi => old (mem_fp.2 (by simp [hi])) (hsep.FM i hi)
    FL := fun i hi => by
     show (if _ then _ else _) = _
     have h1 := hn10 i hi
     rw [if_pos (by omega), if_neg (fun e => by have := hdlow i e; omega), if_neg (fun q => by have := hF7lt i q; omega), if_neg (fun e => by have := hlv9 i e; omega)]
    q := old (mem_fp.2 (by simp)) hsep.q
    nv := fun g hg => old (mem_fp.2 (by simp [hg])) (hsep.nv g hg)
    lv := fun g hg => by
     show (if _ then _ else _) = _
     have h1 := hlv9 g hg
     rw [if_pos (by omega), if_neg (fun e => by have := hdlow g e; omega), if_neg (fun q => by have := hF7lt g q; omega), if_pos hg]
    va := fun g hg => by
     show (if _ then _ else _) = _
     have h1 := hdlow g hg
     rw [if_pos h1.1, if_pos hg] }
  ·simp only [List.mem_cons, List.not_mem_nil, or_false] at hi
   rcases hi with rfl | rfl <;> exact mem_fp.2 (by simp)
  ·intro i hi
   rcases mem_fp.1 hi with q | q | q | q | q | q | q | q | q | q
   ·exact .inl (mem_fp.2 (by simp [q]))
   ·exact .inl (mem_fp.2 (by simp at q; simp [q]))
   ·exact .inl (mem_fp.2 (by simp at q; simp [q]))
   ·rcases hF7 i q with q | q
    ·exact .inl (mem_fp.2 (by simp [q]))
    ·exact .inr (by omega)
   ·exact .inl (mem_fp.2 (by simp at q; simp [q]))
   ·exact .inl (mem_fp.2 (by simp at q; simp [q]))
   ·exact .inr (by have := hn10 i q; omega)
   ·exact .inl (mem_fp.2 (by simp at q; simp [q]))
   ·exact .inr (by have := hlv9 i q; omega)
   ·exact .inr (hdlow i q).1
 ·have HEN := Lib.hid (fended_ok w7 hb7 2)
  clear hb7
  go_wp2_with fail
  refine HEN.out.mono ?_
  rintro r w8 ⟨rfl, hb8, hu8⟩
  go_wp2_with fail
  go_ret
  obtain ⟨hE7, hD7, hu7, hF7, -, hu17, hRan⟩ := H7.out
  have hL7 := HL7.out
  refine ⟨2, D7, rfl, hRan, fun h => absurd h (by omega), fun _ => ⟨⟨v :: X.j :: F7, ⟨⟨X.j, X.c, X.q, X.mf, X.ml, X.va, _, room + 16, _, _, hb8, hL7.upd hu8 (by simp; exact fun e => o1 e.symm), ⟨F7, hD7.upd hu8 (fun i hi q => ?_), fun i hi => by simp [hi], fun q => ?_, fun q => ?_⟩, by omega, o1, by simp, by simp⟩, (hE7.dn (by omega)).2.2.1⟩, hu17.trans (hu8.mono fun i hi _ => by rw [List.mem_singleton.1 hi]; exact mem_fp.2 (by simp)), ?_⟩, ?_⟩⟩
  ·rw [List.mem_singleton.1 q] at hi
   rcases hF7 _ hi with q | q
   ·exact o2 q
   ·omega
  ·rcases hF7 _ q with q | q
   ·exact o2 q
   ·omega
  ·rcases hF7 _ q with q | q
   ·exact o7 q
   ·have := H.out.lt X.j (mem_fp.2 (by simp)); omega
  ·intro i hi
   simp only [List.mem_cons] at hi
   rcases hi with q | q | q
   ·exact .inl (mem_fp.2 (by simp [q]))
   ·exact .inl (mem_fp.2 (by simp [q]))
   ·rcases hF7 i q with q | q
    ·exact .inl (mem_fp.2 (by simp [q]))
    ·exact .inr (by omega)
  ·intro l' hc
   obtain ⟨-, -, -, p1, q1, he, hbk⟩ := hE7.dn (by omega)
   rw [hbk] at hc
   exact (H.out.inv.sync hk).1 p1 q1 he l' hc
end Go.Proofs.YteepgehjkcahiaaGreat

namespace Go.Proofs.YteepgehjkcahiaaGreat
open Go.RowKit Go.Maps
def freesF (room : Nat) (fs last : Files) : List Run := frees (freeB (marks room fs) (marks room last)) room 0
def freeN (room : Nat) (fs last : Files) : Nat := lenR (freesF room fs last)
def needN (f : Fil) (n : Nat) : Nat := blocksN (f.data.length + n) - blocksN f.data.length
def codeP (room : Nat) (fs last : Files) (nm : Bs) (n : Nat) : Nat := match getA fs nm with | none => 80 | some f => if 32768 < f.data.length + n then 84 else if freeN room fs last < needN f n then 85 else 0
def growF (room : Nat) (fs last : Files) (f : Fil) (d : Bs) : Fil := grown f (takeR (freesF room fs last) (needN f d.length)) d
def appF (room : Nat) (fs last : Files) (nm d : Bs) : Files := match getA fs nm with | none => fs | some f => putA ltN fs nm (growF room fs last f d)
theorem freeB_marks {room : Nat} (fs last : Files) {b : Nat} (h : b < room) : freeB (marks room fs) (marks room last) b = (!decide (b ∈ allBlks fs) && !decide (b ∈ allBlks last)) := by
 unfold freeB
 rw [List.getD_eq_getElem?_getD, List.getD_eq_getElem?_getD, marks_get fs h, marks_get last h]
 rfl
theorem mem_freesF {room : Nat} {fs last : Files} {b : Nat} : b ∈ expand (freesF room fs last) ↔ b < room ∧ b ∉ allBlks fs ∧ b ∉ allBlks last := by
 unfold freesF
 rw [expand_frees, mem_freeList]
 constructor
 ·rintro ⟨h1, h2⟩
  rw [freeB_marks fs last h1] at h2
  simp at h2
  exact ⟨h1, h2⟩
 ·rintro ⟨h1, h2, h3⟩
  exact ⟨h1, by rw [freeB_marks fs last h1]; simp [h2, h3]⟩
theorem FsInv.grow {l : Nat → Cell} {room k s : Nat} {fs last : Files} (h : FsInv l room k s fs last) {nm : Bs} {f : Fil} (hg : getA fs nm = some f) (n : Nat) : Grow room fs last nm f (takeR (freesF room fs last) n) where
 get := hg
 ok := h.now
 kins := h.kin
 was := fun q hq => blks_nodup h.was.nodup hq
 pos := takeR_pos _ _ fun r hr => (frees_pos _ _ _ r hr).1
 free := fun b hb => by
  rw [expand_takeR] at hb
  exact mem_freesF.1 (List.mem_of_mem_take hb)
 nodup := by
  rw [expand_takeR]
  have : (expand (freesF room fs last)).Nodup := by unfold freesF; rw [expand_frees]; exact nodup_freeList _ _
  exact this.sublist (List.take_sublist ..)
theorem take_add {room : Nat} {fs last : Files} (hr : room ≤ 512) {n : Nat} (hn : n ≤ 1000) : AddOk (takeR (freesF room fs last) n) := by
 have hp := takeR_pos (freesF room fs last) n fun r hr => (frees_pos _ _ _ r hr).1
 refine ⟨hp, takeR_le _ _ _ fun r hr' => ?_, ?_⟩
 ·have := (frees_pos _ _ _ r hr').2
  omega
 ·have h1 := runs_few hp
  have h2 : lenR (takeR (freesF room fs last) n) ≤ n := by rw [← expand_len, expand_takeR, List.length_take]; omega
  omega
theorem mem_all_put {fs : Files} (hs : Srt ltN fs) {nm : Bs} {g : Fil} {b : Nat} : b ∈ allBlks (putA ltN fs nm g) ↔ b ∈ g.blks ∨ ∃ p ∈ fs, p.1 ≠ nm ∧ b ∈ p.2.blks := by
 rw [(perm_all (putA_perm ordN hs nm g)).mem_iff]
 show b ∈ List.flatMap _ _ ↔ _
 rw [List.flatMap_cons, List.mem_append]
 constructor
 ·rintro (h | h)
  ·exact .inl h
  ·obtain ⟨p, hp, hb⟩ := List.mem_flatMap.1 h
   have := mem_delA.1 hp
   exact .inr ⟨p, this.1, this.2, hb⟩
 ·rintro (h | ⟨p, hp, hn, hb⟩)
  ·exact .inl h
  ·exact .inr (List.mem_flatMap.2 ⟨p, mem_delA.2 ⟨hp, hn⟩, hb⟩)
theorem mem_all_get {fs : Files} (hs : Srt ltN fs) {nm : Bs} {f : Fil} (hg : getA fs nm = some f) {b : Nat} : b ∈ allBlks fs ↔ b ∈ f.blks ∨ ∃ p ∈ fs, p.1 ≠ nm ∧ b ∈ p.2.blks := by
 constructor
 ·intro h
  obtain ⟨p, hp, hb⟩ := List.mem_flatMap.1 h
  by_cases e : p.1 = nm
  ·have := getA_of_mem ordN hs hp
   rw [e, hg] at this
   rw [Option.some.inj this]
   exact .inl hb
  ·exact .inr ⟨p, hp, e, hb⟩
 ·rintro (h | ⟨p, hp, -, hb⟩)
  ·exact mem_all (getA_mem hg) h
  ·exact mem_all hp hb
theorem marks_grown {room : Nat} {fs : Files} (hs : Srt ltN fs) {nm : Bs} {f : Fil} (hg : getA fs nm = some f) (rs : List Run) (d : Bs) : markL (marks room fs) rs = marks room (putA ltN fs nm (grown f rs d)) := by
 refine marks_ext (by rw [markL_len, marks_len]) fun b hb => ?_
 have h1 := markL_getD (marks room fs) rs b
 rw [List.getD_eq_getElem?_getD, List.getD_eq_getElem?_getD, marks_get fs hb] at h1
 have hl : (markL (marks room fs) rs)[b]? = some ((markL (marks room fs) rs)[b]'(by rw [markL_len, marks_len]; exact hb)) := List.getElem?_eq_getElem _
 rw [hl] at h1 ⊢
 simp only [Option.getD_some] at h1
 rw [h1]
 congr 1
 have hm : b ∈ allBlks (putA ltN fs nm (grown f rs d)) ↔ b ∈ allBlks fs ∨ b ∈ expand rs := by
  rw [mem_all_put hs, mem_all_get hs hg, grown_blks, List.mem_append]
  constructor
  ·rintro ((h | h) | h)
   ·exact .inl (.inl h)
   ·exact .inr h
   ·exact .inl (.inr h)
  ·rintro ((h | h) | h)
   ·exact .inl (.inl h)
   ·exact .inr h
   ·exact .inl (.inr h)
 rw [Bool.eq_iff_iff]
 simp [hm]
theorem entsL_same {fs : Files} (hs : Srt ltN fs) (A : Bs → Nat) {nm : Bs} {f g : Fil} (hg : getA fs nm = some f) : entsL (putA ltN fs nm g) A = entsL fs A := by
 refine srt_ext ordN (entsL_srt (srt_putA ordN hs nm g) _) (entsL_srt hs A) fun k => ?_
 rw [getA_ents, getA_putA ordN hs, getA_ents]
 by_cases h : nm = k
 ·subst h; rw [if_pos rfl, hg]; rfl
 ·rw [if_neg h]
theorem FilR.grow {w w' : World} {mf : Nat} {fs : Files} {A : Bs → Nat} {R : Bs → Value} {FM : List Nat} (h : FilR w mf fs A R FM) (hs : Srt ltN fs) {nm : Bs} {f g : Fil} {rv : Value} (hg : getA fs nm = some f) (u : Upd [A nm] w w')
  (hn : NodeR w' 0 (A nm) g.data.length rv g.runs) (hr : ∀ b, rv.ownBlock = some b → w.heap.size ≤ b) : FilR w' mf (putA ltN fs nm g) A (updF R nm rv) (rv.ownBlock.toList ++ FM) := by
 have hmem : ∀ p ∈ putA ltN fs nm g, (p = (nm, g)) ∨ (p ∈ fs ∧ p.1 ≠ nm) := fun p hp => put_mem hs hp
 have hf := getA_mem hg
 have e2 : updF R nm rv nm = rv := by simp [updF]
 have o2 : ∀ {k}, k ≠ nm → updF R nm rv k = R k := fun hk => by simp [updF, hk]
 have hAm : A nm ≠ mf := fun e => by
  obtain ⟨es, clock, hb, -⟩ := h.map
  have := (h.node _ hf).1
  simp only at this
  rw [e, hb] at this
  cases this
 refine ⟨by rw [entsL_same hs A hg]; exact owns_upd h.map u (by simp; exact fun e => hAm e.symm), fun p hp => ?_, by simp [h.mem], fun p hp => ?_, fun p hp b hb => ?_, fun p hp q hq hne => ?_, fun p hp q hq hne b hb => ?_, fun i hi => ?_⟩
 ·rcases hmem p hp with rfl | ⟨hp, hk⟩
  ·rw [e2]; exact hn
  ·rw [o2 hk]
   have hnd := h.node p hp
   have hne := h.apA p hp _ hf hk
   refine hnd.upd u (fun q => hne (List.mem_singleton.1 q)) (fun b hb q => ?_)
   rw [List.mem_singleton.1 q] at hb
   exact own_ne' hnd.2 (h.node _ hf).1 (by decide) hb
 ·rcases hmem p hp with rfl | ⟨hp, hk⟩
  ·simp [h.memA _ hf]
  ·simp [h.memA p hp]
 ·rcases hmem p hp with rfl | ⟨hp, hk⟩
  ·rw [e2] at hb; simp [hb]
  ·rw [o2 hk] at hb; simp [h.memR p hp b hb]
 ·rcases hmem p hp with rfl | ⟨hp, hk⟩
  ·rcases hmem q hq with rfl | ⟨hq, hk2⟩
   ·exact absurd rfl hne
   ·exact h.apA (nm, f) hf q hq hne
  ·rcases hmem q hq with rfl | ⟨hq, hk2⟩
   ·exact h.apA p hp (nm, f) hf hne
   ·exact h.apA p hp q hq hne
 ·rcases hmem p hp with rfl | ⟨hp, hk⟩
  ·rcases hmem q hq with rfl | ⟨hq, hk2⟩
   ·exact absurd rfl hne
   ·rw [e2] at hb; rw [o2 hk2]; intro e; have := h.lt _ (h.memR q hq b e); have := hr b hb; omega
  ·rw [o2 hk] at hb
   rcases hmem q hq with rfl | ⟨hq, hk2⟩
   ·rw [e2]; intro e; have := h.lt _ (h.memR p hp b hb); have := hr b e; omega
   ·rw [o2 hk2]; exact h.apR p hp q hq hne b hb
 ·simp only [List.mem_append, Option.mem_toList] at hi
  rcases hi with hi | hi
  ·exact (hn.2.block i hi).2
  ·exact Nat.lt_of_lt_of_le (h.lt i hi) u.size
theorem FsAt.used {w w' : World} {v p : Nat} {D : Dev} {room k s : Nat} {fs last : Files} {X : Fsd} (h : FsAt w v p D room k s fs last X) (u : Upd [v, X.j] w w') (hb : w'.heap[v]? = some (boxF X.j X.c X.q X.mf X.ml X.va false)) (hl : LogR w' X.j p (room + 16) k false) : FsAt w' v p D room k s fs last X := by
 have hv1 : ∀ {i x : Nat}, X.T i = x → x ≠ 1 → x ≠ 2 → i ∉ [v, X.j] := fun h1 h2 h3 hi => by
  simp only [List.mem_cons, List.not_mem_nil, or_false] at hi
  rcases hi with hi | hi
  ·exact tag_ne h1 h.sep.v h2 hi
  ·exact tag_ne h1 h.sep.j h3 hi
 exact ⟨hb, ⟨hl, h.log.dev.upd u fun i hi => hv1 (h.sep.F i hi) (by decide) (by decide), h.log.ca.upd u fun i hi => hv1 (h.sep.FC i hi) (by decide) (by decide), h.log.jF, h.log.jC, h.log.ap, h.log.nD, fun i hi => Nat.lt_of_lt_of_le (h.log.lt i hi) u.size⟩, h.fil.upd u fun i hi => hv1 (h.sep.FM i hi) (by decide) (by decide), h.las.upd u fun i hi => hv1 (h.sep.FL i hi) (by decide) (by decide),
  h.map.upd u (hv1 h.sep.q (by decide) (by decide)) (fun i hi e => hv1 (h.sep.nv _ e) (by decide) (by decide) hi) (fun i hi e => hv1 (h.sep.lv _ e) (by decide) (by decide) hi), h.dir.upd u (fun i hi e => hv1 (h.sep.va _ e) (by decide) (by decide) hi), h.up, h.inv, h.see, h.sep⟩
theorem FsAt.upd_used {w w' : World} {v : Nat} {X : Fsd} (u : Upd [v, X.j] w w') : Upd (X.fp v) w w' := upd_fp u fun i hi => by
 simp only [List.mem_cons, List.not_mem_nil, or_false] at hi
 rcases hi with rfl | rfl <;> exact mem_fp.2 (by simp)
theorem Stage.write {l : Nat → Cell} {room k s : Nat} {fs last : Files} {nm : Bs} {f : Fil} {rs : List Run} {d : Bs} {i kk : Nat} (h : Stage l room k s fs last nm f rs (f.data ++ d.take i)) (g : Grow room fs last nm f rs) {b fr : Nat} {old : Bs} (hi : i ≤ d.length) (hb : (f.blks ++ expand rs)[(f.data.length + i) / 512]? = some b)
  (hfr : fr = (f.data.length + i) % 512) (hk : kk = ((d.drop i).take (512 - fr)).length) (ho : old.length = 512) (hold : fr = 0 ∨ old = (l (36 + b)).view) :
  Stage (exec1 l (.write (36 + b) (pasteB old fr (d.drop i)))) room k s fs last nm f rs (f.data ++ d.take (i + kk)) := by
 have hk1 : kk ≤ 512 - fr := by rw [hk, List.length_take]; omega
 have hk2 : kk ≤ d.length - i := by rw [hk, List.length_take, List.length_drop]; omega
 have hk3 : kk = 512 - fr ∨ kk = d.length - i := by rw [hk, List.length_take, List.length_drop]; omega
 have hti : (d.take i).length = i := by rw [List.length_take]; omega
 have e : d.take (i + kk) = d.take i ++ (d.drop i).take kk := List.take_add
 have hlen : (f.data ++ (d.take i ++ (d.drop i).take kk)).length = f.data.length + i + kk := by
  rw [List.length_append, List.length_append, hti, List.length_take, List.length_drop]; omega
 rw [e]
 refine h.step g hb (by rw [List.length_append, hti]; omega) (by rw [hlen]; omega) (pasteB_len ho (by omega)) fun i' hi' hx => ?_
 rw [hlen] at hx
 by_cases q : i' < fr
 ·rw [pasteB_old q (by omega)]
  rcases hold with h0 | h0
  ·omega
  ·rw [h0]
   have h1 := h.part _ b i' hb hi' (by rw [List.length_append, hti]; omega)
   have h9 : (f.data ++ d.take i ++ (d.drop i).take kk)[512 * ((f.data.length + i) / 512) + i']? = (f.data ++ d.take i)[512 * ((f.data.length + i) / 512) + i']? := List.getElem?_append_left (by rw [List.length_append, hti]; omega)
   rw [show (l (36 + b)).view = dataV l b from rfl, h1, ← List.append_assoc, h9]
 ·rw [pasteB_new (by omega) (by omega) (by rw [List.length_drop]; omega) hi', ← List.append_assoc, List.getElem?_append_right (by rw [List.length_append, hti]; omega), List.length_append, hti, List.getElem?_take_of_lt (by omega)]
  congr 1
  omega
end Go.Proofs.YteepgehjkcahiaaGreat
