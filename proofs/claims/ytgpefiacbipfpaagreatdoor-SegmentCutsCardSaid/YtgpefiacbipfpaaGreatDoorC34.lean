/- Segment: within an Append's calls. Segment: Append. Segment: All's iterator, and Len. -/
import Derived.BigQuiet
import Derived.Test.YtgpefiacbipfpaaGreatDoorC33
import Derived.Test.YtgpefiacbipfpaaGreatDoorC20
namespace Go.Proofs.YtgpefiacbipfpaaGreatDoor
open Go.RowKit Go.Maps
theorem addsD_take (ds : List Bs) (l : List Frm) {i : Nat} {x : Frm} (h : l[i]? = some x) : addsD ds (l.take (i + 1)) = addD (addsD ds (l.take i)) (putFrame x.1 x.2) := by
 rw [List.take_add_one, h]
 show addsD ds (l.take i ++ [x]) = _
 rw [addsD_app]; rfl
theorem addD_len (ds : List Bs) (b : Bs) : ds.length ≤ (addD ds b).length := by
 rcases snoc_or ds with rfl | ⟨a, y, rfl⟩
 ·simp
 ·rw [addD_snoc]; split <;> simp
theorem addsD_len (l : List Frm) : ∀ ds : List Bs, ds.length ≤ (addsD ds l).length := by
 induction l with
 | nil => intro ds; exact Nat.le_refl _
 | cons x l ih => intro ds; exact Nat.le_trans (addD_len ds _) (ih _)
theorem addsD_mid (ds : List Bs) (l : List Frm) (i : Nat) : (addsD ds (l.take i)).length ≤ (addsD ds l).length := by
 have := addsD_len (l.drop i) (addsD ds (l.take i))
 rwa [← addsD_app, List.take_append_drop] at this
theorem addD_case (D : List Bs) (b : Bs) : (∃ a y, D = a ++ [y] ∧ y.length + b.length ≤ 8192 ∧ addD D b = a ++ [y ++ b]) ∨ ((D = [] ∨ ∃ a y, D = a ++ [y] ∧ 8192 < y.length + b.length) ∧ addD D b = D ++ [[] ++ b]) := by
 rcases snoc_or D with rfl | ⟨a, y, rfl⟩
 ·exact .inr ⟨.inl rfl, rfl⟩
 ·rw [addD_snoc]
  by_cases h : 8192 < y.length + b.length
  ·rw [if_pos h]; exact .inr ⟨.inr ⟨a, y, rfl, h⟩, rfl⟩
  ·rw [if_neg h]; exact .inl ⟨a, y, rfl, by omega, rfl⟩
structure Ap2 (w0 w wr : World) (v p room : Nat) (ds D : List Bs) (c base lg : Nat) (fv sv : Value) (L : List FrR) (sz : List Nat) (v5 v6 v7 : Value) (S : List Nat) (L1 M1 : List FrR) (G G2 : List Nat) : Prop where
 sub : ∀ i ∈ G, i ∈ G2
 sg : SegV w0 wr v p room (rowM D) (rowM ds) c G2
 log : LogS wr base lg v fv sv L sz
 foot : ∀ i ∈ lfoot lg fv sv L, i ∈ G2 ∧ i < w.heap.size
 fr : FrsS wr w.heap.size v6 L1
 ld : LdS wr w.heap.size v7 M1
 g6 : ∀ i ∈ ffoot v6 L1, i ∈ G2
 g7 : ∀ i ∈ ffoot v7 M1, i ∈ G2
 s5 : OwI wr w.heap.size v5 S
 g5 : ∀ g, v5.ownBlock = some g → g ∈ G2
 a6 : ∀ g, v5.ownBlock = some g → g ∉ ffoot v6 L1
 a7 : ∀ g, v5.ownBlock = some g → g ∉ ffoot v7 M1
 st : Stay G w wr
section
variable {w0 w wr w' : World} {v p room c base lg : Nat} {ds D D' : List Bs} {fv sv v5 v6 v7 v5' : Value} {L L1 M1 : List FrR} {sz S S' : List Nat} {G G2 G3 : List Nat}
theorem Ap2.stay (h : Ap2 w0 w wr v p room ds D c base lg fv sv L sz v5 v6 v7 S L1 M1 G G2) (s : Stay G2 wr w') {c' : Nat} (hs : SegV w0 w' v p room (rowM D') (rowM ds) c' G2) : Ap2 w0 w w' v p room ds D' c' base lg fv sv L sz v5 v6 v7 S L1 M1 G G2 := by
 have hsub := h.sub
 have hst := h.st.trans (s.sub hsub)
 obtain ⟨F, u, hF⟩ := s
 exact ⟨h.sub, hs, h.log.upd u fun i hi => hF i (h.foot i hi).1, h.foot, h.fr.upd u fun i hi => hF i (h.g6 i hi), h.ld.upd u fun i hi => hF i (h.g7 i hi), h.g6, h.g7, h.s5.upd u fun j hj e => hF j (h.g5 j e) hj, h.g5, h.a6, h.a7, hst⟩
theorem Ap2.turn (h : Ap2 w0 w wr v p room ds D c base lg fv sv L sz v5 v6 v7 S L1 M1 G G2) (hwl : w0.heap.size ≤ w.heap.size) (hG : ∀ i ∈ G, i < w.heap.size) {F : List Nat} (u : Upd F wr w') (hF : ∀ i ∈ F, v5.ownBlock = some i) (ho : OwI w' w.heap.size v5' S') (hn : v5'.ownBlock = v5.ownBlock ∨ ∀ g, v5'.ownBlock = some g → wr.heap.size ≤ g) :
  Ap2 w0 w w' v p room ds D c base lg fv sv L sz v5' v6 v7 S' L1 M1 G (newB wr w' ++ G2) := by
 have hb5 : ∀ i ∈ F, w.heap.size ≤ i := fun i hi => (h.s5.block i (hF i hi)).1
 have hn' : ∀ g, v5'.ownBlock = some g → v5.ownBlock = some g ∨ wr.heap.size ≤ g := fun g hg => hn.elim (fun e => .inl (by rw [← e]; exact hg)) fun e => .inr (e g hg)
 refine ⟨fun i hi => List.mem_append_right _ (h.sub i hi), h.sg.freshF u fun i hi => ⟨h.g5 i (hF i hi), Nat.le_trans hwl (hb5 i hi)⟩, h.log.upd u fun i hi q => ?_, fun i hi => ⟨List.mem_append_right _ (h.foot i hi).1, (h.foot i hi).2⟩, h.fr.upd u fun i hi q => h.a6 i (hF i q) hi, h.ld.upd u fun i hi q => h.a7 i (hF i q) hi, fun i hi => List.mem_append_right _ (h.g6 i hi), fun i hi => List.mem_append_right _ (h.g7 i hi), ho, fun g hg => ?_, fun g hg q => ?_, fun g hg q => ?_, h.st.trans ⟨F, u, fun i hi q => ?_⟩⟩
 ·have := (h.foot i hi).2; have := hb5 i q; omega
 ·rcases hn' g hg with e | e
  ·exact List.mem_append_right _ (h.g5 g e)
  ·exact List.mem_append_left _ (mem_newB.2 ⟨e, (ho.block g hg).2⟩)
 ·rcases hn' g hg with e | e
  ·exact h.a6 g e q
  ·have := (h.fr.lt g q).2; omega
 ·rcases hn' g hg with e | e
  ·exact h.a7 g e q
  ·have := (h.ld.lt g q).2; omega
 ·have := hG i hi; have := hb5 i q; omega
theorem Ap2.fin (h : Ap2 w0 w wr v p room ds D c base lg fv sv L sz v5 v6 v7 S L1 M1 G G2) (hwl : w0.heap.size ≤ base) (hbw : base ≤ w.heap.size) {c' : Nat} {w1 w2 W' : World} (s : Stay G2 wr w1) (hs : SegV w0 w1 v p room (rowM D) (rowM D) c' G2) (hS : S = D.map List.length) {fv' : Value} {K : List Nat} (hK : ∀ i ∈ K, i ∈ G ∧ i ∉ lfoot lg fv sv L)
  (ho : OwFr w2 base fv' (L ++ L1)) (hg : w1.grownBy w2 fv.ownBlock) (hn : fv'.ownBlock = fv.ownBlock ∨ ∀ g, fv'.ownBlock = some g → w1.heap.size ≤ g)
  (hW : W' = (w2.setCell ⟨lg, 1, none⟩ fv').setCell ⟨lg, 2, none⟩ v5) : ∃ G', LogV w0 W' v p room D c' base lg fv' v5 (L ++ L1) G' ∧ (∀ i ∈ G, i ∈ G') ∧ Stay K w W' ∧ ∀ i ∈ lfoot lg fv' v5 (L ++ L1), i ∈ lfoot lg fv sv L ∨ w.heap.size ≤ i := by
 obtain ⟨F, u, hF⟩ := s
 have hlog := h.log.upd u fun i hi => hF i (h.foot i hi).1
 have hfr := h.fr.upd u fun i hi => hF i (h.g6 i hi)
 have hs5 := h.s5.upd u fun j hj e => hF j (h.g5 j e) hj
 have hug := Upd.ofGrown hg
 have hfb : ∀ g, fv.ownBlock = some g → g < w.heap.size := fun g hg => (h.foot g (mem_lfoot.2 (.inr (.inr (mem_ffoot.2 (.inl hg)))))).2
 have hws := h.st.size
 have hus := u.size
 have hlgw : lg < w.heap.size := (h.foot lg (mem_lfoot.2 (.inl rfl))).2
 have h5b : ∀ g, v5.ownBlock = some g → w.heap.size ≤ g ∧ g < w1.heap.size := fun g hg => hs5.block g hg
 have hn' : ∀ g, fv'.ownBlock = some g → fv.ownBlock = some g ∨ w1.heap.size ≤ g := fun g hg => hn.elim (fun e => .inl (by rw [← e]; exact hg)) fun e => .inr (e g hg)
 have hA : FrsS w2 base fv' (L ++ L1) := hlog.fr.app hg ho hn hfr.dat fun x hx hd g hg => ⟨by have := (hfr.sep x hx hd g hg).1; omega, fun e => by have := (hfr.sep x hx hd g hg).1; have := hfb g e; omega⟩
 have hs52 : OwI w2 base v5 S := (hs5.upd hug fun j hj e => by have := hfb j (by simpa using hj); have := (h5b j e).1; omega).base hbw
 have hbx : w2.heap[lg]? = some (boxSg v fv sv) := (hug.block lg (lt_of_blk hlog.box) fun q => hlog.s1 (mem_ffoot.2 (.inl (by simpa using q)))).trans hlog.box
 have s1 : lg ∉ ffoot fv' (L ++ L1) := fun q => by
  rcases ffoot_app.1 q with e | e | e
  ·rcases hn' lg e with e2 | e2
   ·exact hlog.s1 (mem_ffoot.2 (.inl e2))
   ·omega
  ·exact hlog.s1 (ffoot_dat e)
  ·have := (hfr.lt lg (ffoot_dat e)).1; omega
 have s2 : v5.ownBlock ≠ some lg := fun q => by have := (h5b lg q).1; omega
 have s3 : ∀ g, v5.ownBlock = some g → g ∉ ffoot fv' (L ++ L1) := fun g hg q => by
  have h5 := h5b g hg
  rcases ffoot_app.1 q with e | e | e
  ·rcases hn' g e with e2 | e2
   ·have := hfb g e2; omega
   ·omega
  ·have := (h.foot g (mem_lfoot.2 (.inr (.inr (ffoot_dat e))))).2; omega
  ·exact h.a6 g hg (ffoot_dat e)
 subst hW
 have hu : Upd [lg] w2 ((w2.setCell ⟨lg, 1, none⟩ fv').setCell ⟨lg, 2, none⟩ v5) := ((Upd.refl _ _).setCell (by simp) _ _).setCell (by simp) _ _
 have hlog' : LogS ((w2.setCell ⟨lg, 1, none⟩ fv').setCell ⟨lg, 2, none⟩ v5) base lg v fv' v5 (L ++ L1) S :=
  ⟨boxSg_set hbx, hA.upd hu fun i hi q => s1 (by rw [← List.mem_singleton.1 q]; exact hi), hs52.upd hu fun j hj e => s2 (by rw [← List.mem_singleton.1 hj]; exact e), hlog.low, s1, s2, s3⟩
 have hFu : Upd (lg :: fv.ownBlock.toList) w1 ((w2.setCell ⟨lg, 1, none⟩ fv').setCell ⟨lg, 2, none⟩ v5) := (hug.mono fun k hk _ => List.mem_cons_of_mem _ hk).trans (hu.mono fun k hk _ => by rw [List.mem_singleton.1 hk]; exact List.mem_cons_self ..)
 have hFl : ∀ i ∈ lg :: fv.ownBlock.toList, i ∈ lfoot lg fv sv L := fun i hi => by
  rcases List.mem_cons.1 hi with e | e
  ·exact mem_lfoot.2 (.inl e)
  ·exact mem_lfoot.2 (.inr (.inr (mem_ffoot.2 (.inl (by simpa using e)))))
 refine ⟨_, ⟨hs.freshF hFu fun i hi => ⟨(h.foot i (hFl i hi)).1, Nat.le_trans hwl (hlog.lt i (hFl i hi)).1⟩, by rw [← hS]; exact hlog', fun i hi => ?_, hwl⟩, fun i hi => List.mem_append_right _ (h.sub i hi), ?_, fun i hi => ?_⟩
 ·rcases mem_lfoot.1 hi with e | e | e
  ·exact List.mem_append_right _ (h.foot i (mem_lfoot.2 (.inl e))).1
  ·exact List.mem_append_right _ (h.g5 i e)
  ·rcases ffoot_app.1 e with e | e | e
   ·rcases hn' i e with e2 | e2
    ·exact List.mem_append_right _ (h.foot i (mem_lfoot.2 (.inr (.inr (mem_ffoot.2 (.inl e2)))))).1
    ·exact List.mem_append_left _ (mem_newB.2 ⟨e2, (hlog'.lt i hi).2⟩)
   ·exact List.mem_append_right _ (h.foot i (mem_lfoot.2 (.inr (.inr (ffoot_dat e))))).1
   ·exact List.mem_append_right _ (h.g6 i (ffoot_dat e))
 ·exact ((h.st.sub fun i hi => (hK i hi).1).trans (⟨F, u, fun i hi => hF i (h.sub i (hK i hi).1)⟩)).trans ⟨_, hFu, fun i hi q => (hK i hi).2 (hFl i q)⟩
 ·rcases mem_lfoot.1 hi with e | e | e
  ·exact .inl (mem_lfoot.2 (.inl e))
  ·exact .inr (h5b i e).1
  ·rcases ffoot_app.1 e with e | e | e
   ·rcases hn' i e with e2 | e2
    ·exact .inl (mem_lfoot.2 (.inr (.inr (mem_ffoot.2 (.inl e2)))))
    ·exact .inr (by omega)
   ·exact .inl (mem_lfoot.2 (.inr (.inr (ffoot_dat e))))
   ·exact .inr (hfr.lt i (ffoot_dat e)).1
end
end Go.Proofs.YtgpefiacbipfpaaGreatDoor

namespace Go.Proofs.YtgpefiacbipfpaaGreatDoor
open Go.RowKit Go.Maps
set_option maxRecDepth 100000 in
set_option maxHeartbeats 8000000 in
theorem sappend_ok {w0 w : World} {v p room c base lg : Nat} {ds : List Bs} {fv sv av : Value} {L A : List FrR} {G K : List Nat} (h : LogV w0 w v p room ds c base lg fv sv L G) (hbw : base ≤ w.heap.size) (hc : c ≤ 800000) (ha : RdG cFr 2 w av A) (had : ∀ x ∈ A, Rd w x.dv x.d) (hAl : A.length ≤ 10000) (hL : L.length ≤ 100000) (hdl : ds.length ≤ 1000) (hds : ∀ d ∈ ds, d.length ≤ 8192)
  (hroom : (∀ x ∈ A, x.d.length ≤ 2000) → (addsD ds (A.map FrR.fr)).length ≤ 50 ∧ 16 * (addsD ds (A.map FrR.fr)).length + 5 ≤ room) (hK : ∀ i ∈ K, i ∈ G ∧ i ∉ lfoot lg fv sv L) :
  Calls Tryz.prog 18 #[.pointer (some ⟨lg, 0, none⟩), av] w fun e w' =>
   ((∀ x ∈ A, x.d.length ≤ 2000) ∧ e = .returned (.int .i64 0) ∧ ∃ (fv' sv' : Value) (L' : List FrR) (G' : List Nat), LogV w0 w' v p room (addsD ds (A.map FrR.fr)) (c + A.length + 1) base lg fv' sv' (L ++ L') G' ∧ L'.map FrR.fr = A.map FrR.fr ∧ (∀ i ∈ G, i ∈ G') ∧ Stay K w w' ∧ ∀ i ∈ lfoot lg fv' sv' (L ++ L'), i ∈ lfoot lg fv sv L ∨ w.heap.size ≤ i) ∨
   ((∃ x ∈ A, 2000 < x.d.length) ∧ e = .returned (.int .i64 90) ∧ Upd [] w w') := by
 have hlow := h.sg.upd.size
 have hGl := h.sg.lt
 obtain ⟨aa, ac, rfl, ha1, ha2, ha3⟩ := ha.slice
 obtain ⟨n, hn⟩ : ∃ n, n = A.length := ⟨_, rfl⟩
 obtain ⟨fa, fc, fm, hfm, rfl⟩ := h.log.fr.own.sliceM
 obtain ⟨sa, sc, sm, hsm, rfl⟩ := h.log.sz.sliceM
 have b0 := cell_blk h.log.box 0
 have b1 := cell_blk h.log.box 1
 have b2 := cell_blk h.log.box 2
 simp only [List.getElem?_toArray, List.getElem?_cons_zero, List.getElem?_cons_succ] at b0 b1 b2
 have hclone := cloneI_ok w (OwnG.rd TI h.log.sz) (by rw [List.length_map]; omega)
 have HAA := Lib.hid (And.intro ha had)
 rw [← hn] at ha1 ha3 hAl ⊢
 have HN := Lib.hid hn
 have HFM := Lib.hid (And.intro hfm hsm)
 have HH := Lib.hid h
 have HP := Lib.hid (And.intro hlow (And.intro hGl (And.intro trivial (And.intro hds (And.intro hroom hK)))))
 have HCl := Lib.hid hclone
 rw [← hn] at HAA
 clear h ha had hn hfm hsm hlow hGl hds hroom hK hclone
 go_enter Tryz.func18, Tryz.ntmps18
 go_wp2_with fail
 refine HCl.out.mono ?_
 rintro e w1 ⟨v5, rfl, ho5, hu5⟩
 obtain ⟨a5, c5, m5, hm5, rfl⟩ := ho5.sliceM
 have H5 := Lib.hid (And.intro ho5 hu5)
 clear ho5 hu5 hm5 HCl b0 b1 b2
 go_wp2_with fail
 go_loopg [6, 7, 9, 10, 11, 27] (n + 1) (fun gh s6 s7 s9 s10 s11 s27 wr => ∃ (i : Nat) (L1 M1 : List FrR), s27 = .int .i64 i ∧ i ≤ n ∧ gh = n + 1 - i ∧ Hid (Ap1 w1 wr (A.map FrR.fr) i s6 s7 L1 M1 ∧ ∀ x ∈ A.take i, x.d.length ≤ 2000))
 case atStart => exact ⟨0, [], [], rfl, Nat.zero_le _, rfl, Lib.hid ⟨⟨Upd.refl _ _, FrsS.nil _ _, LdS.nil _ _, rfl, rfl, by simp [ffoot, Value.ownBlock]⟩, by simp⟩⟩
 case round =>
  obtain ⟨i, L1, M1, rfl, hi, rfl, HS⟩ := hrel
  by_cases hin : i < n
  ·have hil : i < A.length := by rw [← HN.out]; exact hin
   have hu0 : Upd [] w wr := H5.out.2.trans HS.out.1.up
   obtain ⟨x, hx0⟩ : ∃ x, x = A[i] := ⟨_, rfl⟩
   have hxm : x ∈ A := by rw [hx0]; exact List.getElem_mem hil
   obtain ⟨a', c', hav, -, -, hcell⟩ := (HAA.out.1.keep TFr hu0).sl
   simp only [Value.slice.injEq] at hav
   obtain ⟨rfl, -, -⟩ := hav
   obtain ⟨b, off, rfl, hca⟩ := hcell i hil
   rw [← hx0] at hca
   have hx := (List.getElem?_eq_getElem hil).trans (congrArg some hx0.symm)
   have hrd := (HAA.out.2 x hxm).keep hu0
   obtain ⟨xa, xc, hxd, -⟩ := hrd.slice
   obtain ⟨xm, hxl⟩ : ∃ xm, xm = x.d.length := ⟨_, rfl⟩
   rw [← hxl] at hxd
   have p0 := hca 0 _ rfl
   have p1 := hca 1 _ rfl
   rw [hxd] at p1 hrd
   rw [Nat.add_zero] at p0
   have HX := Lib.hid (And.intro hx (And.intro hrd hxl))
   have him : (i : Int) < (n : Int) := by omega
   obtain ⟨q6, r6, m6, hm6, rfl⟩ := HS.out.1.fr.own.sliceM
   obtain ⟨q7, r7, m7, hm7, rfl⟩ := HS.out.1.ld.own.sliceM
   clear hca hcell hx hx0 hxm hrd hxd hxl hil hu0 hm6 hm7
   go_wp2_with fail
   have hua := (Upd.refl [] wr).alloc (boxFv x.k (.slice xa xm xc))
   by_cases hlong : 2000 < x.d.length
   ·refine (putFrame_long _ _ x.k (HX.out.2.1.keep hua) hlong).mono ?_
    rintro e w2 ⟨rfl, hu2⟩
    have HU2 := Lib.hid ((H5.out.2.trans HS.out.1.up).trans (hua.trans hu2))
    have HLG := Lib.hid hlong
    clear hua hu2 p0 p1 hlong
    go_wp2_with fail
    go_ret
    exact .inr ⟨⟨x, List.mem_of_getElem? HX.out.1, HLG.out⟩, rfl, HU2.out⟩
   ·refine (putFrame_ok _ (Rd.nil _) x.k (HX.out.2.1.keep hua) (by omega) (Nat.zero_le _)).mono ?_
    rintro e w2 ⟨pv, rfl, hop, hu2⟩
    rw [List.nil_append] at hop
    obtain ⟨pa, pc, pm, hpm, rfl⟩ := hop.sliceM
    have hu2' := hua.trans hu2
    have hbx : w2.heap[wr.heap.size]? = some (boxFv x.k (.slice xa xm xc)) := heap_keepU hu2 (heap_top _ _)
    have H2 := Lib.hid (And.intro hop hu2')
    have HSH := Lib.hid (Nat.not_lt.1 hlong)
    clear hop hu2 hpm hua p0 p1 hlong
    have hown := own_ok w2 x.k (HX.out.2.1.keep H2.out.2) (Nat.le_trans HSH.out (by omega))
    have q0 := cell_blk hbx 0
    have q1 := cell_blk hbx 1
    simp only [List.getElem?_toArray, List.getElem?_cons_zero, List.getElem?_cons_succ] at q0 q1
    have HO := Lib.hid hown
    clear hown hbx
    go_wp2_with fail
    refine HO.out.mono ?_
    rintro e w3 ⟨ov, rfl, hoo, hu3⟩
    obtain ⟨oa, oc, om, hom, rfl⟩ := hoo.sliceM
    have hus : wr.heap.size ≤ w2.heap.size := H2.out.2.size
    have H3 := Lib.hid (And.intro hoo (H2.out.2.trans hu3))
    have HP3 := Lib.hid (H2.out.1.rd.keep hu3)
    have HLen := Lib.hid (HS.out.1.len6 (by rw [List.length_map, ← HN.out]; exact hi))
    clear hoo hu3 hom q0 q1 hu2'
    go_wp2_with (first
     | (at_builtin; refine wpList_append_G TFr rfl _ _ rfl (base := w1.heap.size) (l := L1) (r := [⟨x.k, .slice oa om oc, x.d⟩]) (by rfl) (HS.out.1.fr.own.upd (H3.out.2.alloc _) (by simp)) (by rfl) (src_new TFr (ty := 25) (B := w3.heap.size) (heap_top' _ _ _ rfl)) (oneFr (w := w3) (by simp only [List.mem_singleton, forall_eq]; exact H3.out.1.rd)) ?c1 ?c2 ?c3 ?_)
     | fail)
    case c1 => have := HLen.out.1; simp; omega
    case c2 => have := HLen.out.1; simp; omega
    case c3 => have := HS.out.1.up.size; have := H3.out.2.size; simp; omega
    intro v6' w4 ho6 hg6 hn6
    have hl4 : OwLd w4 w1.heap.size (.slice q7 m7 r7) M1 := (HS.out.1.ld.own.upd (H3.out.2.alloc _) (by simp)).upd (Upd.ofGrown hg6) fun j hj e => HS.out.1.ap j (mem_ffoot.2 (.inl (by simpa using hj))) (mem_ffoot.2 (.inl e))
    have h4s : wr.heap.size ≤ w4.heap.size := Nat.le_trans (H3.out.2.alloc _).size (Upd.ofGrown hg6).size
    have hpw : Rd w4 (.slice pa pm pc) (putFrame x.k x.d) := (HP3.out.keep ((Upd.refl [] w3).alloc _)).upd1 (Upd.ofGrown hg6) fun _ g hg q => by
     have := (H2.out.1.block g hg).1
     have := (HS.out.1.fr.own.block g (by simpa using q)).2
     simp at *; omega
    obtain ⟨s6, t6, k6, hk6, rfl⟩ := ho6.sliceM
    have HL4 := Lib.hid (And.intro hl4 (And.intro hpw h4s))
    have H6 := Lib.hid (And.intro ho6 (And.intro hg6 hn6))
    clear hl4 hpw h4s ho6 hg6 hn6 hk6
    go_wp2_with (first
     | (at_builtin; refine wpList_append_G TLd rfl _ _ rfl (base := w1.heap.size) (l := M1) (r := [⟨x.k, .slice pa pm pc, putFrame x.k x.d⟩]) (by rfl) (HL4.out.1.upd ((Upd.refl [] w4).alloc _) (by simp)) (by rfl) (src_new TLd (ty := 23) (B := w4.heap.size) (heap_top' _ _ _ rfl)) (oneLd (w := w4) (by simp only [List.mem_singleton, forall_eq]; exact HL4.out.2.1)) ?c1 ?c2 ?c3 ?_)
     | fail)
    case c1 => have := HLen.out.2; simp; omega
    case c2 => have := HLen.out.2; simp; omega
    case c3 => have := HS.out.1.up.size; have := HL4.out.2.2; simp; omega
    intro v7' w5 ho7 hg7 hn7
    obtain ⟨s7, t7, k7, hk7, rfl⟩ := ho7.sliceM
    have hN : Ap1 w1 w5 (A.map FrR.fr) (i + 1) (.slice s6 k6 t6) (.slice s7 k7 t7) (L1 ++ [⟨x.k, .slice oa om oc, x.d⟩]) (M1 ++ [⟨x.k, .slice pa pm pc, putFrame x.k x.d⟩]) :=
     HS.out.1.next (x := ⟨x.k, .slice oa om oc, x.d⟩) (y := ⟨x.k, .slice pa pm pc, putFrame x.k x.d⟩) (by rw [List.getElem?_map, HX.out.1]; rfl) rfl H3.out.2 H3.out.1.rd HP3.out
      (fun g hg => Nat.le_trans hus (H3.out.1.block g hg).1) (fun g hg => by have := (H2.out.1.block g hg).1; simp at this; omega) (fun g hg q => by have := (H3.out.1.block g hg).1; have := (H2.out.1.block g q).2; omega)
      ((Upd.refl [] w3).alloc _) H6.out.1 H6.out.2.1 (H6.out.2.2.imp id fun q g hg => by simpa using q g hg) ((Upd.refl [] w4).alloc _) ho7 hg7 (hn7.imp id fun q g hg => by simpa using q g hg)
    have HNx := Lib.hid (And.intro hN (show ∀ x ∈ A.take (i + 1), x.d.length ≤ 2000 by
     rw [List.take_add_one, HX.out.1]
     intro y hy
     rcases List.mem_append.1 hy with q | q
     ·exact HS.out.2 y q
     ·simp only [Option.toList_some, List.mem_singleton] at q; rw [q]; exact HSH.out))
    clear hN ho7 hg7 hn7 hk7
    go_wp2_with fail
    go_roundg (n + 1 - (i + 1))
    case measure => omega
    case rel => exact ⟨i + 1, _, _, by go_num, by omega, rfl, HNx⟩
  ·obtain rfl : i = n := by omega
   have him : ¬ (i : Int) < (i : Int) := Int.lt_irrefl _
   have hall : ∀ x ∈ A, x.d.length ≤ 2000 := fun x hx => HS.out.2 x (by rw [HN.out, List.take_length]; exact hx)
   obtain ⟨q6, r6, m6, hm6, rfl⟩ := HS.out.1.fr.own.sliceM
   obtain ⟨q7, r7, m7, hm7, rfl⟩ := HS.out.1.ld.own.sliceM
   have hl1 := HS.out.1.len6 (by rw [List.length_map, ← HN.out]; exact Nat.le_refl _)
   have hm7i : m7 = i := by omega
   subst hm7i
   obtain ⟨hn50, hroom⟩ := HP.out.2.2.2.2.1 hall
   have hu0 : Upd [] w wr := H5.out.2.trans HS.out.1.up
   have h1s := H5.out.2.size
   have hrs := HS.out.1.up.size
   have hst2 : Ap2 w0 w wr v p room ds (addsD ds ((A.map FrR.fr).take 0)) (c + 0) base lg (.slice fa fm fc) (.slice sa sm sc) L (ds.map List.length) (.slice a5 m5 c5) (.slice q6 m6 r6) (.slice q7 m7 r7) ((addsD ds ((A.map FrR.fr).take 0)).map List.length) L1 M1 G (newB w wr ++ G) :=
    ⟨fun i hi => List.mem_append_right _ hi, (HH.out.sg.keep hu0 |> fun _ => HH.out.sg.fresh hu0), HH.out.log.keep hu0, fun i hi => ⟨List.mem_append_right _ (HH.out.foot i hi), (HH.out.log.lt i hi).2⟩, HS.out.1.fr.low h1s,
     ⟨HS.out.1.ld.own.base h1s, HS.out.1.ld.dat, fun x hx hd g hg => ⟨Nat.le_trans h1s (HS.out.1.ld.sep x hx hd g hg).1, (HS.out.1.ld.sep x hx hd g hg).2⟩⟩,
     fun i hi => List.mem_append_left _ (mem_newB.2 ⟨Nat.le_trans h1s (HS.out.1.fr.lt i hi).1, (HS.out.1.fr.lt i hi).2⟩), fun i hi => List.mem_append_left _ (mem_newB.2 ⟨Nat.le_trans h1s (HS.out.1.ld.lt i hi).1, (HS.out.1.ld.lt i hi).2⟩),
     H5.out.1.upd HS.out.1.up (by simp), fun g hg => List.mem_append_left _ (mem_newB.2 ⟨(H5.out.1.block g hg).1, Nat.lt_of_lt_of_le (H5.out.1.block g hg).2 hrs⟩),
     fun g hg q => by have := (H5.out.1.block g hg).2; have := (HS.out.1.fr.lt g q).1; omega, fun g hg q => by have := (H5.out.1.block g hg).2; have := (HS.out.1.ld.lt g q).1; omega, .of hu0⟩
   have HST := Lib.hid hst2
   have HE := Lib.hid (And.intro HS.out.1.e6 (And.intro HS.out.1.e7 hl1))
   have HALL := Lib.hid (And.intro hall (And.intro hn50 hroom))
   clear hst2 hl1 hall hn50 hroom hu0 h1s hrs hm6 hm7 HS H5
   go_wp2_with fail
   go_loopg [5, 13, 14, 15, 16, 50] (m7 + 1) (fun gh s5 s13 s14 s15 s16 s50 wq => ∃ (j : Nat) (G2 : List Nat), s50 = .int .i64 j ∧ j ≤ m7 ∧ gh = m7 + 1 - j ∧ Hid (Ap2 w0 w wq v p room ds (addsD ds ((A.map FrR.fr).take j)) (c + j) base lg (.slice fa fm fc) (.slice sa sm sc) L (ds.map List.length) s5 (.slice q6 m6 r6) (.slice q7 m7 r7) ((addsD ds ((A.map FrR.fr).take j)).map List.length) L1 M1 G G2))
   case atStart => exact ⟨0, _, rfl, Nat.zero_le _, rfl, HST⟩
   case round =>
    clear HST
    obtain ⟨j, G2, rfl, hj, rfl, HS⟩ := hrel
    generalize wr = wq at *
    by_cases hjn : j < m7
    ·have hjm : (j : Int) < (m7 : Int) := by omega
     have hjl : j < M1.length := by rw [HE.out.2.2.2]; exact hjn
     have hjA : j < A.length := by rw [← HN.out]; exact hjn
     obtain ⟨-, -, -, hat⟩ := HS.out.ld.own.at TLd
     obtain ⟨g7, rfl, -, -, hca⟩ := hat j hjl
     obtain ⟨y, hy0⟩ : ∃ y, y = M1[j] := ⟨_, rfl⟩
     obtain ⟨x, hx0⟩ : ∃ x, x = A[j] := ⟨_, rfl⟩
     rw [← hy0] at hca
     have hym : y ∈ M1 := by rw [hy0]; exact List.getElem_mem hjl
     have hxm : x ∈ A := by rw [hx0]; exact List.getElem_mem hjA
     have hyd : y.d = putFrame x.k x.d := by
      have h1 := congrArg (fun l => l[j]?) HE.out.2.1
      simp only [List.getElem?_map, List.getElem?_take_of_lt hjn, List.getElem?_eq_getElem hjl, List.getElem?_eq_getElem hjA, Option.map_some, ← hy0, ← hx0, Option.some.injEq] at h1
      exact h1
     have hyl := putFrame_le (k := x.k) (HALL.out.1 x hxm)
     have hxA : (A.map FrR.fr)[j]? = some x.fr := by rw [List.getElem?_map, List.getElem?_eq_getElem hjA, ← hx0]; rfl
     have hD := addsD_take ds (A.map FrR.fr) hxA
     have hry := HS.out.ld.dat y hym
     have hgy := fun (hd : y.d ≠ []) g (hg : y.dv.ownBlock = some g) => HS.out.g7 g (mem_ffoot.2 (.inr ⟨y, hym, hd, hg⟩))
     have hDl := addsD_mid ds (A.map FrR.fr) j
     have hDl1 := addsD_mid ds (A.map FrR.fr) (j + 1)
     have hD8 := addsD_le (l := (A.map FrR.fr).take j) (fun z hz => by
      obtain ⟨t, ht, rfl⟩ := List.mem_map.1 (List.mem_of_mem_take hz)
      exact HALL.out.1 t ht) HP.out.2.2.2.1
     rw [hD] at hDl1
     have HDn := Lib.hid hD
     clear hD
     change (addD (addsD ds ((A.map FrR.fr).take j)) (putFrame x.k x.d)).length ≤ _ at hDl1
     change Hid (_ = addD (addsD ds ((A.map FrR.fr).take j)) (putFrame x.k x.d)) at HDn
     rw [← hyd] at HDn hDl1 hyl
     generalize hDD : addsD ds ((A.map FrR.fr).take j) = D at *
     obtain ⟨ya, yc, hyv, hy1, hy2, hy3⟩ := hry.slice
     obtain ⟨bl, hbl⟩ : ∃ bl, bl = y.d.length := ⟨_, rfl⟩
     rw [← hbl] at hyv hy1 hyl
     have p0 := hca 0 _ rfl
     rw [hyv] at p0 hry hgy
     obtain ⟨a5, c5, q, hq, rfl⟩ := HS.out.s5.sliceM
     rw [List.length_map] at hq
     have hq5 : q ≤ 50 := by have := HALL.out.2.1; omega
     rw [Nat.mul_one, Nat.add_zero] at p0
     have HY := Lib.hid (And.intro (And.intro hym hyv) (And.intro hgy (And.intro hbl hq)))
     have HD := Lib.hid (And.intro hDl (And.intro hDl1 hD8))
     have hbl2 : bl ≤ 2007 := by have := HALL.out.1 x hxm; omega
     have hbl1 : 6 ≤ bl := hyl.1
     clear hat hca hy0 hx0 hym hxm hyd hyl hxA hry hgy hDD hDl hD8 hDl1 hjl hjA hy1 hy2 hy3 hbl hq hyv
     have hw1 : IntKind.i64.wrap ((q : Int) - 1) = (q : Int) - 1 := by rw [IntKind.wrap_i64]; omega
     have hq6 : (q : Int) ≤ 50 := by omega
     have hbl3 : (bl : Int) ≤ 2007 := by omega
     have hc0 := cell_blk HS.out.log.box 0
     simp only [List.getElem?_toArray, List.getElem?_cons_zero] at hc0
     have HLB : Hid (∀ X, Stay G2 wq X → X.cell? ⟨lg, 0, none⟩ = some (.pointer (some ⟨v, 0, none⟩))) := Lib.hid fun X s => (World.cell?_of_block (s.block (World.block_lt_of_cell? _ _ hc0) (HS.out.foot _ (mem_lfoot.2 (.inl rfl))).1)).trans hc0
     have HLast : Hid (∀ a z, D = a ++ [z] → ∃ g5, a5 = some ⟨g5, 0, none⟩ ∧ wq.cell? ⟨g5, a.length, none⟩ = some (.int .i64 z.length) ∧ q = a.length + 1) := Lib.hid fun a z e => by
      obtain ⟨-, -, -, h5⟩ := HS.out.s5.at TI
      have hl : a.length < (D.map List.length).length := by rw [e]; simp
      obtain ⟨g5, e5, -, -, h5⟩ := h5 a.length hl
      refine ⟨g5, e5, ?_, by rw [HY.out.2.2.2, e]; simp⟩
      have := h5 0 _ rfl
      rw [Nat.mul_one, Nat.add_zero] at this
      rw [this]
      simp [e]
     rcases addD_case D y.d with ⟨a, z, hDa, hz, hAD⟩ | ⟨hDa | ⟨a, z, hDa, hz⟩, hAD⟩
     case' inl =>
      obtain ⟨g5, rfl, h5c, hqa⟩ := HLast.out a z hDa
      rw [← HY.out.2.2.1] at hz
      obtain ⟨al, hal⟩ : ∃ al, al = a.length := ⟨_, rfl⟩
      obtain ⟨zl, hzl⟩ : ∃ zl, zl = z.length := ⟨_, rfl⟩
      rw [← hal] at h5c hqa
      rw [← hzl] at h5c hz
      have k1 : (q : Int) - 1 = (al : Int) := by omega
      have k2 : (al : Int) < (q : Int) := by omega
      have k3 : (zl : Int) + (bl : Int) ≤ 8192 := by omega
      have HA := Lib.hid (And.intro hDa (And.intro hAD (And.intro hal (And.intro hzl hqa))))
      clear hDa hz hAD hal hzl hqa
      go_upto_region 24 with (fail)
     case' inr.inl =>
      have k1 : (q : Int) - 1 < 0 := by rw [HY.out.2.2.2, hDa]; decide
      clear hDa
      go_upto_region 20 with (fail)
     case' inr.inr =>
      obtain ⟨g5, rfl, h5c, hqa⟩ := HLast.out a z hDa
      rw [← HY.out.2.2.1] at hz
      obtain ⟨al, hal⟩ : ∃ al, al = a.length := ⟨_, rfl⟩
      obtain ⟨zl, hzl⟩ : ∃ zl, zl = z.length := ⟨_, rfl⟩
      rw [← hal] at h5c hqa
      rw [← hzl] at h5c hz
      have hzm : zl ≤ 8192 := by rw [hzl]; exact HD.out.2.2 z (by rw [hDa]; simp)
      have k1 : (q : Int) - 1 = (al : Int) := by omega
      have k2 : (al : Int) < (q : Int) := by omega
      have k3 : (8192 : Int) < (zl : Int) + (bl : Int) := by omega
      have k4 : (al : Int) + 1 = (q : Int) := by omega
      have k5 : (zl : Int) ≤ 8192 := by omega
      clear hDa hz hal hzl hqa hzm
      go_upto_region 20 with (fail)
     case' inr.inl | inr.inr =>
      have hrow : ∀ i, q ≤ i → i < 100 → rowM D i = none := fun i hi _ => List.getElem?_eq_none (by rw [← HY.out.2.2.2]; exact hi)
      have HR := Lib.hid fun (X : World) (u : Upd [] wq X) => (HS.out.sg.keep u).create (i := q) hrow (by omega)
      have HNm := Lib.hid fun X : World => sname_ok X q (by omega)
      have hT : Stay G2 wq wq.drew := .of (Upd.refl [] wq).drew
      clear hrow
      go_region_held3 (fun X => X.cell? ⟨lg, 0, none⟩ = some (.pointer (some ⟨v, 0, none⟩)))
       (first
        | (with_reducible exact held1 (Upd.refl [] wq).drew hc0)
        | (with_reducible exact hq7))
       (first
        | (go_at_call 55; (with_reducible refine (HNm.out _).mono ?_); rintro e w6 ⟨rfl, rfl⟩)
        | (go_at_call 11; (with_reducible refine (HR.out _ ?_).mono ?_); (exact (Upd.refl [] wq).drew); rintro e w7 ⟨rfl, hs7, hst7⟩; have hq7 := HLB.out _ (hT.trans hst7)))
      have hs7' : SegV w0 w7 v p room (rowM (D ++ [[]])) (rowM ds) (c + j) G2 := by
       have := hs7
       rwa [HY.out.2.2.2, rowM_snoc] at this
      have H7 := Lib.hid (HS.out.stay (hT.trans hst7) hs7')
      clear hs7 hs7' hst7 hq7 hT HR HNm hc0
      have HQL := Lib.hid (show (D.map List.length).length = q by rw [List.length_map, HY.out.2.2.2])
      go_wp2_with (first
       | (at_builtin; refine wpList_append_G TI rfl _ _ rfl (base := w.heap.size) (l := D.map List.length) (r := [0]) (by rfl) (H7.out.s5.upd ((Upd.refl [] w7).alloc _) (by simp)) (by rfl) (src_new TI (ty := 3) (B := w7.heap.size) (heap_top' _ _ _ rfl)) (oneI _) ?c1 ?c2 ?c3 ?_)
       | fail)
      case c1 => have := HY.out.2.2.2; simp; omega
      case c2 => have := HY.out.2.2.2; simp; omega
      case c3 => have := H7.out.st.size; simp; omega
      intro v8 wz ho8 hg8 hn8
      have HT := Lib.hid (H7.out.turn HP.out.1 HP.out.2.1 (((Upd.refl [] w7).alloc (.cells #[.int .i64 0] 3 (0, 0))).mono (by simp) |>.trans (Upd.ofGrown hg8)) (fun i hi => by simpa using hi) ho8 (hn8.imp id fun q g hg => by have := q g hg; omega))
      obtain ⟨a8, c8, m8, hm8, rfl⟩ := ho8.sliceM
      have hm8' : m8 = q + 1 := by rw [hm8, List.length_append, HQL.out]; rfl
      have HM8 := Lib.hid hm8'
      clear ho8 hg8 hn8 hm8 hm8'
      go_upto_region 24 with (fail)
      generalize hG8 : newB w7 wz ++ G2 = G8 at *
      have HZ : Hid (∃ (A' : List Bs) (z : Bs), Ap2 w0 w wz v p room ds (A' ++ [z]) (c + j) base lg (.slice fa fm fc) (.slice sa sm sc) L (ds.map List.length) (.slice a8 m8 c8) (.slice q6 m6 r6) (.slice (some ⟨g7, 0, none⟩) m7 r7) ((A' ++ [z]).map List.length) L1 M1 G G8 ∧ addD D y.d = A' ++ [z ++ y.d] ∧ q = A'.length ∧ m8 = q + 1 ∧ z.length + bl ≤ 8192 ∧ (∀ d ∈ A' ++ [z], d.length ≤ 8192) ∧ (y.d ≠ [] → ∀ g, (Value.slice ya bl yc).ownBlock = some g → g ∈ G8)) :=
       Lib.hid ⟨D, [], by rw [List.map_append]; exact HT.out, hAD, HY.out.2.2.2, HM8.out, by simp; omega, fun d hd => by
        rcases List.mem_append.1 hd with q | q
        ·exact HD.out.2.2 d q
        ·rw [List.mem_singleton.1 q]; simp, fun hd g hg => by rw [← hG8]; exact List.mem_append_right _ (HY.out.2.1 hd g hg)⟩
      have HYY := Lib.hid (And.intro HY.out.1 HY.out.2.2.1)
      obtain ⟨kk, hkk⟩ : ∃ kk, kk = q := ⟨_, rfl⟩
      subst hkk
      clear HT HM8 hG8 HQL H7 HY HLB HLast hq6 hw1 hAD
     case' pos.inl =>
      have HZ : Hid (∃ (A' : List Bs) (z : Bs), Ap2 w0 w wq v p room ds (A' ++ [z]) (c + j) base lg (.slice fa fm fc) (.slice sa sm sc) L (ds.map List.length) (.slice (some ⟨g5, 0, none⟩) q c5) (.slice q6 m6 r6) (.slice (some ⟨g7, 0, none⟩) m7 r7) ((A' ++ [z]).map List.length) L1 M1 G G2 ∧ addD D y.d = A' ++ [z ++ y.d] ∧ al = A'.length ∧ q = al + 1 ∧ z.length + bl ≤ 8192 ∧ (∀ d ∈ A' ++ [z], d.length ≤ 8192) ∧ (y.d ≠ [] → ∀ g, (Value.slice ya bl yc).ownBlock = some g → g ∈ G2)) :=
       Lib.hid ⟨a, z, by have h := HS.out; rw [HA.out.1] at h; exact h, HA.out.2.1, HA.out.2.2.1, HA.out.2.2.2.2, by rw [← HA.out.2.2.2.1]; omega, fun d hd => HD.out.2.2 d (by rw [HA.out.1]; exact hd), HY.out.2.1⟩
      have HYY := Lib.hid (And.intro HY.out.1 HY.out.2.2.1)
      clear HY HLB HLast HA hq6 hw1 k1 k2 k3 h5c hc0 HS
      obtain ⟨kk, hkk⟩ : ∃ kk, kk = al := ⟨_, rfl⟩
      subst hkk
      obtain ⟨wz, hwz⟩ : ∃ wz, wz = wq := ⟨_, rfl⟩
      subst hwz
      obtain ⟨G8, hG8⟩ : ∃ G8, G8 = G2 := ⟨_, rfl⟩
      subst hG8
      obtain ⟨m8, hm8⟩ : ∃ m8, m8 = q := ⟨_, rfl⟩
      subst hm8
      obtain ⟨c8, hc8⟩ : ∃ c8, c8 = c5 := ⟨_, rfl⟩
      subst hc8
      obtain ⟨a8, ha8⟩ : ∃ a8 : Option Addr, a8 = some ⟨g5, 0, none⟩ := ⟨_, rfl⟩
      rw [← ha8] at HZ ⊢
      clear ha8
     all_goals
      obtain ⟨A', z', hz1⟩ := HZ.out
      have HZ1 := Lib.hid hz1
      clear HZ hz1
      have hc1 := cell_blk HZ1.out.1.log.box 0
      simp only [List.getElem?_toArray, List.getElem?_cons_zero] at hc1
      have HLZ : Hid (∀ X, Stay G8 wz X → X.cell? ⟨lg, 0, none⟩ = some (.pointer (some ⟨v, 0, none⟩))) := Lib.hid fun X s => (World.cell?_of_block (s.block (World.block_lt_of_cell? _ _ hc1) (HZ1.out.1.foot _ (mem_lfoot.2 (.inl rfl))).1)).trans hc1
      have hlenA : A'.length + 1 ≤ 50 ∧ 16 * (A'.length + 1) + 5 ≤ room := by
       have h1 := HD.out.2.1
       have h2 := HALL.out.2
       rw [HZ1.out.2.1, List.length_append, List.length_singleton] at h1
       omega
      have hkk := HZ1.out.2.2.1
      have hrow : ∀ i' y', i' < 100 → rowM (A' ++ [z']) i' = some y' → i' < A'.length + 1 ∧ y'.length ≤ 8192 := fun i' y' _ hy' => by
       obtain ⟨h2, h3⟩ := List.getElem?_eq_some_iff.1 hy'
       exact ⟨by simpa using h2, HZ1.out.2.2.2.2.2.1 y' (by rw [← h3]; exact List.getElem_mem h2)⟩
      have hrd : Rd wz (.slice ya bl yc) y.d := by
       have := HZ1.out.1.ld.dat y HYY.out.1.1
       rwa [HYY.out.1.2] at this
      have hyl := HYY.out.2
      have HR := Lib.hid fun (X : World) (u : Upd [] wz X) => (HZ1.out.1.sg.keep u).append (by omega) (i := kk) (n := A'.length + 1) (x := z') (by omega) (by rw [hkk]; show (A' ++ [z'])[A'.length]? = some z'; simp) (hrd.keep u) (fun hd g hg => .inl (HZ1.out.2.2.2.2.2.2 hd g hg)) hrow (by rw [← hyl]; omega) (by rw [← hyl]; have := HZ1.out.2.2.2.2.1; omega)
      have hkl : kk < 50 := by omega
      have HNm := Lib.hid fun X : World => sname_ok X kk (by omega)
      have hT : Stay G8 wz wz.drew := .of (Upd.refl [] wz).drew
      clear hrow hrd hyl hkk
      go_region_held3 (fun X => X.cell? ⟨lg, 0, none⟩ = some (.pointer (some ⟨v, 0, none⟩)))
       (first
        | (with_reducible exact held1 (Upd.refl [] wz).drew hc1)
        | (with_reducible exact hq7))
       (first
        | (go_at_call 55; (with_reducible refine (HNm.out _).mono ?_); rintro e w6 ⟨rfl, rfl⟩)
        | (go_at_call 13; (with_reducible refine (HR.out _ ?_).mono ?_); (exact (Upd.refl [] wz).drew); rintro e w9 ⟨rfl, hs9, hst9⟩; have hq7 := HLZ.out _ (hT.trans hst9)))
      have hs9' : SegV w0 w9 v p room (rowM (A' ++ [z' ++ y.d])) (rowM ds) (c + j + 1) G8 := by
       have := hs9
       rwa [HZ1.out.2.2.1, rowM_last] at this
      have h9 := HZ1.out.1.stay (hT.trans hst9) hs9'
      obtain ⟨-, -, -, hsat⟩ := h9.s5.at TI
      obtain ⟨g9, rfl, hgb, hgf, hgc⟩ := hsat A'.length (by simp)
      have p5 : w9.cell? ⟨g9, kk, none⟩ = some (.int .i64 z'.length) := by
       have := hgc 0 _ rfl
       rw [Nat.mul_one, Nat.add_zero] at this
       rw [HZ1.out.2.2.1, this]
       simp
      have f5 := hgf kk
      have hm8 : kk < m8 := by have := HZ1.out.2.2.2.1; omega
      have hm8' : (kk : Int) < (m8 : Int) := by omega
      have hz8 : (z'.length : Int) + (bl : Int) ≤ 8192 := by have := HZ1.out.2.2.2.2.1; omega
      have H9 := Lib.hid h9
      clear h9 hsat hgb hgf hgc hs9 hs9' hst9 hq7 hT HR HNm hc1
      have h10 : OwI (w9.setCell ⟨g9, kk, none⟩ (.int .i64 ((z'.length : Int) + (bl : Int)))) w.heap.size (.slice (some ⟨g9, 0, none⟩) m8 c8) ((A' ++ [z' ++ y.d]).map List.length) := by
       have h5 := H9.out.s5
       rw [List.map_append] at h5
       have h := OwnG.setLastI (l := A'.map List.length) (x := z'.length) h5 (z'.length + bl)
       rw [List.length_map, ← HZ1.out.2.2.1, Int.natCast_add] at h
       rw [List.map_append]
       simp only [List.map_cons, List.map_nil, List.length_append, ← HYY.out.2]
       exact h
      have H10 := Lib.hid (H9.out.turn HP.out.1 HP.out.2.1 ((Upd.refl [g9] w9).setCell (List.mem_singleton.2 rfl) kk _) (fun i hi => by rw [List.mem_singleton.1 hi]; rfl) h10 (.inl rfl))
      have hDe : addsD ds ((A.map FrR.fr).take (j + 1)) = A' ++ [z' ++ y.d] := HDn.out.trans HZ1.out.2.1
      rw [← hDe] at H10
      clear h10 hDe
      go_wp2_with fail
      go_roundg (m7 + 1 - (j + 1))
      case measure => omega
      case rel => exact ⟨j + 1, _, by go_num, by omega, rfl, H10⟩
    ·obtain rfl : j = m7 := by omega
     have hjm : ¬ (j : Int) < (j : Int) := Int.lt_irrefl _
     obtain ⟨a5, c5, q, hq, rfl⟩ := HS.out.s5.sliceM
     have hDe : addsD ds ((A.map FrR.fr).take j) = addsD ds (A.map FrR.fr) := by rw [List.take_of_length_le (by rw [List.length_map, ← HN.out]; exact Nat.le_refl _)]
     rw [hDe] at HS
     have hc0 := cell_blk HS.out.log.box 0
     simp only [List.getElem?_toArray, List.getElem?_cons_zero] at hc0
     have HSy := Lib.hid (HS.out.sg.sync (by omega))
     clear hDe hq
     go_wp2_with fail
     refine HSy.out.mono ?_
     rintro e w9 ⟨rfl, hs9, hst9⟩
     have H9 := Lib.hid (And.intro hs9 hst9)
     obtain ⟨F9, u9, hF9⟩ := hst9
     have hlog := HS.out.log.upd u9 fun i hi => hF9 i (HS.out.foot i hi).1
     have hfr := HS.out.fr.upd u9 fun i hi => hF9 i (HS.out.g6 i hi)
     have p1 := cell_blk hlog.box 1
     have p2 := cell_blk hlog.box 2
     have f1 := frozen_blk hlog.box 1
     have f2 := frozen_blk hlog.box 2
     simp only [List.getElem?_toArray, List.getElem?_cons_zero, List.getElem?_cons_succ] at p1 p2
     have hm6 : m6 = L1.length := (hfr.own.at TFr).1
     have HM6 := Lib.hid hm6
     have HLF := Lib.hid (And.intro hlog hfr)
     have hbs := HLF.out.1.lt lg (mem_lfoot.2 (.inl rfl))
     clear hs9 hlog hfr hm6 u9 hF9 hc0 HSy
     go_wp2_with (first
      | (at_builtin; refine wpList_append_G TFr rfl _ _ rfl (base := base) (l := L) (r := L1) (by rfl) HLF.out.1.fr.own (by rw [← HM6.out]; rfl) (OwnG.src TFr HLF.out.2.own) (oneFr HLF.out.2.dat) ?c1 ?c2 ?c3 ?_)
      | fail)
     case c1 => have := HE.out.2.2.1; omega
     case c2 => have := HE.out.2.2.1; omega
     case c3 => omega
     intro v8 w10 ho8 hg8 hn8
     have hbx := ((Upd.ofGrown hg8).block lg (lt_of_blk HLF.out.1.box) fun q => HLF.out.1.s1 (mem_ffoot.2 (.inl (by simpa using q)))).trans HLF.out.1.box
     have g1 := cell_blk hbx 1
     have g2 := cell_blk hbx 2
     have e1 := frozen_blk hbx 1
     have e2 := frozen_blk hbx 2
     simp only [List.getElem?_toArray, List.getElem?_cons_zero, List.getElem?_cons_succ] at g1 g2
     have HFin := Lib.hid (HS.out.fin HH.out.low hbw H9.out.2 H9.out.1 rfl HP.out.2.2.2.2.2 ho8 hg8 hn8 rfl)
     obtain ⟨a8, c8, m8, hm8, rfl⟩ := ho8.sliceM
     clear hbx ho8 hg8 hn8 hm8
     go_wp2_with fail
     go_ret
     obtain ⟨G', h1, h2, h3⟩ := HFin.out
     have e6 := HE.out.1
     rw [List.take_of_length_le (by rw [List.length_map, ← HN.out]; exact Nat.le_refl _)] at e6
     exact .inl ⟨HALL.out.1, rfl, _, _, L1, G', h1, e6, h2, h3⟩
end Go.Proofs.YtgpefiacbipfpaaGreatDoor

namespace Go.Proofs.YtgpefiacbipfpaaGreatDoor
open Go.RowKit Go.Maps
attribute [local go_sem] Oper.semAt_some
theorem stab_rd {C : Nat} {v : Value} {d : Bs} : Stab C fun W => Rd W v d := fun X Y F h u hr => by
 refine h.upd1 u fun hd g hg hF => ?_
 obtain ⟨-, o, ho, hn⟩ := hr g hF
 obtain ⟨a, c, rfl, h1, h2, h3⟩ := h.slice
 obtain ⟨-, -, -, hcell⟩ := h.cell
 obtain ⟨b, off, rfl, hc⟩ := hcell (List.length_pos_iff.2 hd)
 cases hg
 have := hc 0 (List.length_pos_iff.2 hd)
 simp only [World.cell?, ho] at this
 cases o <;> first | (cases hn; done) | (simp at this)
theorem stab_frs {C base : Nat} {fv : Value} {L : List FrR} : Stab C fun W => FrsS W base fv L := fun X Y F h u hr =>
 ⟨stab_own X Y F h.own u hr, fun x hx => stab_rd X Y F (h.dat x hx) u hr, h.sep⟩
def numF : Nat → List Frm → List (Nat × Frm)
 | _, [] => []
 | k, x :: l => (k, x) :: numF (k + 1) l
theorem numF_len : ∀ (l : List Frm) (k : Nat), (numF k l).length = l.length
 | [], _ => rfl
 | _ :: l, k => congrArg (· + 1) (numF_len l (k + 1))
theorem numF_snd : ∀ (l : List Frm) (k : Nat), (numF k l).map (·.2) = l
 | [], _ => rfl
 | _ :: l, k => congrArg (List.cons _) (numF_snd l (k + 1))
theorem numF_get : ∀ (l : List Frm) (k i : Nat), (numF k l)[i]? = l[i]?.map fun x => (k + i, x)
 | [], _, _ => rfl
 | _ :: _, _, 0 => rfl
 | _ :: l, k, i + 1 => by
  show (numF (k + 1) l)[i]? = _
  rw [numF_get l (k + 1) i, show k + 1 + i = k + (i + 1) by omega]; rfl
theorem numF_step {l : List Frm} {i : Nat} {x : Frm} (h : l[i]? = some x) : (numF 0 l).take (i + 1) = (numF 0 l).take i ++ [(i, x)] := by
 rw [List.take_add_one, numF_get, h]; simp
theorem numF_pre {l : List Frm} {pre : List (Nat × Frm)} {x : Nat × Frm} (h : pre ++ [x] <+: numF 0 l) : x.1 = pre.length ∧ l[pre.length]? = some x.2 ∧ pre.map (·.2) = l.take pre.length := by
 obtain ⟨t, ht⟩ := h
 have h1 : (numF 0 l)[pre.length]? = some x := by rw [← ht]; simp
 rw [numF_get] at h1
 cases hl : l[pre.length]? with
 | none => rw [hl] at h1; cases h1
 | some y =>
  rw [hl] at h1
  simp only [Option.map_some, Nat.zero_add, Option.some.injEq] at h1
  subst h1
  refine ⟨rfl, rfl, ?_⟩
  have := congrArg (fun z => (z.map (·.2)).take pre.length) ht
  simp only [numF_snd, List.map_append, List.append_assoc] at this
  rw [List.take_append_of_le_length (by simp), List.take_of_length_le (by simp)] at this
  exact this
def KpN (N : Nat) (X Y : World) : Prop := ∃ F, Upd F X Y ∧ ∀ i ∈ F, N ≤ i
theorem KpN.u {N : Nat} {X Y : World} (u : Upd [] X Y) : KpN N X Y := ⟨[], u, by simp⟩
theorem KpN.t {N : Nat} {A B C : World} (h : KpN N A B) (g : KpN N B C) : KpN N A C := by
 obtain ⟨F, u, hF⟩ := h
 obtain ⟨G, v, hG⟩ := g
 exact ⟨F ++ G, (u.mono fun k hk _ => List.mem_append_left _ hk).next v fun k hk _ => List.mem_append_right _ hk, fun i hi => (List.mem_append.1 hi).elim (hF i) (hG i)⟩
theorem KpN.b {N : Nat} (W : World) (l : Nat) (o : Obj) (h : N ≤ l) : KpN N W (W.putObj l o) := ⟨[l], Upd.putObj l o, fun i hi => by rw [List.mem_singleton.1 hi]; exact h⟩
theorem LogS.kp {w w' : World} {N base l v : Nat} {fv sv : Value} {L : List FrR} {sz : List Nat} (h : LogS w base l v fv sv L sz) (hN : ∀ i ∈ lfoot l fv sv L, i < N) (k : KpN N w w') : LogS w' base l v fv sv L sz := by
 obtain ⟨F, u, hF⟩ := k
 exact h.upd u fun i hi q => by have := hN i hi; have := hF i q; omega
def EncF (x : Nat × Frm) (vs : Array Value) (b : Nat) (W : World) : Prop := ∃ v', vs = #[.int .i64 x.1, .agg #[.int .u8 x.2.1.toNat, v']] ∧ Ow W b v' x.2.2
set_option maxRecDepth 100000 in
set_option maxHeartbeats 4000000 in
theorem lall1_in (n l Bm N lg base v : Nat) (fv sv : Value) (L : List FrR) (sz : List Nat) (hlen : L.length ≤ 100000) (hsm : ∀ x ∈ L, x.d.length ≤ 100000) (J Jx : List (Nat × Frm) → World → Prop)
  (hJ : ∀ s X Y, J s X → Upd [] X Y → J s Y)
  (hY : ∀ pre x vs W0 W1, J pre W0 → Upd [] W0 W1 → EncF x vs W0.heap.size W1 → pre ++ [x] <+: numF 0 (L.map FrR.fr) → YieldAt Fence.wide (n - 1) Tryz.prog l vs W1 fun e W' => (e = .returned (.bool true) ∧ J (pre ++ [x]) W' ∧ KpN N W1 W') ∨ (e = .returned (.bool false) ∧ Jx (pre ++ [x]) W')) (W : World) (hN : ∀ i ∈ lfoot lg fv sv L, i < N) (hcB : W.cell? ⟨Bm, 0, none⟩ = some (.pointer (some ⟨lg, 0, none⟩))) (h : LogS W base lg v fv sv L sz) (h0 : J [] W) :
  Calls Tryz.prog 118 #[.func (.yield l) #[] #[], .pointer (some ⟨Bm, 0, none⟩)] W fun e W' => (∃ v, e = .returned v) ∧ (J (numF 0 (L.map FrR.fr)) W' ∨ ∃ pre, pre <+: numF 0 (L.map FrR.fr) ∧ Jx pre W') := by
 obtain ⟨a0, c0, hfv⟩ := h.fr.own.slice
 obtain ⟨-, hc1, hc2, hat⟩ := (hfv ▸ h.fr.own).at TFr
 obtain ⟨m, hm⟩ : ∃ m, m = L.length := ⟨_, rfl⟩
 rw [← hm] at hfv hc1 hlen
 subst hfv
 have b0 := cell_blk h.box 0
 have b1 := cell_blk h.box 1
 simp only [List.getElem?_toArray, List.getElem?_cons_zero, List.getElem?_cons_succ] at b0 b1
 unfold maxLen at hc2
 have HH := Lib.hid h
 have HJ0 := Lib.hid h0
 have HM := Lib.hid hm
 have HJS := Lib.hid hJ
 have HYY := Lib.hid hY
 clear h h0 hm hJ hY hat
 go_enter Tryz.func118, Tryz.ntmps118
 go_wp2_with fail
 go_quiet (fail)
 have hu0 : Upd [] W (W.drewN nq) := (Upd.refl [] W).drewN nq
 generalize W.drewN nq = W1 at *
 have HH1 := Lib.hid (HH.out.keep hu0)
 have HJ1 := Lib.hid (HJS.out _ _ _ HJ0.out hu0)
 clear hu0 HH HJ0 b0 b1 hcB
 go_upto_region 2 with (fail)
 refine (wpIn_wide (n := n)).1 ?_
 gi_loopw [23] (fun i wr => ∃ k : Nat, i = .int .i64 k ∧ k ≤ m ∧ Hid (J ((numF 0 (L.map FrR.fr)).take k) wr ∧ LogS wr base lg v (.slice a0 m c0) sv L sz)) (fun i _ => m + 1 - (intOf i).toNat)
 case atStart => exact ⟨0, rfl, Nat.zero_le _, Lib.hid ⟨HJ1.out, HH1.out⟩⟩
 case round =>
  clear HJ1 HH1
  obtain ⟨k, rfl, hk, HR⟩ := hrel
  generalize wr = wo at *
  by_cases hkm : k < m
  ·have hkm' : (k : Int) < (m : Int) := by omega
   have hkl : k < L.length := by rw [← HM.out]; exact hkm
   obtain ⟨-, -, -, hat⟩ := HR.out.2.fr.own.at TFr
   obtain ⟨g, rfl, hgb, -, hca⟩ := hat k hkl
   have hrd := HR.out.2.fr.dat L[k] (List.getElem_mem hkl)
   have hsk := hsm L[k] (List.getElem_mem hkl)
   have p0 := hca 0 _ rfl
   have p1 := hca 1 _ rfl
   have hst : (numF 0 (L.map FrR.fr)).take (k + 1) = (numF 0 (L.map FrR.fr)).take k ++ [(k, L[k].fr)] := numF_step (by rw [List.getElem?_map, List.getElem?_eq_getElem hkl]; rfl)
   have HST := Lib.hid hst
   obtain ⟨x, hx⟩ : ∃ x, x = L[k] := ⟨_, rfl⟩
   rw [← hx] at hrd hsk p0 p1 HST
   obtain ⟨xa, xc, hxd, -⟩ := hrd.slice
   obtain ⟨xm, hxm⟩ : ∃ xm, xm = x.d.length := ⟨_, rfl⟩
   rw [← hxm] at hxd
   rw [hxd] at p1 hrd
   have HRD := Lib.hid hrd
   have HSK := Lib.hid hsk
   clear hat hca hrd hsk hst hx hxm hkl hxd
   rw [Nat.add_zero] at p0
   gi_wp2
   have hua := (Upd.refl [] wo).alloc (.cells #[.int .u8 x.k.toNat, .slice xa xm xc] 25 (0, 0))
   refine ⟨trivial, (fun h => by cases h), (callsIn_wide.2 (own_ok _ x.k (HRD.out.keep hua) (Nat.le_trans HSK.out (by omega)))).mono ?_⟩
   rintro e w6 ⟨v6, rfl, ho6, hu6⟩
   have hu7 : Upd [] wo w6 := hua.trans hu6
   obtain ⟨fn, tmps, assign, body, hy, hR⟩ := HYY.out ((numF 0 (L.map FrR.fr)).take k) (k, x.fr) _ wo w6 HR.out.1 hu7 ⟨v6, rfl, ho6.base (Nat.le_trans (Nat.le_refl _) hua.size)⟩ (by rw [← HST.out]; exact List.take_prefix _ _)
   have HL6 := Lib.hid (HR.out.2.keep hu7)
   clear hua hu6 hu7 ho6 p0 p1
   change Sem.run Tryz.prog (Instr.yield l #[.int .i64 (k : Int), .agg #[.int .u8 x.k.toNat, v6]]) w6 = _ at hy
   gi_wp2
   refine ⟨(fun h => by cases h), hR.mono ?_⟩
   rintro e W3 (⟨rfl, hJ3, hk3⟩ | ⟨rfl, hJx3⟩)
   ·have H3 := Lib.hid (And.intro hJ3 (HL6.out.kp hN hk3))
    clear hJ3 hk3 hy hR
    gi_wp2
    go_roundw
    case rel => exact ⟨k + 1, by simp, by omega, Lib.hid ⟨by rw [HST.out]; exact H3.out.1, H3.out.2⟩⟩
    case measure => simp only [intOf]; omega
   ·clear hy hR
    gi_wp2
    refine bodyPost_ret (results_none rfl _ _ _) rfl ?_
    exact ⟨⟨_, rfl⟩, .inr ⟨_, (by rw [← HST.out]; exact List.take_prefix _ _), hJx3⟩⟩
  ·have hkm' : ¬ (k : Int) < (m : Int) := by omega
   gi_wp2
   go_end0
   have hf : (numF 0 (L.map FrR.fr)).take k = numF 0 (L.map FrR.fr) := List.take_of_length_le (by rw [numF_len, List.length_map, ← HM.out]; omega)
   exact ⟨⟨_, rfl⟩, .inl (by rw [← hf]; exact HR.out.1)⟩
theorem lall_seq (n : Nat) {w0 : World} {Bm N lg base v : Nat} {fv sv : Value} {L : List FrR} {sz : List Nat} (hN : ∀ i ∈ lfoot lg fv sv L, i < N) (hcB : w0.cell? ⟨Bm, 0, none⟩ = some (.pointer (some ⟨lg, 0, none⟩))) (h : LogS w0 base lg v fv sv L sz) (hlen : L.length ≤ 100000) (hsm : ∀ x ∈ L, x.d.length ≤ 100000) :
  SeqV n Tryz.prog 118 #[.pointer (some ⟨Bm, 0, none⟩)] EncF (KpN N) (numF 0 (L.map FrR.fr)) w0 :=
 fun l J Jx W hW hJ _ hY h0 => callsIn_wide.2 (lall1_in n l Bm N lg base v fv sv L sz hlen hsm J Jx hJ hY W hN (cell_keep hW hcB) (h.keep hW) h0)
theorem lall_ok (w : World) (p : Option Addr) : Calls Tryz.prog 60 #[.pointer p] w fun e w' => e = .returned (.func (.func 118) #[] #[.pointer (some ⟨w.heap.size, 0, none⟩)]) ∧ w' = w.alloc (.cells #[.pointer p] 40 (0, 0)) := by
 go_enter Tryz.func60, Tryz.ntmps60
 go_wp2_with fail
 go_ret
 exact ⟨rfl, rfl⟩
set_option maxRecDepth 100000 in
set_option maxHeartbeats 4000000 in
theorem llen_ok (w : World) {base lg v : Nat} {fv sv : Value} {L : List FrR} {sz : List Nat} (h : LogS w base lg v fv sv L sz) (hlen : L.length ≤ 100000) (hsm : ∀ x ∈ L, x.d.length ≤ 100000) :
  Calls Tryz.prog 21 #[.pointer (some ⟨lg, 0, none⟩)] w fun e w' => e = .returned (.int .i64 L.length) ∧ Upd [] w w' := by
 refine (callsIn_wide (n := 6)).1 ?_
 refine callsIn_of_wp_marks Tryz.func21 rfl trivial ?_ rfl
 simp only [Tryz.ntmps21, List.size_toArray, List.length_cons, List.length_nil, Nat.reduceAdd, Nat.reduceSub, Array.replicate_succ, Array.replicate_zero, List.push_toArray, List.append_toArray, List.nil_append, List.cons_append]
 gi_wp2
 refine ⟨trivial, (callsIn_wide.2 (lall_ok _ _)).mono ?_⟩
 rintro e w' ⟨rfl, rfl⟩
 have hb0 := heap_keepA (.cells #[.pointer (some ⟨lg, 0, none⟩)] 40 (0, 0)) (heap_top w (.cells #[.int .i64 0] 3 (0, 0)))
 have hbm := heap_top (w.alloc (.cells #[.int .i64 0] 3 (0, 0))) (.cells #[.pointer (some ⟨lg, 0, none⟩)] 40 (0, 0))
 have hu : Upd [] w ((w.alloc (.cells #[.int .i64 0] 3 (0, 0))).alloc (.cells #[.pointer (some ⟨lg, 0, none⟩)] 40 (0, 0))) := ((Upd.refl [] w).alloc _).alloc _
 rw [World.size_alloc] at hbm
 try rw [World.size_alloc]
 generalize (w.alloc (.cells #[.int .i64 0] 3 (0, 0))).alloc (.cells #[.pointer (some ⟨lg, 0, none⟩)] 40 (0, 0)) = W0 at *
 gi_wp2
 have hsz : w.heap.size + 1 < W0.heap.size := lt_of_blk hbm
 refine wp_rangeV (gf := 118) (lb := #[.pointer (some ⟨w.heap.size + 1, 0, none⟩)]) rfl (enters_of Tryz.func118 (by kernel_rfl) rfl)
  (lall_seq 5 (N := w.heap.size) (fun i hi => (h.lt i hi).2) (cell_blk hbm 0) (h.keep hu) hlen hsm) KpN.t (fun W l o o' hl _ _ => KpN.b W l o' (by omega)) (Upd.refl [] _) (fun _ _ _ _ ⟨_, e, _⟩ => by rw [e]; rfl)
  (fun pre W => W.heap[w.heap.size]? = some (.cells #[.int .i64 pre.length] 3 (0, 0)) ∧ Upd [] w W ∧ W0.heap.size ≤ W.heap.size)
  (fun _ _ _ => False)
  (fun _ => (stab_blk rfl).and ((stab_upd (by omega)).and stab_size))
  (fun _ _ => stab_pure)
  ⟨hb0, hu, Nat.le_refl _⟩
  (fun _ x a' W => ∃ i6 i7, a' = { tmps := #[.pointer (some ⟨lg, 0, none⟩), undef, .int .i64 0, .pointer (some ⟨w.heap.size, 0, none⟩), .pointer (some ⟨lg, 0, none⟩), .func (.func 118) #[] #[.pointer (some ⟨w.heap.size + 1, 0, none⟩)], i6, i7, undef, undef, undef], defers := [] })
  (fun _ _ _ => stab_pure)
  ?assign ?body ?done ?stop
 case assign =>
  rintro l pre x vs V W K ⟨hi1, hi2, hi3⟩ hvw ⟨v', rfl, -⟩ hK
  gi_wp2
  exact hK _ _ (KeepsOthers.refl _) (KpN.u (Upd.refl [] W)) ⟨heap_keepU hvw hi1, hi2.trans hvw, Nat.le_trans hi3 hvw.size⟩ ⟨.int .i64 x.1, .agg #[.int .u8 x.2.1.toNat, v'], by first | rfl | simp⟩
 case body =>
  rintro l pre x a' W ⟨hi1, hi2, hi3⟩ ⟨i6, i7, rfl⟩ hpre
  have c0 := cell_blk hi1 0
  have f0 := frozen_blk hi1 0
  simp only [List.getElem?_toArray, List.getElem?_cons_zero] at c0
  have hlt : (pre.length : Int) + 1 ≤ 100000 := by
   have := hpre.length_le
   rw [numF_len, List.length_map, List.length_append] at this
   simp at this
   omega
  clear hpre
  gi_wp2
  refine ⟨KeepsOthers.setCell _ _ _, ⟨[w.heap.size], (Upd.refl _ W).setCell (by simp) _ _, by simp⟩, ?_, hi2.setCellNew (Nat.le_refl _) _ _, by rw [World.size_setCell]; exact hi3⟩
  rw [List.length_append, List.length_singleton, Int.natCast_add]
  exact setBox hi1 _
 case done =>
  rintro D W hD ⟨hi1, hi2, hi3⟩ hK
  have c0 := cell_blk hi1 0
  simp only [List.getElem?_toArray, List.getElem?_cons_zero] at c0
  gi_wp2
  refine ⟨by simp, .inl ⟨_, _, rfl, run_takeDeferred hK, ?_⟩⟩
  refine ⟨_, results_tmp rfl _ _ _, ?_, hi2.next (Upd.putObj D _) (by simp; omega)⟩
  rw [numF_len, List.length_map]
  rfl
 case stop =>
  rintro D c pre W _ _ h _
  exact h.elim
end Go.Proofs.YtgpefiacbipfpaaGreatDoor
