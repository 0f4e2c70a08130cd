/- Segment: a file system that rests while another one works. Segment: frames in one go, or one by one: the walk of SegmentGroups. Segment: bytes, ends and frames as SegmentCuts builds them. Segment: a log that is cut anywhere keeps the frames that are whole ahead of the cut: the walk of SegmentCuts. -/
import Derived.Test.YtgpefiacbipfpaaGreatDoorC36
namespace Go.Proofs.YtgpefiacbipfpaaGreatDoor
open Go.RowKit Go.Maps
section
variable {w0 w w' : World} {v p room c : Nat} {m ml : Nat → Option Bs} {G P : List Nat}
end
section
variable {w W W' : World} {v1 p1 v2 p2 room c1 c2 b1 b2 lg1 lg2 : Nat} {ds1 ds2 : List Bs} {f1 s1 f2 s2 : Value} {L1 L2 : List FrR} {K : List Nat}
end
end Go.Proofs.YtgpefiacbipfpaaGreatDoor

namespace Go.Proofs.YtgpefiacbipfpaaGreatDoor
open Go.RowKit Go.Maps
theorem frs_len {L M : List FrR} (h : L.map FrR.fr = M.map FrR.fr) {k : Nat} (hm : ∀ x ∈ M, x.d.length ≤ k) : ∀ x ∈ L, x.d.length ≤ k := fun x hx => by
 have : x.fr ∈ M.map FrR.fr := by rw [← h]; exact List.mem_map.2 ⟨x, hx, rfl⟩
 obtain ⟨y, hy, e⟩ := List.mem_map.1 this
 have := hm y hy
 rw [show x.d = y.d from congrArg (·.2) e.symm]
 exact this
end Go.Proofs.YtgpefiacbipfpaaGreatDoor

namespace Go.Proofs.YtgpefiacbipfpaaGreatDoor
open Go.RowKit Go.Maps
theorem OwnG.apart {α β : Type} {f : α → List Value} {g : β → List Value} {e e' : TypeId} {k k' : Nat} {w : World} {base base' : Nat} {v v' : Value} {l : List α} {l' : List β} (h : OwnG f e k w base v l) (h' : OwnG g e' k' w base' v' l') (he : e ≠ e') : ∀ b, v.ownBlock = some b → v'.ownBlock ≠ some b := by
 intro b hb hb'
 rcases h.2 with ⟨hv, -⟩ | ⟨B, cap, cur, hv, -, hB, -⟩
 ·rw [hv] at hb; cases hb
 ·rcases h'.2 with ⟨hv', -⟩ | ⟨B', cap', cur', hv', -, hB', -⟩
  ·rw [hv'] at hb'; cases hb'
  ·rw [hv] at hb
   rw [hv'] at hb'
   cases hb
   cases hb'
   rw [hB] at hB'
   cases hB'
   exact he rfl
def endsF (l : List Frm) : List Nat := (List.range l.length).map fun i => (encF (l.take (i + 1))).length
theorem endsF_snoc (l : List Frm) (x : Frm) : endsF (l ++ [x]) = endsF l ++ [(encF (l ++ [x])).length] := by
 unfold endsF
 rw [List.length_append, List.length_singleton, List.range_succ, List.map_append, List.map_singleton, List.take_of_length_le (by simp)]
 congr 1
 refine List.map_congr_left fun i hi => ?_
 rw [List.mem_range] at hi
 rw [List.take_append_of_le_length (by omega)]
theorem endsF_len (l : List Frm) : (endsF l).length = l.length := by simp [endsF]
theorem endsF_at {l : List Frm} {i : Nat} (h : i < (endsF l).length) : (endsF l)[i] = (encF (l.take (i + 1))).length := by simp [endsF]
structure CutS (w0 w wr : World) (dv ev gv : Value) (GL : List FrR) : Prop where
 upd : Upd [] w wr
 dat : Ow wr w.heap.size dv (encF (GL.map FrR.fr))
 ends : OwI wr w.heap.size ev (endsF (GL.map FrR.fr))
 row : OwFr wr w.heap.size gv GL
 sml : ∀ x ∈ GL, Rd w0 x.dv x.d ∧ x.d.length ≤ 2000
 few : (encF (GL.map FrR.fr)).length ≤ 8000
section
variable {w0 w wr w5 w6 w7 w8 : World} {dv ev gv v6 v7 v8 : Value} {GL : List FrR}
theorem CutS.keep {w' : World} (h : CutS w0 w wr dv ev gv GL) (u : Upd [] wr w') : CutS w0 w w' dv ev gv GL :=
 ⟨h.upd.trans u, h.dat.upd u (by simp), h.ends.upd u (by simp), h.row.upd u (by simp), h.sml, h.few⟩
theorem CutS.ends6 (h : CutS w0 w w5 dv ev gv GL) (hg6 : w5.grownBy w6 dv.ownBlock) (o : Obj) : OwI (w6.alloc o) w.heap.size ev (endsF (GL.map FrR.fr)) :=
 (h.ends.upd (Upd.ofGrown hg6) fun j hj => h.dat.apart h.ends (by decide) j (by simpa using hj)).upd ((Upd.refl [] w6).alloc o) (by simp)
theorem CutS.row6 (h : CutS w0 w w5 dv ev gv GL) (hg6 : w5.grownBy w6 dv.ownBlock) (o : Obj) : OwFr (w6.alloc o) w.heap.size gv GL :=
 (h.row.upd (Upd.ofGrown hg6) fun j hj => h.dat.apart h.row (by decide) j (by simpa using hj)).upd ((Upd.refl [] w6).alloc o) (by simp)
theorem CutS.row7 (h : CutS w0 w w5 dv ev gv GL) (hg6 : w5.grownBy w6 dv.ownBlock) {o1 : Obj} (hg7 : (w6.alloc o1).grownBy w7 ev.ownBlock) (o : Obj) : OwFr (w7.alloc o) w.heap.size gv GL :=
 ((h.row6 hg6 o1).upd (Upd.ofGrown hg7) fun j hj => (h.ends6 hg6 o1).apart (h.row6 hg6 o1) (by decide) j (by simpa using hj)).upd ((Upd.refl [] w7).alloc o) (by simp)
theorem CutS.next (h : CutS w0 w w5 dv ev gv GL) {x : FrR} {o1 o2 : Obj} (hx : Rd w0 x.dv x.d ∧ x.d.length ≤ 2000) (hf : (encF (GL.map FrR.fr) ++ putFrame x.k x.d).length ≤ 8000)
  (ho6 : Ow w6 w.heap.size v6 (encF (GL.map FrR.fr) ++ putFrame x.k x.d)) (hg6 : w5.grownBy w6 dv.ownBlock)
  (ho7 : OwI w7 w.heap.size v7 (endsF (GL.map FrR.fr) ++ [(encF (GL.map FrR.fr) ++ putFrame x.k x.d).length])) (hg7 : (w6.alloc o1).grownBy w7 ev.ownBlock)
  (ho8 : OwFr w8 w.heap.size v8 (GL ++ [x])) (hg8 : (w7.alloc o2).grownBy w8 gv.ownBlock) : CutS w0 w w8 v6 v7 v8 (GL ++ [x]) := by
 have hm : (GL ++ [x]).map FrR.fr = GL.map FrR.fr ++ [x.fr] := by rw [List.map_append]; rfl
 have he : encF ((GL ++ [x]).map FrR.fr) = encF (GL.map FrR.fr) ++ putFrame x.k x.d := by rw [hm, encF_app, encF_one]; rfl
 have hn : endsF ((GL ++ [x]).map FrR.fr) = endsF (GL.map FrR.fr) ++ [(encF (GL.map FrR.fr) ++ putFrame x.k x.d).length] := by rw [hm, endsF_snoc, ← hm, he]
 have a6 := ho6.upd ((Upd.refl [] w6).alloc o1) (by simp)
 have a7 := a6.upd (Upd.ofGrown hg7) fun j hj => (h.ends6 hg6 o1).apart a6 (by decide) j (by simpa using hj)
 have a7' := a7.upd ((Upd.refl [] w7).alloc o2) (by simp)
 have b7' := ho7.upd ((Upd.refl [] w7).alloc o2) (by simp)
 have c7 := h.row7 hg6 hg7 o2
 refine ⟨((((h.upd.grown hg6 fun k hk => (h.dat.block k hk).1).alloc o1).grown hg7 fun k hk => (h.ends.block k hk).1).alloc o2).grown hg8 fun k hk => (h.row.block k hk).1, ?_, ?_, ho8, fun y hy => ?_, by rw [he]; exact hf⟩
 ·rw [he]
  exact a7'.upd (Upd.ofGrown hg8) fun j hj => c7.apart a7' (by decide) j (by simpa using hj)
 ·rw [hn]
  exact b7'.upd (Upd.ofGrown hg8) fun j hj => c7.apart b7' (by decide) j (by simpa using hj)
 ·rcases List.mem_append.1 hy with q | q
  ·exact h.sml y q
  ·rw [List.mem_singleton.1 q]; exact hx
theorem CutS.nil (w0 w : World) : CutS w0 w w (.slice none 0 0) (.slice none 0 0) (.slice none 0 0) [] :=
 ⟨Upd.refl _ _, OwnG.nil _ _, OwnG.nil _ _, OwnG.nil _ _, by simp, by simp [encF_nil]⟩
end
theorem RdFs.headC {w : World} {a : Option Addr} {n c : Nat} {L : List FrR} (h : RdFs w (.slice a n c) L) {m : Nat} (hm : m ≤ n) : RdFs w (.slice a m c) (L.take m) := by
 obtain ⟨a', c', hv, h1, h2, hcell⟩ := h.row.sl
 have hnl := h.row.nl
 simp only [Value.slice.injEq] at hv
 obtain ⟨rfl, rfl, rfl⟩ := hv
 have hl : (L.take m).length = m := by rw [List.length_take]; omega
 refine ⟨⟨⟨a, c, by rw [hl], by rw [hl]; omega, h2, fun i hi => ?_⟩, fun n c e => ?_⟩, fun x hx => h.dat x (List.mem_of_mem_take hx)⟩
 ·rw [hl] at hi
  obtain ⟨b, off, e, hc⟩ := hcell i (by omega)
  refine ⟨b, off, e, ?_⟩
  rw [List.getElem_take]
  exact hc
 ·injection e with e1 e2 e3
  subst e1 e3
  exact hnl _ _ rfl
theorem cut_row (x : Bs) : setM (setM (rowM []) 0 (some [])) 0 (some ([] ++ x)) = rowM [x] := by
 funext i
 unfold setM rowM
 cases i with
 | zero => rfl
 | succ i => rfl
theorem cut_rooms {x : Nat → Option Bs} (hx : x = setM (rowM []) 0 (some [])) : ∀ j y, j < 100 → x j = some y → j < 1 ∧ y.length ≤ 8192 := by
 intro j y _ h
 rw [hx] at h
 unfold setM rowM at h
 split at h
 ·cases h
  exact ⟨by omega, by simp⟩
 ·simp at h
theorem cut_open (l : List Frm) (hl : ∀ x ∈ l, x.2.length ≤ 2000) (c : Nat) : (openD [(encF l).take c]).2.2 = l.take (wholeF l c) ∧ (openD [(encF l).take c]).1.length ≤ 1 ∧ ∀ d ∈ (openD [(encF l).take c]).1, d.length ≤ c := by
 have h := scan_cut l hl c
 by_cases hb : (scanB ((encF l).take c)).2 = ((encF l).take c).length
 ·rw [openD_whole hb, h]
  refine ⟨by show _ ++ [] = _; rw [List.append_nil], Nat.le_refl _, fun d hd => ?_⟩
  rw [List.mem_singleton.1 hd, List.length_take]
  omega
 ·rw [openD_torn hb, h]
  refine ⟨rfl, Nat.le_refl _, fun d hd => ?_⟩
  rw [List.mem_singleton.1 hd, List.length_take, List.length_take]
  omega
theorem addD_len1 (D : List Bs) (b : Bs) : (addD D b).length ≤ D.length + 1 := by
 rcases addD_case D b with ⟨a, y, rfl, -, e⟩ | ⟨-, e⟩
 ·rw [e]; simp
 ·rw [e]; simp
theorem blk_keepA {w : World} {b : Nat} {o o' : Obj} (h : w.heap[b]? = some o) : (w.alloc o').heap[b]? = some o := blk_keepU ((Upd.refl [] w).alloc o') h
theorem blk_keepD {w : World} {b : Nat} {o : Obj} (h : w.heap[b]? = some o) : w.drew.heap[b]? = some o := h
theorem src_lit {w : World} {B : Nat} {mk : UInt8} {dv : Value} {md : Bs} (hB : w.heap[B]? = some (.cells #[.int .u8 mk.toNat, dv] 25 (0, 0))) : SrcG cFr w (some ⟨B, 0, none⟩) [⟨mk, dv, md⟩] := src_new TFr hB
theorem rd_one {w : World} {B : Nat} {mk : UInt8} {dv : Value} {md : Bs} (hB : w.heap[B]? = some (.cells #[.int .u8 mk.toNat, dv] 25 (0, 0))) : RdG cFr 2 w (.slice (some ⟨B, 0, none⟩) 1 1) [⟨mk, dv, md⟩] := rd_made TFr (l := [⟨mk, dv, md⟩]) hB (by simp)
theorem step_new {α : Type} {f : α → List Value} {k bytes : Nat} {st e : TypeId} (T : RowT f k bytes st e) {ops : Array Oper} {o : Oper} {a : Act} {w S : World} {K : Act → World → Prop} {Q : Exit → Act → World → Prop} {E : Prop}
  (hgd : o.guard = none) (s x : Operand) (ho : o.op = Op.call { callee := Callee.builtin Builtin.append, args := #[s, x], argTypes := #[st, st] }) {B : Nat} (hs : a.eval s = .slice (some ⟨B, 0, none⟩) 0 0) (hB : w.heap[B]? = some (.cells #[] e (0, 0))) (hSB : S.heap.size ≤ B) (hu : Upd [] S w)
  {A : Option Addr} {c : Nat} {r : List α} (hx : a.eval x = .slice A r.length c) (hr : SrcG f w A r) (hsl : ∀ x ∈ r, ∀ u ∈ f x, u.oneCell' = true) (hb : r.length * bytes ≤ 140737488355328) (h63 : r.length ≤ 140737488355328)
  (hK : ∀ v' w', OwnG f e k w' S.heap.size v' r → Upd [] S w' → (∀ (b : Nat) (ob : Obj), w.heap[b]? = some ob → ob ≠ .cells #[] e (0, 0) → w'.heap[b]? = some ob) → (v'.ownBlock = some B ∨ ∀ g, v'.ownBlock = some g → w.heap.size ≤ g) → Upd [B] w w' → K (a.put o.dst v') w') :
  if Region.wanted o (yielded ops a.tmps) = true then Oper.wp Tryz.prog o a w K Q else E := by
 refine step_append_G T hgd s x ho (base := S.heap.size) (l := []) hs (OwnG.empty T hB hSB) hx hr hsl (by simpa using hb) (by simpa using h63) hu.size fun v' w' ho' hg hn => hK v' w' ho' (hu.grown hg fun k hk => by cases hk; exact hSB) (fun b ob h ne => ?_) hn (Upd.ofGrown hg)
 refine ((Upd.ofGrown hg).block b (lt_of_blk h) fun q => ?_).trans h
 have q' : b = B := by simpa [Value.ownBlock] using q
 rw [q', hB] at h
 cases h
 exact ne rfl
section
variable {w12 w13 w14 X X1 X2 : World} {lo b B : Nat} {v12 v13 : Value} {F R : List FrR}
theorem rows_two (hf : FrsO w12 lo v12 F) (ho13 : OwFr w13 b v13 R) (h1 : w13.heap.size ≤ lo) (u2 : Upd [] w12 X) (hg : X.grownBy w14 v13.ownBlock) : FrsS w14 lo v12 F :=
 (hf.s.keep u2).upd (Upd.ofGrown hg) fun i hi q => by
  have h2 := (hf.s.lt i hi).1
  have h3 := (ho13.block i (by simpa using q)).2
  omega
theorem rows_three (hf : FrsO w12 lo v12 F) (u1 : Upd [] w12 X1) (hg1 : Upd [B] X1 w13) (hB : B < lo ∨ w12.heap.size ≤ B) (hn : v13.ownBlock = some B ∨ ∀ g, v13.ownBlock = some g → X1.heap.size ≤ g) (u2 : Upd [] w13 X2) (hg2 : X2.grownBy w14 v13.ownBlock) : FrsS w14 lo v12 F := by
 refine (((hf.s.keep u1).upd hg1 fun i hi q => ?_).keep u2).upd (Upd.ofGrown hg2) fun i hi q => ?_
 ·have h2 := hf.s.lt i hi
  have q' : i = B := by simpa using q
  omega
 ·have h2 := hf.s.lt i hi
  have q' : v13.ownBlock = some i := by simpa using q
  rcases hn with e | e
  ·rw [e] at q'; cases q'; omega
  ·have := e i q'; have := u1.size; omega
end
end Go.Proofs.YtgpefiacbipfpaaGreatDoor

namespace Go.Proofs.YtgpefiacbipfpaaGreatDoor
open Go.RowKit Go.Maps
set_option maxRecDepth 100000 in
set_option maxHeartbeats 8000000 in
theorem cuts_walk (w : World) {aa : Option Addr} {n ac : Nat} {A : List FrR} (hA : RdFs w (.slice aa n ac) A) (hn : n = A.length) (hAd : ∀ x ∈ A, x.d.length ≤ 140737488351232) (hnl : n ≤ 140737488355328) (cu : Int) (hcu : In64 cu) (mk : UInt8) {ma : Option Addr} {ml mc : Nat} {md : Bs} (hm : Rd w (.slice ma ml mc) md) (hmd : md.length ≤ 140737488351232) :
  Calls Tryz.prog 3 #[.slice aa n ac, .int .i64 cu, .agg #[.int .u8 mk.toNat, .slice ma ml mc]] w fun e w' => e = .returned (.bool true) ∧ Upd [] w w' := by
 have hml : ml = md.length := by
  obtain ⟨a, c, e, -⟩ := hm.slice
  simp only [Value.slice.injEq] at e
  exact e.2.1
 have hb0 := heap_top w (boxFv mk (.slice ma ml mc))
 have hu0 := (Upd.refl [] w).alloc (boxFv mk (.slice ma ml mc))
 obtain ⟨W, hW⟩ : ∃ W, W = w.alloc (boxFv mk (.slice ma ml mc)) := ⟨_, rfl⟩
 rw [← hW] at hb0 hu0
 have p0 := cell_blk hb0 0
 have p1 := cell_blk hb0 1
 simp only [List.getElem?_toArray, List.getElem?_cons_zero, List.getElem?_cons_succ] at p0 p1
 have HK : Hid (∀ X, Upd [] W X → X.cell? ⟨w.heap.size, 0, none⟩ = some (.int .u8 mk.toNat) ∧ X.cell? ⟨w.heap.size, 1, none⟩ = some (.slice ma ml mc)) := Lib.hid fun X u => ⟨held1 u p0, held1 u p1⟩
 have HA := Lib.hid (hA.keep hu0)
 have HN := Lib.hid (And.intro hn hAd)
 have HM := Lib.hid (And.intro (hm.keep hu0) (And.intro hmd hml))
 have HU0 := Lib.hid hu0
 have HAw := Lib.hid (sawake_ok W)
 have HPk := Lib.hid fun (X : World) (k : Int) (h1 : 1 ≤ k) (h2 : k ≤ 1000000) => pick_ok cu k X hcu.1 hcu.2 h1 h2
 have hnl' : (n : Int) ≤ 140737488355328 := by omega
 clear hA hn hm hcu hAd hml hmd hb0 hu0 p0 p1
 go_enter Tryz.func3, Tryz.ntmps3
 go_upto_region 1 with (fail)
 rw [← hW]
 have HW := Lib.hid hW
 clear hW
 go_wp2_with fail
 refine HAw.out.mono ?_
 rintro e w1 ⟨rfl, hu1⟩
 have HL1 := Lib.hid (seg_laid W hu1 200 (by omega) (by omega))
 clear hu1
 go_wp2_with fail
 refine HL1.out.mono ?_
 rintro e w2 ⟨p, v, rfl, hs2, hu2⟩
 have HS2 := Lib.hid hs2
 clear hs2 hu2 HL1 HAw
 go_upto_block 0 with (fail)
 go_cut [10, 11, 12, 13, 14, 15] (fun s10 s11 s12 s13 s14 s15 wx => ∃ GL : List FrR, GL.length ≤ 12 ∧ Hid (CutS W w2 wx s10 s11 s12 GL))
 case first =>
  go_wp2_with fail
  go_loopg [10, 11, 12, 13, 14, 15] 13 (fun gh s10 s11 s12 s13 s14 s15 wr => ∃ (i : Nat) (GL : List FrR), s13 = .int .i64 i ∧ i ≤ 12 ∧ i ≤ n ∧ gh = 13 - i ∧ GL.length ≤ i ∧ Hid (CutS W w2 wr s10 s11 s12 GL))
  case atStart => exact ⟨0, [], rfl, by omega, by omega, rfl, by simp, Lib.hid (CutS.nil _ _)⟩
  case round =>
   obtain ⟨i, GL, rfl, hi12, hin0, rfl, hgl, HC⟩ := hrel
   obtain ⟨da, dc, dm, hdm, rfl⟩ := HC.out.dat.sliceM
   obtain ⟨ea, ec, em, hem, rfl⟩ := HC.out.ends.sliceM
   obtain ⟨ga, gc, gm, hgm, rfl⟩ := HC.out.row.sliceM
   have hd8 : dm ≤ 8000 := by have := HC.out.few; omega
   have he12 : em ≤ 12 := by rw [endsF_len, List.length_map] at hem; omega
   have HLen := Lib.hid (And.intro hdm (And.intro hem hgm))
   clear hdm hem hgm
   by_cases hgo : i < n ∧ i < 12
   ·obtain ⟨hin, hi⟩ := hgo
    have hin' : (i : Int) < (n : Int) := by omega
    have hi' : (i : Int) < 12 := by omega
    obtain ⟨x, hx⟩ : ∃ x, A[i]? = some x := ⟨_, List.getElem?_eq_getElem (by rw [← HN.out.1]; exact hin)⟩
    obtain ⟨b, off, rfl, d0, d1, hrd⟩ := HA.out.at hx
    have hxm := HN.out.2 x (List.mem_of_getElem? hx)
    have hU : Upd [] W wr := HS2.out.upd.trans HC.out.upd
    obtain ⟨kk, dv, d⟩ := x
    dsimp only at hrd d0 d1 hxm
    obtain ⟨xa, xc, rfl, -⟩ := hrd.slice
    have q0 := held1 hU d0
    have q1 := held1 hU d1
    have HQ : Hid (∀ X, Upd [] W X → X.cell? ⟨b, off + i * 2, none⟩ = some (.int .u8 kk.toNat) ∧ X.cell? ⟨b, off + i * 2 + 1, none⟩ = some (.slice xa d.length xc)) := Lib.hid fun X u => ⟨held1 u d0, held1 u d1⟩
    have HX := Lib.hid (And.intro hrd hxm)
    have HPF := Lib.hid (rputFrame_ok wr kk (hrd.keep hU) hxm)
    obtain ⟨xn, hxn⟩ : ∃ xn, xn = d.length := ⟨_, rfl⟩
    rw [← hxn] at HPF q1 HQ
    have HXN := Lib.hid hxn
    clear hx hrd hxm hU d0 d1 hxn
    go_wp2_with fail
    refine HPF.out.mono ?_
    rintro e w5 ⟨hu5, ⟨hsm, v5, rfl, ho5⟩ | ⟨hlg, rfl⟩⟩
    ·obtain ⟨a5, c5, m5, hm5, rfl⟩ := ho5.sliceM
     have h7 := putFrame_le (k := kk) (d := d) (by rw [← HXN.out]; exact hsm)
     have hm57 : m5 ≤ 2007 := by have := HXN.out; omega
     have H5 := Lib.hid (And.intro (HC.out.keep hu5) (And.intro ho5 hm5))
     have HSm := Lib.hid hsm
     by_cases hfit : dm + m5 < 8000
     ·have hfit' : (dm : Int) + (m5 : Int) < 8000 := by omega
      clear hu5 ho5 hm5 h7 hsm
      clear q0 q1
      go_wp2_with (first
       | (at_builtin; refine wpList_append_G T8 rfl _ _ rfl (base := w2.heap.size) (l := encF (GL.map FrR.fr)) (r := putFrame kk d) (by rfl) H5.out.1.dat (by rw [← H5.out.2.2]; rfl) (OwnG.src T8 H5.out.2.1) (one8 _) ?c1 ?c2 ?c3 ?_)
       | fail)
      case c1 => have := HLen.out.1; have := H5.out.2.2; omega
      case c2 => have := HLen.out.1; have := H5.out.2.2; omega
      case c3 => exact H5.out.1.upd.size
      intro v6 w6 ho6 hg6 hn6
      obtain ⟨a6, c6, m6, hm6, rfl⟩ := ho6.sliceM
      have hm6' : m6 ≤ 8000 := by rw [hm6, List.length_append]; have := HLen.out.1; have := H5.out.2.2; omega
      have hu6 : Upd [] W w6 := (HS2.out.upd.trans H5.out.1.upd).grown hg6 fun k hk => Nat.le_trans HS2.out.upd.size (H5.out.1.dat.block k hk).1
      have H6 := Lib.hid (And.intro ho6 (And.intro hg6 (And.intro hm6 hu6)))
      clear ho6 hg6 hm6 hu6 hn6
      go_wp2_with (first
       | (at_builtin; refine wpList_append_G TI rfl _ _ rfl (base := w2.heap.size) (l := endsF (GL.map FrR.fr)) (r := [m6]) (by rfl) (H5.out.1.ends6 H6.out.2.1 _) (by rfl) (src_new TI (ty := 3) (B := w6.heap.size) (heap_top' _ _ _ rfl)) (oneI _) ?c1 ?c2 ?c3 ?_)
       | fail)
      case c1 => have := HLen.out.2.1; simp; omega
      case c2 => have := HLen.out.2.1; simp; omega
      case c3 => have := HS2.out.upd.size; have := H6.out.2.2.2.size; have := H5.out.1.upd.size; have := H6.out.2.1.size; simp; omega
      intro v7 w7 ho7 hg7 hn7
      obtain ⟨a7, c7, m7, hm7, rfl⟩ := ho7.sliceM
      have hu7 : Upd [] W w7 := (H6.out.2.2.2.alloc _).grown hg7 fun k hk => Nat.le_trans HS2.out.upd.size (H5.out.1.ends.block k hk).1
      obtain ⟨q0, q1⟩ := HQ.out _ hu7
      have H7 := Lib.hid (And.intro ho7 (And.intro hg7 hu7))
      clear ho7 hg7 hm7 hu7 hn7
      go_wp2_with (first
       | (at_builtin; refine wpList_append_G TFr rfl _ _ rfl (base := w2.heap.size) (l := GL) (r := [⟨kk, .slice xa xn xc, d⟩]) (by rfl) (H5.out.1.row7 H6.out.2.1 H7.out.2.1 _) (by rfl) (src_new TFr (ty := 25) (B := w7.heap.size) (heap_top' _ _ _ rfl)) (oneFr (w := W) (by simp only [List.mem_singleton, forall_eq]; rw [HXN.out]; exact HX.out.1)) ?c1 ?c2 ?c3 ?_)
       | fail)
      case c1 => simp; omega
      case c2 => simp; omega
      case c3 => have := H5.out.1.upd.size; have := H6.out.2.1.size; have := H7.out.2.1.size; simp at this ⊢; omega
      intro v8 w8 ho8 hg8 hn8
      have HC8 : Hid (CutS W w2 w8 (.slice a6 m6 c6) (.slice a7 m7 c7) v8 (GL ++ [⟨kk, .slice xa xn xc, d⟩])) := Lib.hid (CutS.next H5.out.1 (x := ⟨kk, .slice xa xn xc, d⟩) ⟨by dsimp only; rw [HXN.out]; exact HX.out.1, by dsimp only; rw [← HXN.out]; exact HSm.out⟩ (by rw [← H6.out.2.2.1]; exact hm6') H6.out.1 H6.out.2.1 (by rw [← H6.out.2.2.1]; exact H7.out.1) H7.out.2.1 ho8 hg8)
      obtain ⟨a8, c8, m8, hm8, rfl⟩ := ho8.sliceM
      clear ho8 hg8 hn8 hm8 q0 q1
      go_wp2_with fail
      go_roundg (13 - (i + 1))
      case measure => omega
      case rel => exact ⟨i + 1, _, by go_num, by omega, by omega, rfl, by rw [List.length_append, List.length_singleton]; omega, HC8⟩
     ·have hfit' : ¬ (dm : Int) + (m5 : Int) < 8000 := by omega
      have HC5 := Lib.hid (HC.out.keep hu5)
      clear hu5 ho5 hm5 h7 hsm
      go_wp2_with fail
      go_roundg (13 - (i + 1))
      case measure => omega
      case rel => exact ⟨i + 1, GL, by go_num, by omega, by omega, rfl, by omega, HC5⟩
    ·have HC5 := Lib.hid (HC.out.keep hu5)
     clear hu5
     go_wp2_with fail
     go_roundg (13 - (i + 1))
     case measure => omega
     case rel => exact ⟨i + 1, GL, by go_num, by omega, by omega, rfl, by omega, HC5⟩
   ·have HE : Hid (CutS W w2 wr (.slice da dm dc) (.slice ea em ec) (.slice ga gm gc) GL) := HC
    rcases Nat.lt_or_ge i n with hin | hin
    ·have hin' : (i : Int) < (n : Int) := by omega
     obtain rfl : i = 12 := by omega
     go_wp2_with fail
     go_meet
     case rel => exact ⟨GL, hgl, HE⟩
    ·have hin' : ¬ (i : Int) < (n : Int) := by omega
     go_wp2_with fail
     go_meet
     case rel => exact ⟨GL, by omega, HE⟩
 case rest =>
  obtain ⟨GL, hgl, HC⟩ := hcut
  obtain ⟨wd, hwd⟩ : ∃ x, x = wc := ⟨_, rfl⟩
  subst hwd
  obtain ⟨da, dc, dm, hdm, rfl⟩ := HC.out.dat.sliceM
  obtain ⟨ea, ec, em, hem, rfl⟩ := HC.out.ends.sliceM
  obtain ⟨ga, gc, gm, hgm, rfl⟩ := HC.out.row.sliceM
  obtain ⟨l, hl⟩ : ∃ l, l = GL.map FrR.fr := ⟨_, rfl⟩
  have hll : l.length = GL.length := by rw [hl, List.length_map]
  have hls : ∀ z ∈ l, z.2.length ≤ 2000 := fun z hz => by
   rw [hl] at hz
   obtain ⟨t, ht, rfl⟩ := List.mem_map.1 hz
   exact (HC.out.sml t ht).2
  obtain ⟨D, hD⟩ : ∃ D, D = encF l := ⟨_, rfl⟩
  have hdat := HC.out.dat
  have hends := HC.out.ends
  have hfew := HC.out.few
  rw [← hl] at hdat hends hfew hdm hem
  rw [← hD] at hdat hfew hdm
  have hd8 : dm ≤ 8000 := by omega
  have hemg : em = gm := by rw [hem, endsF_len, hll, hgm]
  have hg12 : gm ≤ 12 := by omega
  subst hemg
  have hs3 := HS2.out.fresh HC.out.upd
  have hgK : ∀ v : Value, (∀ g, v.ownBlock = some g → w2.heap.size ≤ g ∧ g < wd.heap.size) → ∀ g, v.ownBlock = some g → g ∈ newB w2 wd ++ [] := fun v h g hg => List.mem_append_left _ (mem_newB.2 (h g hg))
  have kd := hgK _ hdat.block
  have ke := hgK _ hends.block
  have kg := hgK _ HC.out.row.block
  generalize hK : newB w2 wd ++ [] = K at *
  have hdcc : dm ≤ dc := (hdat.at T8).2.1
  have hgcc : em ≤ gc := (HC.out.row.at TFr).2.1
  have HD := Lib.hid (And.intro hdat (And.intro hends (And.intro HC.out.row (And.intro kd (And.intro ke kg)))))
  have HLf := Lib.hid (And.intro hl (And.intro hll (And.intro hls (And.intro hD (And.intro hdm (And.intro hem hgm))))))
  have HSm := Lib.hid HC.out.sml
  have HS3 := Lib.hid hs3
  have HP := Lib.hid (HPk.out wd ((dm : Int) + 1) (by omega) (by omega))
  clear hdat hends hfew hdm hem hgm hl hll hls hD hs3 hgK kd ke kg hK HC HPk
  go_wp2_with fail
  refine HP.out.mono ?_
  rintro e w3 ⟨⟨r, rfl, hr0, hr1⟩, rfl⟩
  obtain ⟨ct, rfl⟩ : ∃ ct : Nat, (ct : Int) = r := ⟨r.toNat, by omega⟩
  have hct : ct ≤ dm := by omega
  have hct' : (ct : Int) ≤ (dc : Int) := by omega
  have HNm : Hid (∀ X : World, Calls Tryz.prog 12 #[.int .i64 0] X fun e w' => e = .returned (.string (nmS 0)) ∧ Upd [] X w') := Lib.hid fun X => rname_ok X 0 (by omega)
  clear hr0 hr1 HP
  go_wp2_with fail
  refine (HNm.out _).mono ?_
  rintro e w4 ⟨rfl, hu4⟩
  have HCr := Lib.hid ((HS3.out.keep hu4).create (i := 0) (by intro j _ _; rfl) (by omega))
  have HU4 := Lib.hid hu4
  clear hu4
  go_wp2_with fail
  refine HCr.out.mono ?_
  rintro e w5 ⟨rfl, hs5, hst5⟩
  have hst5' := (Stay.of HU4.out).trans hst5
  obtain ⟨m5, hm5⟩ : ∃ m5, m5 = setM (rowM []) 0 (some []) := ⟨_, rfl⟩
  rw [← hm5] at hs5
  have hrd5 : Rd w5 (.slice da dm dc) D := by
   obtain ⟨F, u, hF⟩ := hst5'
   exact (Ow.rd HD.out.1).upd u fun g hg => hF g (HD.out.2.2.2.1 g hg)
  have HAp : Hid (∀ X : World, Upd [] w5 X → Calls Tryz.prog 13 #[.pointer (some ⟨v, 0, none⟩), .string (nmS 0), .slice da ct dc] X fun r w' => r = .returned (.int .i64 0) ∧ SegV W w' v p (200 - 36) (setM m5 0 (some ([] ++ D.take ct))) (rowM []) (0 + 1) K ∧ Stay K X w') := Lib.hid fun X u => (hs5.keep u).append (i := 0) (n := 1) (x := []) (by omega) (by omega) (by rw [hm5]; rfl) ((hrd5.keep u).head ct hct) (fun _ g hg => .inl (HD.out.2.2.2.1 g (by cases da <;> exact hg))) (cut_rooms hm5) (by rw [List.length_take]; omega) (by rw [List.length_take, List.length_nil]; omega)
  have HS5 := Lib.hid (And.intro hst5' hm5)
  clear hs5 hst5 hst5' hrd5 hm5 HU4 HCr
  go_upto_region 18 with (fail)
  go_cut [17] (fun s17 wx => s17 = .int .i64 0 ∧ Hid (SegV W wx v p (200 - 36) (setM m5 0 (some ([] ++ D.take ct))) (rowM []) (0 + 1) K ∧ Stay K w5 wx))
  case first =>
   rcases HD.out.1.2 with ⟨hv, -⟩ | ⟨g, cap, cur, hv, -⟩
   ·as_aux_lemma =>
    cases hv
    obtain rfl : ct = 0 := by omega
    go_region_held3 (fun X => True) (exact trivial)
     (first
      | (go_at_call 12; (with_reducible refine (HNm.out _).mono ?_); rintro e w6 ⟨rfl, hu6⟩)
      | (go_at_call 13; (with_reducible refine (HAp.out _ ?_).mono ?_); (first | exact (Upd.refl [] w5).drew.trans hu6); rintro e w7 ⟨rfl, hs7, hst7⟩))
    all_goals
     have HE := Lib.hid (And.intro hs7 ((Stay.of ((Upd.refl [] w5).drew.trans hu6)).trans hst7))
     clear hs7 hst7 hu6
     go_wp2_with fail
     go_meet
     case rel => exact ⟨rfl, HE⟩
   ·as_aux_lemma =>
    cases hv
    go_region_held3 (fun X => True) (exact trivial)
     (first
      | (go_at_call 12; (with_reducible refine (HNm.out _).mono ?_); rintro e w6 ⟨rfl, hu6⟩)
      | (go_at_call 13; (with_reducible refine (HAp.out _ ?_).mono ?_); (first | exact (Upd.refl [] w5).drew.trans hu6); rintro e w7 ⟨rfl, hs7, hst7⟩))
    all_goals
     have HE := Lib.hid (And.intro hs7 ((Stay.of ((Upd.refl [] w5).drew.trans hu6)).trans hst7))
     clear hs7 hst7 hu6
     go_wp2_with fail
     go_meet
     case rel => exact ⟨rfl, HE⟩
  case rest =>
   obtain ⟨rfl, HE⟩ := hcut
   obtain ⟨w6, hw6⟩ : ∃ x, x = wc := ⟨_, rfl⟩
   subst hw6
   have HSy := Lib.hid (HE.out.1.sync (by omega))
   go_wp2_with fail
   refine HSy.out.mono ?_
   rintro e w7 ⟨rfl, hs7, hst7⟩
   have hrow : setM m5 0 (some ([] ++ D.take ct)) = rowM [D.take ct] := by rw [HS5.out.2]; exact cut_row _
   rw [hrow] at hs7
   have hxl : (D.take ct).length ≤ 8000 := by rw [List.length_take]; omega
   have HO := Lib.hid (sopen_ok (k := 16) hs7 (by omega) (by omega) (by simp) (by simp only [List.mem_singleton, forall_eq]; omega) (by omega) (fun _ => by simp))
   have hst7' : Stay K wd w7 := (HS5.out.1.trans HE.out.2).trans hst7
   have HS7 := Lib.hid hst7'
   clear hs7 hst7 hst7' hrow HSy HE
   go_wp2_with fail
   refine HO.out.mono ?_
   rintro e w8 ⟨lg, fv, sv, L, G, rfl, hl8, hf8, hG8, hst8⟩
   have hco := cut_open l HLf.out.2.2.1 ct
   rw [← HLf.out.2.2.2.1] at hco
   have hst8' : Stay K wd w8 := HS7.out.trans hst8
   have hdat8 : OwI w8 w2.heap.size (.slice ea em ec) (endsF l) ∧ OwFr w8 w2.heap.size (.slice ga em gc) GL := by
    obtain ⟨F, u, hF⟩ := hst8'
    exact ⟨HD.out.2.1.upd u fun k hk e => hF k (HD.out.2.2.2.2.1 k e) hk, HD.out.2.2.1.upd u fun k hk e => hF k (HD.out.2.2.2.2.2 k e) hk⟩
   obtain ⟨wl, hwl⟩ : ∃ wl, wl = wholeF l ct := ⟨_, rfl⟩
   rw [← hwl] at hco
   have hwle : wl ≤ em := by
    have := wholeF_le l ct
    have := HLf.out
    omega
   have hL : L.map FrR.fr = l.take wl := by rw [hf8, hco.1]
   have hK7 : ∀ i ∈ K, i ∈ G ∧ i < w7.heap.size := fun i hi => ⟨hG8 i hi, Nat.lt_of_lt_of_le (HS3.out.lt i hi) HS7.out.size⟩
   have HL8 := Lib.hid (And.intro hl8 (And.intro hL (And.intro hdat8 (And.intro hwl (And.intro hco.2 (And.intro hK7 (Nat.le_of_lt (Nat.lt_of_le_of_lt (hl8.log.lt lg (mem_lfoot.2 (.inl rfl))).1 (hl8.log.lt lg (mem_lfoot.2 (.inl rfl))).2))))))))
   clear hl8 hf8 hG8 hK7 hst8 hco hst8' hdat8 hwl hL hxl HO HS7
   go_upto_block 2 with (fail)
   go_cut [21] (fun s21 wx => s21 = .int .i64 wl ∧ wx = w8)
   case first =>
    go_wp2_with fail
    go_loopg [21] (wl + 1) (fun gh s21 wr => wr = w8 ∧ ∃ j : Nat, s21 = .int .i64 j ∧ j ≤ wl ∧ gh = wl + 1 - j)
    case atStart => exact ⟨rfl, 0, rfl, Nat.zero_le _, rfl⟩
    case round =>
     obtain ⟨rfl, j, rfl, hj, rfl⟩ := hrel
     rcases Nat.lt_or_ge j em with hje | hje
     ·have hje' : (j : Int) < (em : Int) := by omega
      obtain ⟨-, -, -, hat⟩ := HL8.out.2.2.1.1.at TI
      obtain ⟨g8, rfl, -, -, hca⟩ := hat j (by rw [← HLf.out.2.2.2.2.2.1]; exact hje)
      obtain ⟨z, hz⟩ : ∃ z, z = (endsF l)[j]'(by rw [← HLf.out.2.2.2.2.2.1]; exact hje) := ⟨_, rfl⟩
      have p0 := hca 0 _ rfl
      rw [← hz, Nat.mul_one, Nat.add_zero] at p0
      rw [endsF_at] at hz
      have hnx := wholeF_next (l := l) (cut := ct) (i := j) (by have := HLf.out; omega)
      rw [← HL8.out.2.2.2.1, ← hz] at hnx
      clear hat hca hz
      by_cases hjw : j < wl
      ·have hzc : (z : Int) ≤ (ct : Int) := by have := hnx.1 hjw; omega
       clear hnx
       go_wp2_with fail
       go_roundg (wl + 1 - (j + 1))
       case measure => omega
       case rel => exact ⟨rfl, j + 1, by go_num, by omega, rfl⟩
      ·have hzc : ¬ (z : Int) ≤ (ct : Int) := fun q => hjw (hnx.2 (by omega))
       obtain rfl : j = wl := by omega
       clear hnx
       go_wp2_with fail
       go_meet
       case rel => exact ⟨rfl, rfl⟩
     ·have hje' : ¬ (j : Int) < (em : Int) := by omega
      obtain rfl : j = wl := by omega
      go_wp2_with fail
      go_meet
      case rel => exact ⟨rfl, rfl⟩
   case rest =>
    obtain ⟨rfl, hwc⟩ := hcut
    have hwc' := hwc.symm
    subst hwc'
    clear hwc
    obtain ⟨GT, hGT⟩ : ∃ GT, GT = GL.take wl := ⟨_, rfl⟩
    have hgl' : em = GL.length := HLf.out.2.2.2.2.2.2
    have hgtl : GT.length = wl := by rw [hGT, List.length_take]; omega
    have hgtm : GT.map FrR.fr = l.take wl := by rw [hGT, List.map_take, HLf.out.1]
    have hgts : ∀ x ∈ GT, x.d.length ≤ 2000 := fun x hx => by rw [hGT] at hx; exact (HSm.out x (List.mem_of_mem_take hx)).2
    have hll : L.length = wl := by
     have h1 := congrArg List.length HL8.out.2.1
     rw [← hgtm, List.length_map, List.length_map, hgtl] at h1
     exact h1
    have hlm : L.map FrR.fr = GT.map FrR.fr := by rw [HL8.out.2.1, hgtm]
    have hls := frs_len hlm hgts
    have HFr : Hid (∀ X : World, Upd [] w8 X → Calls Tryz.prog 17 #[.pointer (some ⟨lg, 0, none⟩), .int .i64 100] X fun e w' => ∃ v' L', e = .returned v' ∧ FrsO w' X.heap.size v' L' ∧ L'.map FrR.fr = (L.map FrR.fr).take 100 ∧ Upd [] X w') := Lib.hid fun (X : World) (u : Upd [] w8 X) => frames_ok X 100 (by omega) (HL8.out.1.log.keep u) (by omega) (fun x hx => by have := hls x hx; omega)
    have hrg : RdFs w8 (.slice ga wl gc) GT := by
     rw [hGT]
     exact RdFs.headC ⟨OwnG.rd TFr HL8.out.2.2.1.2, fun x hx => (HSm.out x hx).1.keep HL8.out.1.sg.upd⟩ hwle
    have HGT := Lib.hid fun (x : FrR) (hx : x ∈ GT) => (show Rd W x.dv x.d from (HSm.out x (List.mem_of_mem_take (by rw [← hGT]; exact hx))).1)
    have HGTe := Lib.hid hGT
    have HGd := Lib.hid fun (X : World) (u : Upd [] w8 X) => hrg.keep u
    have hwl' : (wl : Int) ≤ (gc : Int) := by omega
    have HT := Lib.hid (And.intro hgtl (And.intro hgts (And.intro hll (And.intro hlm hls))))
    have HE8 : Hid (em = 0 → wl = 0) := Lib.hid fun e => by omega
    have HRow8 := Lib.hid HL8.out.2.2.1.2
    clear hgl' hgtl hgtm hgts hll hlm hls hrg hGT
    go_upto_region 26 with (fail)
    go_cut [22] (fun s22 wx => s22 = .bool true ∧ Hid (Upd [] w8 wx))
    case first =>
     have hcs : ∀ (w9 w10 X : World) (v9 : Value) (F9 : List FrR) (B : Nat), FrsO w9 B v9 F9 → F9.map FrR.fr = (L.map FrR.fr).take 100 → Upd [] w8 w9 → Calls Tryz.prog 16 #[v9, .slice ga wl gc] w9 fun e w' => e = .returned (.bool true) ∧ Upd [] w9 w' := fun w9 _ _ v9 F9 B hf he hu => by
      have heq : F9.map FrR.fr = GT.map FrR.fr := by rw [he, HT.out.2.2.2.1, List.take_of_length_le (by rw [List.length_map, HT.out.1]; omega)]
      have h := same_frames w9 hf.s.rdfs (HGd.out w9 hu) (fun x hx => by have := frs_len heq HT.out.2.1 x hx; omega) (fun x hx => by have := HT.out.2.1 x hx; omega)
      rw [heq, decide_eq_true rfl] at h
      exact h
     have HCS := Lib.hid hcs
     clear hcs
     rcases HRow8.out.2 with ⟨hv, -⟩ | ⟨g, cap, cur, hv, -⟩
     ·as_aux_lemma =>
      cases hv
      obtain rfl := HE8.out rfl
      go_region_held3 (fun X => True) (exact trivial)
       (first
        | (go_at_call 17; (with_reducible refine (HFr.out _ ?_).mono ?_); (exact (Upd.refl [] w8).drew); rintro e w9 ⟨v9, F9, rfl, hf9, he9, hu9⟩)
        | (go_at_call 16; (with_reducible refine (HCS.out _ w8 w8 _ F9 _ hf9 he9 ?_).mono ?_); (exact (Upd.refl [] w8).drew.trans hu9); rintro e w10 ⟨rfl, hu10⟩))
      all_goals
       have HE := Lib.hid (((Upd.refl [] w8).drew.trans hu9).trans hu10)
       clear hf9 he9 hu9 hu10
       go_wp2_with fail
       go_meet
       case rel => exact ⟨rfl, HE⟩
     ·as_aux_lemma =>
      cases hv
      go_region_held3 (fun X => True) (exact trivial)
       (first
        | (go_at_call 17; (with_reducible refine (HFr.out _ ?_).mono ?_); (exact (Upd.refl [] w8).drew); rintro e w9 ⟨v9, F9, rfl, hf9, he9, hu9⟩)
        | (go_at_call 16; (with_reducible refine (HCS.out _ w8 w8 _ F9 _ hf9 he9 ?_).mono ?_); (exact (Upd.refl [] w8).drew.trans hu9); rintro e w10 ⟨rfl, hu10⟩))
      all_goals
       have HE := Lib.hid (((Upd.refl [] w8).drew.trans hu9).trans hu10)
       clear hf9 he9 hu9 hu10
       go_wp2_with fail
       go_meet
       case rel => exact ⟨rfl, HE⟩
    case rest =>
     obtain ⟨rfl, HE⟩ := hcut
     obtain ⟨w9, hw9⟩ : ∃ x, x = wc := ⟨_, rfl⟩
     subst hw9
     have HU9 := Lib.hid (HL8.out.1.sg.upd.trans HE.out)
     obtain ⟨p0, p1⟩ := HK.out _ HU9.out
     by_cases hmL : 2000 < ml
     ·have hmL' : (2000 : Int) < (ml : Int) := by omega
      go_wp2_with fail
      go_ret
      exact ⟨rfl, HU0.out.trans HU9.out⟩
     ·have hmL' : ¬ (2000 : Int) < (ml : Int) := by omega
      have HAp2 : Hid (∀ (X : World), Upd [] w9 X → ∀ B : Nat, X.heap[B]? = some (.cells #[.int .u8 mk.toNat, .slice ma ml mc] 25 (0, 0)) → Calls Tryz.prog 18 #[.pointer (some ⟨lg, 0, none⟩), .slice (some ⟨B, 0, none⟩) 1 1] X fun e w' => e = .returned (.int .i64 0) ∧ ∃ (ds' : List Bs) (c' : Nat) (fv' sv' : Value) (L' : List FrR) (G' : List Nat), LogV W w' v p (200 - 36) ds' c' w7.heap.size lg fv' sv' (L ++ L') G' ∧ L'.map FrR.fr = [(mk, md)] ∧ Stay K X w') := Lib.hid fun X u B hB => by
       have hmd : md.length ≤ 2000 := by have := HM.out.2.2; omega
       have h := sappend_ok (K := K) (A := [(⟨mk, .slice ma ml mc, md⟩ : FrR)]) (HL8.out.1.keep (HE.out.trans u)) (Nat.le_trans HL8.out.2.2.2.2.2.2 (HE.out.trans u).size) (by omega) (rd_one hB) (by simp only [List.mem_singleton, forall_eq]; exact HM.out.1.keep (HU9.out.trans u)) (by simp) (by have := HT.out.2.2.1; omega) (by have := HL8.out.2.2.2.2.1.1; omega) (fun d hd => by have := HL8.out.2.2.2.2.1.2 d hd; omega) (fun _ => by
        have h1 := addD_len1 (openD [D.take ct]).1 (putFrame mk md)
        have h2 := HL8.out.2.2.2.2.1.1
        have h3 : addsD (openD [D.take ct]).1 ([(⟨mk, .slice ma ml mc, md⟩ : FrR)].map FrR.fr) = addD (openD [D.take ct]).1 (putFrame mk md) := rfl
        rw [h3]
        omega) (fun i hi => ⟨(HL8.out.2.2.2.2.2.1 i hi).1, fun q => by have h1 := (HL8.out.2.2.2.2.2.1 i hi).2; have h2 := (HL8.out.1.log.lt i q).1; omega⟩)
       refine h.mono fun e w' hh => ?_
       rcases hh with ⟨-, rfl, fv', sv', L', G', h1, h2, -, h3, -⟩ | ⟨⟨x, hx, h1⟩, -⟩
       ·exact ⟨rfl, _, _, fv', sv', L', G', h1, h2, h3⟩
       ·rw [List.mem_singleton.1 hx] at h1; dsimp only at h1; omega
      go_wp2_with fail
      refine (HAp2.out _ ((Upd.refl [] w9).alloc _) _ (heap_top _ _)).mono ?_
      rintro e w11 ⟨rfl, ds', c', fv', sv', L', G', hl11, hL', hst11⟩
      have hst' : Stay K w9 w11 := (Stay.of ((Upd.refl [] w9).alloc _)).trans hst11
      have hrow11 : OwFr w11 w2.heap.size (.slice ga em gc) GL := by
       obtain ⟨F, u, hF⟩ := hst'
       exact (HRow8.out.upd HE.out (by simp)).upd u fun k hk e => hF k (HD.out.2.2.2.2.2 k e) hk
      have HU11 := Lib.hid hl11.sg.upd
      obtain ⟨p0, p1⟩ := HK.out _ HU11.out
      have hS0 : w11.drew.cell? ⟨w.heap.size, 0, none⟩ = some (.int .u8 mk.toNat) ∧ w11.drew.cell? ⟨w.heap.size, 1, none⟩ = some (.slice ma ml mc) := HK.out _ (HU11.out.drew)
      have HKB : Hid (∀ X, Upd [] w11 X → X.cell? ⟨w.heap.size, 0, none⟩ = some (.int .u8 mk.toNat) ∧ X.cell? ⟨w.heap.size, 1, none⟩ = some (.slice ma ml mc)) := Lib.hid fun X u => HK.out X (HU11.out.trans u)
      have hmd : md.length ≤ 2000 := by have := HM.out.2.2; omega
      have hLL : (L ++ L').map FrR.fr = (GT ++ [(⟨mk, .slice ma ml mc, md⟩ : FrR)]).map FrR.fr := by rw [List.map_append, hL', HT.out.2.2.2.1, List.map_append]; rfl
      have hsm : ∀ x ∈ GT ++ [(⟨mk, .slice ma ml mc, md⟩ : FrR)], x.d.length ≤ 2000 := fun x hx => by
       rcases List.mem_append.1 hx with q | q
       ·exact HT.out.2.1 x q
       ·rw [List.mem_singleton.1 q]; exact hmd
      have hls := frs_len hLL hsm
      have hln : (L ++ L').length = wl + 1 := by
       have h1 := congrArg List.length hLL
       rw [List.length_map, List.length_map] at h1
       rw [h1, List.length_append, HT.out.1]; rfl
      have HFr2 : Hid (∀ X : World, Upd [] w11 X → Calls Tryz.prog 17 #[.pointer (some ⟨lg, 0, none⟩), .int .i64 100] X fun e w' => ∃ v' L'', e = .returned v' ∧ FrsO w' X.heap.size v' L'' ∧ L''.map FrR.fr = (L ++ L').map FrR.fr ∧ Upd [] X w') := Lib.hid fun X u => (frames_ok X 100 (by omega) (hl11.log.keep u) (by omega) (fun x hx => by have := hls x hx; omega)).mono fun e w' ⟨v', L'', h1, h2, h3, h4⟩ => ⟨v', L'', h1, h2, by rw [h3, List.take_of_length_le (by rw [List.length_map]; omega)], h4⟩
      have hGT11 : ∀ x ∈ GT ++ [(⟨mk, .slice ma ml mc, md⟩ : FrR)], Rd w11 x.dv x.d := fun x hx => by
       rcases List.mem_append.1 hx with q | q
       ·exact (HGT.out x q).keep HU11.out
       ·rw [List.mem_singleton.1 q]; exact HM.out.1.keep HU11.out
      have HCS2 : Hid (∀ (X : World) (v12 : Value) (F12 : List FrR) (v14 : Value), (∃ lo, FrsS X lo v12 F12) → F12.map FrR.fr = (L ++ L').map FrR.fr → OwFr X w11.heap.size v14 (GT ++ [(⟨mk, .slice ma ml mc, md⟩ : FrR)]) → Upd [] w11 X → Calls Tryz.prog 16 #[v12, v14] X fun e w' => e = .returned (.bool true) ∧ Upd [] X w') := Lib.hid fun X v12 F12 v14 ⟨lo, hf⟩ he ho u => by
       have heq : F12.map FrR.fr = (GT ++ [(⟨mk, .slice ma ml mc, md⟩ : FrR)]).map FrR.fr := by rw [he, hLL]
       have h := same_frames X hf.rdfs ⟨OwnG.rd TFr ho, fun x hx => (hGT11 x hx).keep u⟩ (fun x hx => by have := frs_len heq hsm x hx; omega) (fun x hx => by have := hsm x hx; omega)
       rw [heq, decide_eq_true rfl] at h
       exact h
      have hsrc : RdFs w11 (.slice ga wl gc) GT := ⟨by
       have h := (RdFs.headC (L := GL) (m := wl) ⟨OwnG.rd TFr hrow11, fun x hx => (HSm.out x hx).1.keep HU11.out⟩ hwle).row
       rw [← HGTe.out] at h
       exact h, fun x hx => (HGT.out x hx).keep HU11.out⟩
      have HSG : Hid (∀ X, Upd [] w11 X → SrcG cFr X ga GT) := Lib.hid fun X u => SlAt.srcG TFr (fun _ _ _ h => h) (hsrc.keep u).row.sl
      have HWl := Lib.hid (And.intro HT.out.1 (And.intro hg12 hsrc.dat))
      have HML : Hid ((∀ x ∈ [(⟨mk, .slice ma ml mc, md⟩ : FrR)], Rd w11 x.dv x.d) ∧ True) := Lib.hid ⟨fun x hx => hGT11 x (List.mem_append_right _ hx), trivial⟩
      have HRw := Lib.hid hrow11
      have hwl12 : wl ≤ 12 := by omega
      clear hl11 hL' hst11 hst' hrow11 hmd hLL hsm hls hln hGT11 hsrc HAp2
      go_upto_region 30 with (fail)
      go_cut [24] (fun s24 wx => s24 = .bool true ∧ Hid (Upd [] w11 wx))
      case first =>
       rcases HRw.out.2 with ⟨hv, -⟩ | ⟨g, cap, cur, hv, -⟩
       ·as_aux_lemma =>
        cases hv
        obtain rfl := HE8.out rfl
        go_region_held3 (fun X => X.cell? ⟨w.heap.size, 0, none⟩ = some (.int .u8 mk.toNat) ∧ X.cell? ⟨w.heap.size, 1, none⟩ = some (.slice ma ml mc))
         (first | (with_reducible exact hS0) | (refine HKB.out _ ?_; repeat (first | (with_reducible exact Upd.refl _ _) | (with_reducible exact hu12) | (with_reducible exact hu13) | (with_reducible exact hu14) | (with_reducible exact hu15) | (with_reducible refine Upd.alloc ?_ _) | (with_reducible refine Upd.drew ?_) | (with_reducible refine Upd.trans ?_ hw12))))
         (first
          | (go_at_call 17; (with_reducible refine (HFr2.out _ ?_).mono ?_); (focus (repeat (first | (with_reducible exact Upd.refl _ _) | (with_reducible exact hu12) | (with_reducible exact hu13) | (with_reducible exact hu14) | (with_reducible exact hu15) | (with_reducible refine Upd.alloc ?_ _) | (with_reducible refine Upd.drew ?_) | (with_reducible refine Upd.trans ?_ hw12)))); rintro e w12 ⟨v12, F12, rfl, hf12, he12, hw12⟩; have hu12 : Upd [] w11 w12 := (by refine Upd.trans ?_ hw12; repeat (first | (with_reducible exact Upd.refl _ _) | (with_reducible exact hu12) | (with_reducible exact hu13) | (with_reducible exact hu14) | (with_reducible exact hu15) | (with_reducible refine Upd.alloc ?_ _) | (with_reducible refine Upd.drew ?_) | (with_reducible refine Upd.trans ?_ hw12))))
          | (refine step_new TFr (by rfl) _ _ (by rfl) (S := w11) (by rfl) ?_ ?_ ?_ (by rw [HWl.out.1]; rfl) (HSG.out _ ?_) (oneFr (w := w11) HWl.out.2.2) ?_ ?_ ?_
                   ; (focus (repeat (first | (refine heap_top' _ _ _ ?_; (first | (with_reducible rfl) | (focus (simp; done)))) | (with_reducible refine blk_keepD ?_) | (with_reducible refine blk_keepA ?_) | (with_reducible refine blk_keepU hw12 ?_) | (with_reducible refine hk13 _ _ ?_ (by simp)))))
                   ; (first | exact Nat.le_refl _ | (focus (simp; done)) | (have := hu12.size; simp at this ⊢; omega))
                   ; (focus (repeat (first | (with_reducible exact Upd.refl _ _) | (with_reducible exact hu12) | (with_reducible exact hu13) | (with_reducible exact hu14) | (with_reducible exact hu15) | (with_reducible refine Upd.alloc ?_ _) | (with_reducible refine Upd.drew ?_) | (with_reducible refine Upd.trans ?_ hw12))))
                   ; (focus (repeat (first | (with_reducible exact Upd.refl _ _) | (with_reducible exact hu12) | (with_reducible exact hu13) | (with_reducible exact hu14) | (with_reducible exact hu15) | (with_reducible refine Upd.alloc ?_ _) | (with_reducible refine Upd.drew ?_) | (with_reducible refine Upd.trans ?_ hw12))))
                   ; (rw [HWl.out.1]; omega)
                   ; (rw [HWl.out.1]; omega)
                   ; intro v13 w13 ho13 hu13 hk13 hn13 hb13
                   ; obtain ⟨a13, c13, m13, hm13, rfl⟩ := ho13.sliceM
                   ; clear hm13)
          | (refine step_append_G TFr (by rfl) _ _ (by rfl) (base := w11.heap.size) (l := GT) (r := [(⟨mk, .slice ma ml mc, md⟩ : FrR)]) (by rfl) (ho13.upd (F := []) ?_ (by simp)) (by rfl) (src_lit ?_) (oneFr (w := w11) HML.out.1) ?_ ?_ ?_ ?_
                   ; (focus (repeat (first | (with_reducible exact Upd.refl _ _) | (with_reducible exact hu12) | (with_reducible exact hu13) | (with_reducible exact hu14) | (with_reducible exact hu15) | (with_reducible refine Upd.alloc ?_ _) | (with_reducible refine Upd.drew ?_) | (with_reducible refine Upd.trans ?_ hw12))))
                   ; (focus (repeat (first | (refine heap_top' _ _ _ ?_; (first | (with_reducible rfl) | (focus (simp; done)))) | (with_reducible refine blk_keepD ?_) | (with_reducible refine blk_keepA ?_) | (with_reducible refine blk_keepU hw12 ?_) | (with_reducible refine hk13 _ _ ?_ (by simp)))))
                   ; (have := HWl.out.1; simp only [List.length_singleton]; omega)
                   ; (have := HWl.out.1; simp only [List.length_singleton]; omega)
                   ; (refine Upd.size (F := []) ?_; repeat (first | (with_reducible exact Upd.refl _ _) | (with_reducible exact hu12) | (with_reducible exact hu13) | (with_reducible exact hu14) | (with_reducible exact hu15) | (with_reducible refine Upd.alloc ?_ _) | (with_reducible refine Upd.drew ?_) | (with_reducible refine Upd.trans ?_ hw12)))
                   ; intro v14 w14 ho14 hg14 hn14
                   ; have hu14 : Upd [] w11 w14 := Upd.grown (by repeat (first | (with_reducible exact Upd.refl _ _) | (with_reducible exact hu12) | (with_reducible exact hu13) | (with_reducible exact hu14) | (with_reducible exact hu15) | (with_reducible refine Upd.alloc ?_ _) | (with_reducible refine Upd.drew ?_) | (with_reducible refine Upd.trans ?_ hw12))) hg14 (fun g hg => (ho13.block g hg).1)
                   ; obtain ⟨a14, c14, m14, hm14, rfl⟩ := ho14.sliceM
                   ; clear hm14)
          | (go_at_call 16; (with_reducible refine (HCS2.out _ _ F12 _ ?_ he12 ?_ ?_).mono ?_)
                            ; (first
                               | (with_reducible exact ⟨_, hf12.s⟩)
                               | (refine ⟨_, rows_two hf12 ho13 ?_ ?_ hg14⟩; (focus (first | exact Nat.le_refl _ | (focus (simp; done)) | (focus (simp; omega)))); (focus (repeat (first | (with_reducible exact Upd.refl _ _) | (with_reducible exact hu12) | (with_reducible exact hu13) | (with_reducible exact hu14) | (with_reducible exact hu15) | (with_reducible refine Upd.alloc ?_ _) | (with_reducible refine Upd.drew ?_) | (with_reducible refine Upd.trans ?_ hw12)))))
                               | (refine ⟨_, rows_three hf12 ?_ hb13 ?_ hn13 ?_ hg14⟩; (focus (repeat (first | (with_reducible exact Upd.refl _ _) | (with_reducible exact hu12) | (with_reducible exact hu13) | (with_reducible exact hu14) | (with_reducible exact hu15) | (with_reducible refine Upd.alloc ?_ _) | (with_reducible refine Upd.drew ?_) | (with_reducible refine Upd.trans ?_ hw12)))); (first | exact .inl (Nat.lt_succ_self _) | exact .inr (Nat.le_refl _) | (focus (simp; done)) | (focus (simp; omega))); (focus (repeat (first | (with_reducible exact Upd.refl _ _) | (with_reducible exact hu12) | (with_reducible exact hu13) | (with_reducible exact hu14) | (with_reducible exact hu15) | (with_reducible refine Upd.alloc ?_ _) | (with_reducible refine Upd.drew ?_) | (with_reducible refine Upd.trans ?_ hw12))))))
                            ; (first | (with_reducible exact ho14) | (refine ho14.upd (F := []) ?_ (by simp); repeat (first | (with_reducible exact Upd.refl _ _) | (with_reducible exact hu12) | (with_reducible exact hu13) | (with_reducible exact hu14) | (with_reducible exact hu15) | (with_reducible refine Upd.alloc ?_ _) | (with_reducible refine Upd.drew ?_) | (with_reducible refine Upd.trans ?_ hw12))))
                            ; (focus (repeat (first | (with_reducible exact Upd.refl _ _) | (with_reducible exact hu12) | (with_reducible exact hu13) | (with_reducible exact hu14) | (with_reducible exact hu15) | (with_reducible refine Upd.alloc ?_ _) | (with_reducible refine Upd.drew ?_) | (with_reducible refine Upd.trans ?_ hw12))))
                            ; rintro e w15 ⟨rfl, hw15⟩
                            ; have hu15 : Upd [] w11 w15 := (by refine Upd.trans ?_ hw15; repeat (first | (with_reducible exact Upd.refl _ _) | (with_reducible exact hu12) | (with_reducible exact hu13) | (with_reducible exact hu14) | (with_reducible exact hu15) | (with_reducible refine Upd.alloc ?_ _) | (with_reducible refine Upd.drew ?_) | (with_reducible refine Upd.trans ?_ hw12)))))
        all_goals
         have HEnd := Lib.hid hu15
         clear hf12 he12 hw12 hu12 ho13 hu13 hk13 hn13 hb13 ho14 hg14 hn14 hu14 hw15 hu15
         go_wp2_with fail
         go_meet
         case rel => exact ⟨rfl, HEnd⟩
       ·as_aux_lemma =>
        cases hv
        go_region_held3 (fun X => X.cell? ⟨w.heap.size, 0, none⟩ = some (.int .u8 mk.toNat) ∧ X.cell? ⟨w.heap.size, 1, none⟩ = some (.slice ma ml mc))
         (first | (with_reducible exact hS0) | (refine HKB.out _ ?_; repeat (first | (with_reducible exact Upd.refl _ _) | (with_reducible exact hu12) | (with_reducible exact hu13) | (with_reducible exact hu14) | (with_reducible exact hu15) | (with_reducible refine Upd.alloc ?_ _) | (with_reducible refine Upd.drew ?_) | (with_reducible refine Upd.trans ?_ hw12))))
         (first
          | (go_at_call 17; (with_reducible refine (HFr2.out _ ?_).mono ?_); (focus (repeat (first | (with_reducible exact Upd.refl _ _) | (with_reducible exact hu12) | (with_reducible exact hu13) | (with_reducible exact hu14) | (with_reducible exact hu15) | (with_reducible refine Upd.alloc ?_ _) | (with_reducible refine Upd.drew ?_) | (with_reducible refine Upd.trans ?_ hw12)))); rintro e w12 ⟨v12, F12, rfl, hf12, he12, hw12⟩; have hu12 : Upd [] w11 w12 := (by refine Upd.trans ?_ hw12; repeat (first | (with_reducible exact Upd.refl _ _) | (with_reducible exact hu12) | (with_reducible exact hu13) | (with_reducible exact hu14) | (with_reducible exact hu15) | (with_reducible refine Upd.alloc ?_ _) | (with_reducible refine Upd.drew ?_) | (with_reducible refine Upd.trans ?_ hw12))))
          | (refine step_new TFr (by rfl) _ _ (by rfl) (S := w11) (by rfl) ?_ ?_ ?_ (by rw [HWl.out.1]; rfl) (HSG.out _ ?_) (oneFr (w := w11) HWl.out.2.2) ?_ ?_ ?_
                   ; (focus (repeat (first | (refine heap_top' _ _ _ ?_; (first | (with_reducible rfl) | (focus (simp; done)))) | (with_reducible refine blk_keepD ?_) | (with_reducible refine blk_keepA ?_) | (with_reducible refine blk_keepU hw12 ?_) | (with_reducible refine hk13 _ _ ?_ (by simp)))))
                   ; (first | exact Nat.le_refl _ | (focus (simp; done)) | (have := hu12.size; simp at this ⊢; omega))
                   ; (focus (repeat (first | (with_reducible exact Upd.refl _ _) | (with_reducible exact hu12) | (with_reducible exact hu13) | (with_reducible exact hu14) | (with_reducible exact hu15) | (with_reducible refine Upd.alloc ?_ _) | (with_reducible refine Upd.drew ?_) | (with_reducible refine Upd.trans ?_ hw12))))
                   ; (focus (repeat (first | (with_reducible exact Upd.refl _ _) | (with_reducible exact hu12) | (with_reducible exact hu13) | (with_reducible exact hu14) | (with_reducible exact hu15) | (with_reducible refine Upd.alloc ?_ _) | (with_reducible refine Upd.drew ?_) | (with_reducible refine Upd.trans ?_ hw12))))
                   ; (rw [HWl.out.1]; omega)
                   ; (rw [HWl.out.1]; omega)
                   ; intro v13 w13 ho13 hu13 hk13 hn13 hb13
                   ; obtain ⟨a13, c13, m13, hm13, rfl⟩ := ho13.sliceM
                   ; clear hm13)
          | (refine step_append_G TFr (by rfl) _ _ (by rfl) (base := w11.heap.size) (l := GT) (r := [(⟨mk, .slice ma ml mc, md⟩ : FrR)]) (by rfl) (ho13.upd (F := []) ?_ (by simp)) (by rfl) (src_lit ?_) (oneFr (w := w11) HML.out.1) ?_ ?_ ?_ ?_
                   ; (focus (repeat (first | (with_reducible exact Upd.refl _ _) | (with_reducible exact hu12) | (with_reducible exact hu13) | (with_reducible exact hu14) | (with_reducible exact hu15) | (with_reducible refine Upd.alloc ?_ _) | (with_reducible refine Upd.drew ?_) | (with_reducible refine Upd.trans ?_ hw12))))
                   ; (focus (repeat (first | (refine heap_top' _ _ _ ?_; (first | (with_reducible rfl) | (focus (simp; done)))) | (with_reducible refine blk_keepD ?_) | (with_reducible refine blk_keepA ?_) | (with_reducible refine blk_keepU hw12 ?_) | (with_reducible refine hk13 _ _ ?_ (by simp)))))
                   ; (have := HWl.out.1; simp only [List.length_singleton]; omega)
                   ; (have := HWl.out.1; simp only [List.length_singleton]; omega)
                   ; (refine Upd.size (F := []) ?_; repeat (first | (with_reducible exact Upd.refl _ _) | (with_reducible exact hu12) | (with_reducible exact hu13) | (with_reducible exact hu14) | (with_reducible exact hu15) | (with_reducible refine Upd.alloc ?_ _) | (with_reducible refine Upd.drew ?_) | (with_reducible refine Upd.trans ?_ hw12)))
                   ; intro v14 w14 ho14 hg14 hn14
                   ; have hu14 : Upd [] w11 w14 := Upd.grown (by repeat (first | (with_reducible exact Upd.refl _ _) | (with_reducible exact hu12) | (with_reducible exact hu13) | (with_reducible exact hu14) | (with_reducible exact hu15) | (with_reducible refine Upd.alloc ?_ _) | (with_reducible refine Upd.drew ?_) | (with_reducible refine Upd.trans ?_ hw12))) hg14 (fun g hg => (ho13.block g hg).1)
                   ; obtain ⟨a14, c14, m14, hm14, rfl⟩ := ho14.sliceM
                   ; clear hm14)
          | (go_at_call 16; (with_reducible refine (HCS2.out _ _ F12 _ ?_ he12 ?_ ?_).mono ?_)
                            ; (first
                               | (with_reducible exact ⟨_, hf12.s⟩)
                               | (refine ⟨_, rows_two hf12 ho13 ?_ ?_ hg14⟩; (focus (first | exact Nat.le_refl _ | (focus (simp; done)) | (focus (simp; omega)))); (focus (repeat (first | (with_reducible exact Upd.refl _ _) | (with_reducible exact hu12) | (with_reducible exact hu13) | (with_reducible exact hu14) | (with_reducible exact hu15) | (with_reducible refine Upd.alloc ?_ _) | (with_reducible refine Upd.drew ?_) | (with_reducible refine Upd.trans ?_ hw12)))))
                               | (refine ⟨_, rows_three hf12 ?_ hb13 ?_ hn13 ?_ hg14⟩; (focus (repeat (first | (with_reducible exact Upd.refl _ _) | (with_reducible exact hu12) | (with_reducible exact hu13) | (with_reducible exact hu14) | (with_reducible exact hu15) | (with_reducible refine Upd.alloc ?_ _) | (with_reducible refine Upd.drew ?_) | (with_reducible refine Upd.trans ?_ hw12)))); (first | exact .inl (Nat.lt_succ_self _) | exact .inr (Nat.le_refl _) | (focus (simp; done)) | (focus (simp; omega))); (focus (repeat (first | (with_reducible exact Upd.refl _ _) | (with_reducible exact hu12) | (with_reducible exact hu13) | (with_reducible exact hu14) | (with_reducible exact hu15) | (with_reducible refine Upd.alloc ?_ _) | (with_reducible refine Upd.drew ?_) | (with_reducible refine Upd.trans ?_ hw12))))))
                            ; (first | (with_reducible exact ho14) | (refine ho14.upd (F := []) ?_ (by simp); repeat (first | (with_reducible exact Upd.refl _ _) | (with_reducible exact hu12) | (with_reducible exact hu13) | (with_reducible exact hu14) | (with_reducible exact hu15) | (with_reducible refine Upd.alloc ?_ _) | (with_reducible refine Upd.drew ?_) | (with_reducible refine Upd.trans ?_ hw12))))
                            ; (focus (repeat (first | (with_reducible exact Upd.refl _ _) | (with_reducible exact hu12) | (with_reducible exact hu13) | (with_reducible exact hu14) | (with_reducible exact hu15) | (with_reducible refine Upd.alloc ?_ _) | (with_reducible refine Upd.drew ?_) | (with_reducible refine Upd.trans ?_ hw12))))
                            ; rintro e w15 ⟨rfl, hw15⟩
                            ; have hu15 : Upd [] w11 w15 := (by refine Upd.trans ?_ hw15; repeat (first | (with_reducible exact Upd.refl _ _) | (with_reducible exact hu12) | (with_reducible exact hu13) | (with_reducible exact hu14) | (with_reducible exact hu15) | (with_reducible refine Upd.alloc ?_ _) | (with_reducible refine Upd.drew ?_) | (with_reducible refine Upd.trans ?_ hw12)))))
        all_goals
         have HEnd := Lib.hid hu15
         clear hf12 he12 hw12 hu12 ho13 hu13 hk13 hn13 hb13 ho14 hg14 hn14 hu14 hw15 hu15
         go_wp2_with fail
         go_meet
         case rel => exact ⟨rfl, HEnd⟩
      case rest =>
       obtain ⟨rfl, HE11⟩ := hcut
       go_wp2_with fail
       go_ret
       exact ⟨rfl, HU0.out.trans (HU11.out.trans HE11.out)⟩
end Go.Proofs.YtgpefiacbipfpaaGreatDoor
