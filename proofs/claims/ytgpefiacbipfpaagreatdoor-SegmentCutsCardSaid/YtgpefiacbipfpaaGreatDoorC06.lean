/- The device's Write. The device's Flush. A new device. The device's Crash. -/
import Derived.Great.BuildSlice
import Derived.Laws.Cover3
import Derived.Laws.CopyRow
import Derived.Laws.MakeOwn
import Derived.Carry
import Derived.Test.YtgpefiacbipfpaaGreatDoorC05
namespace Go.Proofs.YtgpefiacbipfpaaGreatDoor
open Go.RowKit Go.Maps
theorem step_lookup_run {ops : Array Oper} {o : Oper} {a : Act} {w : World} {K : Act → World → Prop} {Q : Exit → Act → World → Prop} {E : Prop} (hgd : o.guard = none) (m x : Operand) (t : TypeId) (hop : o.op = Op.lookup t m x false)
  {mv xv v : Value} (hm : a.eval m = mv) (hx : a.eval x = xv) (hrun : (Instr.lookup t mv xv false).run Tryz.prog w = .ok v w) (hK : K (a.put o.dst v) w) :
  if Region.wanted o (yielded ops a.tmps) = true then Oper.wp Tryz.prog o a w K Q else E := by
 have hw : Region.wanted o (yielded ops a.tmps) = true := by simp [Region.wanted, hgd]
 rw [if_pos hw]
 unfold Oper.wp
 simp [execOp, hop, hm, hx, hrun, Result.andThen]
 exact hK
theorem buildK (w : World) (b : Bs) : (Instr.buildSlice 116 1 #[(0, .agg (cK b).toArray)]).run Tryz.prog w = .ok (.slice (some ⟨w.heap.size, 0, none⟩) 1 1) (w.alloc (.cells (cK b).toArray 121)) := by
 obtain ⟨i, h, h1, h2, h3⟩ := info_parts infoK
 refine run_buildSlice w _ _ 1 _ _ i _ Tryz.underlying116 h h1 (by rw [h2]; decide) (by rw [h2]; decide) ?_
 rw [h2]
 have := Great.fill_whole (s := 512) (by omega) [.agg (cK b).toArray] ((Array.range (1 * 512)).map ((Value.agg (Array.replicate 512 (.int .u8 0))).cells[· % (Value.agg (Array.replicate 512 (.int .u8 0))).cells.size]!)) (by
  intro v hv
  obtain rfl := List.mem_singleton.1 hv
  show (cK b).toArray.size = 512
  rw [List.size_toArray, cK_len]) (by simp)
 have e : (some (cK b).toArray : Option (Array Value)) = some (Value.agg (cK b).toArray).cells := rfl
 rw [e]
 simpa using this
theorem MapI.store {w : World} {mb : Nat} {L : List (Nat × Value)} (h : MapI w mb L) (hs : Srt ltI L) {t e : TypeId} (ht : Tryz.prog.underlying t = some (.map 3 e)) (hl : L.length < maxLen) (n : Nat) (hn : n < 9223372036854775807) (v : Value) :
  ∃ w', (Instr.mapUpdate t (.map (some mb)) (.int .i64 n) v).run Tryz.prog w = .ok () w' ∧ MapI w' mb (putA ltI L n v) ∧ w.grownBy w' (some mb) := by
 obtain ⟨w', h1, h2, h3⟩ := World.ownsMap.update h lawI ht hl (keyOf_int_mk Tryz.underlying3 (wfN hn)) (d := .held v) (ps := []) rfl
 refine ⟨w', h1, ?_, h3⟩
 rw [dataI_eq, put_dataA keyI hs] at h2
 exact MapI.of h2
theorem step_build_K {ops : Array Oper} {o : Oper} {a : Act} {w : World} {K : Act → World → Prop} {Q : Exit → Act → World → Prop} {E : Prop} (hgd : o.guard = none) (x : Operand) (hop : o.op = Op.buildSlice 116 1 #[(0, x)]) {b : Bs}
  (hx : a.eval x = .agg (cK b).toArray) (hK : K (a.put o.dst (.slice (some ⟨w.heap.size, 0, none⟩) 1 1)) (w.alloc (.cells (cK b).toArray 121))) :
  if Region.wanted o (yielded ops a.tmps) = true then Oper.wp Tryz.prog o a w K Q else E := by
 have hw : Region.wanted o (yielded ops a.tmps) = true := by simp [Region.wanted, hgd]
 rw [if_pos hw]
 unfold Oper.wp
 have e : (Array.map (fun (y : Nat × Operand) => (y.1, a.eval y.2)) #[(0, x)]) = #[(0, .agg (cK b).toArray)] := by simp [hx]
 simp only [execOp, hop, e, Sem.run_bind, Sem.run_pure, buildK, Result.andThen_ok]
 exact hK
theorem step_mapUpdate_run {ops : Array Oper} {o : Oper} {a : Act} {w : World} {K : Act → World → Prop} {Q : Exit → Act → World → Prop} {E : Prop} (hgd : o.guard = none) (m x y : Operand) (t : TypeId) (hop : o.op = Op.mapUpdate t m x y)
  {mv xv yv : Value} {w' : World} (hm : a.eval m = mv) (hx : a.eval x = xv) (hy : a.eval y = yv) (hrun : (Instr.mapUpdate t mv xv yv).run Tryz.prog w = .ok () w') (hK : K (a.put o.dst undef) w') :
  if Region.wanted o (yielded ops a.tmps) = true then Oper.wp Tryz.prog o a w K Q else E := by
 have hw : Region.wanted o (yielded ops a.tmps) = true := by simp [Region.wanted, hgd]
 rw [if_pos hw]
 unfold Oper.wp
 simp [execOp, hop, hm, hx, hy, hrun, Result.andThen]
 exact hK
theorem loadRd {w : World} {b off c : Nat} {d : Bs} (h : Rd w (.slice (some ⟨b, off, none⟩) 512 c) d) (hd : d.length = 512) : w.rangeAt b off (cK d) := by
 intro j v hv
 rw [cK_of hd] at hv
 have hj : j < d.length := by
  rcases Nat.lt_or_ge j d.length with h | h
  ·exact h
  ·rw [List.getElem?_eq_none (by simpa using h)] at hv; cases hv
 obtain ⟨-, -, -, hcell⟩ := h.cell
 obtain ⟨b', o', e, hc⟩ := hcell (by omega)
 cases e
 rw [hc j hj]
 rw [List.getElem?_map, List.getElem?_eq_getElem hj] at hv
 simpa using hv
def Dev.wrote (D : Dev) (n : Nat) (b : Bs) (fuse : Int) (down : Bool) : Dev := { D with blk := exec1 D.blk (.write n b), fuse := fuse, down := down, wr := D.wr + 1 }
theorem DevR.wrote {w w' : World} {p : Nat} {D : Dev} {sb mb : Nat} {L : List (Nat × Value)} {ops : Int} (h : DevR w p D sb mb L ops) {n : Nat} (hn : n < D.n) {b : Bs} (hb : b.length = 512) {v0 v : Value} (hv0 : v0 = (getA L n).getD (.slice none 0 0))
  (hown : OwnG cK 121 512 w' 0 v ((D.blk n).pend ++ [b])) (hat : v.ownBlock = v0.ownBlock ∨ ∀ g, v.ownBlock = some g → w.heap.size ≤ g) (hmap : MapI w' mb (putA ltI L n v))
  (hu : Upd (mb :: (v0.ownBlock.toList)) w w') : DevR w' p (D.wrote n b D.fuse D.down) sb mb (putA ltI L n v) ops ∧ ∀ k ∈ footD p sb mb (putA ltI L n v), k ∈ footD p sb mb L ∨ w.heap.size ≤ k := by
 have hne : (D.blk n).pend ++ [b] ≠ [] := by simp
 obtain ⟨g, c, hvg, -⟩ := hown.lastK hne
 have hvb : v.ownBlock = some g := by rw [hvg]; rfl
 have hnd := h.nodup
 simp only [footD, List.nodup_cons, List.mem_cons, not_or] at hnd
 obtain ⟨⟨a1, a2, a3⟩, ⟨a4, a5⟩, a6, a7⟩ := hnd
 have hold : ∀ k, v0.ownBlock = some k → k ∈ L.map fun x => blkOfV x.2 := by
  intro k hk
  cases hg : getA L n with
  | none => rw [hg] at hv0; subst hv0; cases hk
  | some u =>
   rw [hg] at hv0
   obtain rfl : v0 = u := hv0
   exact List.mem_map.2 ⟨(n, v0), getA_mem hg, by simp [blkOfV, hk]⟩
 have hlt : ∀ x ∈ L, blkOfV x.2 < w.heap.size ∧ x.2.ownBlock = some (blkOfV x.2) := by
  intro x hx
  obtain ⟨h1, h2, -⟩ := h.row x hx
  obtain ⟨g', c', e, -⟩ := h1.lastK h2
  have : x.2.ownBlock = some g' := by rw [e]; rfl
  exact ⟨by simp only [blkOfV, this, Option.getD_some]; exact (h1.block g' this).2, by simp [blkOfV, this]⟩
 have hother : ∀ x ∈ L, x.1 ≠ n → ∀ k, x.2.ownBlock = some k → k ∉ mb :: v0.ownBlock.toList := by
  intro x hx hxn k hk hm
  rcases List.mem_cons.1 hm with rfl | hm
  ·exact a6 (List.mem_map.2 ⟨x, hx, by simp [blkOfV, hk]⟩)
  ·have hk0 : v0.ownBlock = some k := by simpa using hm
   cases hg : getA L n with
   | none => rw [hg] at hv0; subst hv0; cases hk0
   | some u =>
    rw [hg] at hv0
    obtain rfl : v0 = u := hv0
    have hp := a7
    have hmem := getA_mem hg
    have : ∀ (l : List (Nat × Value)), (l.map fun x => blkOfV x.2).Nodup → ∀ y ∈ l, ∀ z ∈ l, blkOfV y.2 = blkOfV z.2 → y = z := by
     intro l
     induction l with
     | nil => intro _ y hy; simp at hy
     | cons q l ih =>
      intro hn y hy z hz e
      simp only [List.map_cons, List.nodup_cons] at hn
      rcases List.mem_cons.1 hy with e1 | h1 <;> rcases List.mem_cons.1 hz with e2 | h2
      ·rw [e1, e2]
      ·exact absurd (List.mem_map.2 ⟨z, h2, by rw [← e, e1]⟩) hn.1
      ·exact absurd (List.mem_map.2 ⟨y, h1, by rw [e, e2]⟩) hn.1
      ·exact ih hn.2 y h1 z h2 e
    have e := this L a7 x hx (n, v0) hmem (by simp [blkOfV, hk, hk0])
    exact hxn (by rw [e])
 have hpne : p ∉ mb :: v0.ownBlock.toList := by
  intro hm
  rcases List.mem_cons.1 hm with e | hm
  ·exact a2 e
  ·exact a3 (hold p (by simpa using hm))
 have hsne : sb ∉ mb :: v0.ownBlock.toList := by
  intro hm
  rcases List.mem_cons.1 hm with e | hm
  ·exact a4 e
  ·exact a5 (hold sb (by simpa using hm))
 have hgm : g ∈ (L.map fun x => blkOfV x.2) ∨ w.heap.size ≤ g := by
  rcases hat with e | e
  ·exact .inl (hold g (by rw [← e]; exact hvb))
  ·exact .inr (e g hvb)
 have hperm := putA_perm ordI h.srt n v
 have hfoot : ((putA ltI L n v).map fun x => blkOfV x.2).Nodup ∧ (∀ k ∈ ((putA ltI L n v).map fun x => blkOfV x.2), k ∈ (L.map fun x => blkOfV x.2) ∨ w.heap.size ≤ k) := by
  have hgb : blkOfV v = g := by simp [blkOfV, hvb]
  have hm := hperm.map fun x => blkOfV x.2
  refine ⟨hm.nodup_iff.2 ?_, fun k hk => ?_⟩
  ·rw [List.map_cons, List.nodup_cons]
   refine ⟨fun hm => ?_, a7.sublist (List.filter_sublist.map _)⟩
   obtain ⟨x, hx, e⟩ := List.mem_map.1 hm
   obtain ⟨hx, hxn⟩ := mem_delA.1 hx
   dsimp only at e
   rw [hgb] at e
   rcases hat with e2 | e2
   ·refine hother x hx hxn g (by rw [(hlt x hx).2, e]) ?_
    simp [← e2, hvb]
   ·have := (hlt x hx).1
    have := e2 g hvb
    omega
  ·have := (hm.mem_iff).1 hk
   rw [List.map_cons] at this
   rcases List.mem_cons.1 this with e | this
   ·dsimp only at e; rw [hgb] at e; subst e; exact hgm
   ·obtain ⟨x, hx, e⟩ := List.mem_map.1 this
    exact .inl (List.mem_map.2 ⟨x, (mem_delA.1 hx).1, e⟩)
 have hlts : ∀ k ∈ [p, sb, mb], k < w.heap.size := by
  intro k hk
  simp only [List.mem_cons, List.not_mem_nil, or_false] at hk
  rcases hk with rfl | rfl | rfl
  ·exact lt_of_blk h.box
  ·exact lt_of_blk h.safe
  ·exact World.ownsMap.lt h.map
 refine ⟨⟨(hu.block p (lt_of_blk h.box) hpne).trans h.box, ?_, hmap, srt_putA ordI h.srt n v, fun x hx => ?_, fun i hi => ?_, ?_, h.n1, h.n2, h.f1, h.f2, h.sized.exec1 hb, fun i => ?_⟩, fun k hk => ?_⟩
 ·have e : safeL (D.wrote n b D.fuse D.down) = safeL D := by
   unfold safeL
   show (List.range D.n).map (fun i => (exec1 D.blk (.write n b) i).safe) = _
   apply List.map_congr_left
   intro i _
   show (if i = n then _ else _ : Cell).safe = _
   split <;> rfl
  rw [e]
  exact (hu.block sb (lt_of_blk h.safe) hsne).trans h.safe
 ·rcases List.mem_cons.1 (hperm.mem_iff.1 hx) with rfl | hx
  ·have e : ((D.wrote n b D.fuse D.down).blk n).pend = (D.blk n).pend ++ [b] := by
    show (exec1 D.blk (.write n b) n).pend = _
    rw [exec1_write]; rfl
   dsimp only
   rw [e]
   exact ⟨hown, hne, hn⟩
  ·obtain ⟨hx, hxn⟩ := mem_delA.1 hx
   have e : ((D.wrote n b D.fuse D.down).blk x.1) = D.blk x.1 := exec1_write_ne _ hxn
   rw [e]
   obtain ⟨h1, h2, h3⟩ := h.row x hx
   exact ⟨h1.upd hu fun j hj q => hother x hx hxn j q hj, h2, h3⟩
 ·rw [getA_putA ordI h.srt] at hi
  split at hi
  ·cases hi
  ·rename_i hne2
   have e : ((D.wrote n b D.fuse D.down).blk i) = D.blk i := exec1_write_ne _ (Ne.symm hne2)
   rw [e]
   exact h.rest i hi
 ·simp only [footD, List.nodup_cons, List.mem_cons, not_or]
  have hno : ∀ k ∈ [p, sb, mb], k ∉ (L.map fun x => blkOfV x.2) → k ∉ (putA ltI L n v).map fun x => blkOfV x.2 := fun k hk hk2 hk3 => by
   rcases hfoot.2 k hk3 with q | q
   ·exact hk2 q
   ·have := hlts k hk; omega
  exact ⟨⟨a1, a2, hno p (by simp) a3⟩, ⟨a4, hno sb (by simp) a5⟩, hno mb (by simp) a6, hfoot.1⟩
 ·show (exec1 D.blk (.write n b) i).pend.length ≤ D.wr + 1
  have := h.cnt i
  by_cases e : i = n
  ·subst e; rw [exec1_write]; simp [Cell.push]; omega
  ·rw [exec1_write_ne _ e]; omega
 ·simp only [footD, List.mem_cons] at hk ⊢
  rcases hk with hk | hk | hk | hk
  ·exact .inl (.inl hk)
  ·exact .inl (.inr (.inl hk))
  ·exact .inl (.inr (.inr (.inl hk)))
  ·rcases hfoot.2 k hk with q | q
   ·exact .inl (.inr (.inr (.inr q)))
   ·exact .inr q
theorem src_K {w : World} {B : Nat} {b : Bs} {ty : TypeId} (h : w.heap[B]? = some (.cells (cK b).toArray ty (0, 0))) : SrcG cK w (some ⟨B, 0, none⟩) [b] :=
 src_new TK (r := [b]) (ty := ty) (by rw [h]; simp [flatG])
theorem heldW {w w' : World} {G : List Nat} (u : Upd G w w') {p o b off : Nat} {x : Value} {cs : List Value} (hp : p ∉ G) (hb : b ∉ G) (hc : 0 < cs.length) (h : w.cell? ⟨p, o, none⟩ = some x ∧ w.rangeAt b off cs) : w'.cell? ⟨p, o, none⟩ = some x ∧ w'.rangeAt b off cs := by
 refine ⟨(World.cell?_of_block (u.block p (World.block_lt_of_cell? _ _ h.1) hp)).trans h.1, rangeAt_keep h.2 (u.block b ?_ hb)⟩
 exact World.block_lt_of_cell? _ _ (h.2 0 _ (List.getElem?_eq_getElem hc))
theorem upd_grown_alloc {w w7 : World} {o : Obj} {row : Option Nat} (hg : (w.drew.alloc o).grownBy w7 row) : Upd row.toList w w7 :=
 ⟨hg.os, hg.output, Nat.le_trans (by simp) hg.size, fun k hk hn => by
  rw [hg.block k (by simp; omega) (fun q => hn (by simp [← q]))]
  show (w.alloc o).heap[k]? = _
  rw [heap_alloc, if_neg (by omega)]⟩
theorem upd_of_grown {w w8 : World} {mb : Nat} {r : List Nat} (hg8 : w.grownBy w8 (some mb)) : Upd (mb :: r) w w8 :=
 ⟨hg8.os, hg8.output, hg8.size, fun k hk hn => hg8.block k hk (fun q => hn (by cases q; simp))⟩
def WritePost (w : World) (p : Nat) (D : Dev) (F : List Nat) (t : List DOp) (r : Ending) (w' : World) : Prop :=
 ∃ (e : Nat) (D' : Dev) (F' : List Nat), r = .returned (.int .i64 e) ∧ Eff t D e D' ∧ DevAt w' p D' F' ∧ Upd F w w' ∧ ∀ k ∈ F', k ∈ F ∨ w.heap.size ≤ k
set_option maxRecDepth 100000 in
set_option maxHeartbeats 4000000 in
theorem write_ok (w : World) {p : Nat} {D : Dev} {F : List Nat} (h : DevAt w p D F) (n : Nat) (hn : n < D.n) (hwr : D.wr ≤ 137438953472) {b off c : Nat} {d : Bs} (hd : Rd w (.slice (some ⟨b, off, none⟩) 512 c) d) (hd5 : d.length = 512) (hbF : b ∉ F) :
  Calls Tryz.prog 107 #[.pointer (some ⟨p, 0, none⟩), .int .i64 n, .slice (some ⟨b, off, none⟩) 512 c] w (WritePost w p D F [.write n d]) := by
 obtain ⟨sb, mb, L, ops, h, rfl⟩ := h
 have HO := Lib.hid (operate_ok w h n hn)
 have HD := Lib.hid h
 have hn2 := h.n2
 have hcap : 512 ≤ c := hd.cell.2.1
 have hpF : p ∈ footD p sb mb L := by simp [footD]
 have hbp : b ≠ p := fun e => hbF (e ▸ hpF)
 have HRd := Lib.hid (loadRd hd hd5)
 have HDl := Lib.hid hd
 clear h hd
 go_enter Tryz.func107, Tryz.ntmps107
 go_wp2_with fail
 refine HO.out.mono ?_
 rintro r w1 ⟨e, fuse, down, ops', rfl, T⟩
 have HT := Lib.hid T
 have HR := Lib.hid (HD.out.ticked T)
 by_cases he : e = 0
 ·subst he
  have c1 := cell_blk T.box 1
  simp only [List.getElem?_toArray, List.getElem?_cons_zero, List.getElem?_cons_succ] at c1
  have hd1 : w1.rangeAt b off (cK d) := rangeAt_keep HRd.out (T.upd.block b (World.block_lt_of_cell? _ _ (HRd.out 0 _ (List.getElem?_eq_getElem (by rw [cK_len]; omega)))) (by simp [hbp]))
  clear T
  obtain ⟨v0, hv0⟩ : ∃ v0, v0 = (getA L n).getD (.slice none 0 0) := ⟨_, rfl⟩
  have HOW : Hid (OwnG cK 121 512 w1 0 v0 (D.blk n).pend) := by
   cases hg : getA L n with
   | none => rw [hv0, hg]; have := HR.out.rest n hg; dsimp only at this; rw [this]; exact Lib.hid (OwnG.nil _ _)
   | some v => rw [hv0, hg]; exact Lib.hid (HR.out.row (n, v) (getA_mem hg)).1
  have hlen : (D.blk n).pend.length ≤ 137438953472 := Nat.le_trans (HD.out.cnt n) hwr
  obtain ⟨a0, c0, hsl0⟩ := HOW.out.slice
  have HLk : Hid (∀ W, Upd [] w1 W → (Instr.lookup 117 (.map (some mb)) (.int .i64 n) false).run Tryz.prog W = .ok (.slice a0 (D.blk n).pend.length c0) W) :=
   Lib.hid fun W u => by
    have := MapI.look (owns_upd HR.out.map u (by simp)) Tryz.underlying117 (z := .slice none 0 0) (by kernel_rfl) n (by omega)
    rw [this, ← hv0, hsl0]
  have HLd : ∀ W : World, W.rangeAt b off (cK d) → (Instr.loadAt 121 (.pointer (some ⟨b, off, none⟩))).run Tryz.prog W = .ok (.agg (cK d).toArray) W :=
   fun W hW => run_loadAt_mid W b off _ (cK d) _ hW Tryz.underlying121 rfl (by rw [cK_len]; exact sizeK)
  have HAr : ∀ W : World, (Instr.arrayAt 121 (.slice (some ⟨b, off, none⟩) 512 c)).run Tryz.prog W = .ok (.pointer (some ⟨b, off, none⟩)) W :=
   fun W => run_arrayAt W _ _ 512 _ 512 c Tryz.underlying121 (Nat.le_refl _)
  have HBs := fun W => buildK W d
  have hL1 := HLk.out w1.drew (Upd.refl [] w1).drew
  have hL2 := HLk.out (w1.drew.alloc (.cells (cK d).toArray 121)) ((Upd.refl [] w1).drew.alloc _)
  have hu101 := Tryz.underlying117
  have hcl := cK_len d
  have hll : ((D.blk n).pend ++ [d]).length = (D.blk n).pend.length + 1 := by simp
  have hu105 := Tryz.underlying121
  have hi105 : (Tryz.prog.info? 121).map (·.size) = some (cK d).length := by rw [cK_len]; exact sizeK
  rw [hsl0] at HOW
  have HM := Lib.hid HR.out.map
  have HSrt := Lib.hid HR.out.srt
  have hfoot := HD.out.nodup
  simp only [footD, List.nodup_cons, List.mem_cons, not_or] at hfoot
  simp only [footD, List.mem_cons, not_or] at hbF
  have HB0 : Hid (∀ k, (Value.slice a0 (D.blk n).pend.length c0).ownBlock = some k → k ∈ L.map fun x => blkOfV x.2) := Lib.hid (by
   intro k hk
   rw [← hsl0] at hk
   cases hg : getA L n with
   | none => rw [hg] at hv0; subst hv0; cases hk
   | some u =>
    rw [hg] at hv0
    obtain rfl : v0 = u := hv0
    exact List.mem_map.2 ⟨(n, v0), getA_mem hg, by simp [blkOfV, hk]⟩)
  have hGp : p ∉ mb :: (Value.slice a0 (D.blk n).pend.length c0).ownBlock.toList := by
   intro hm
   rcases List.mem_cons.1 hm with q | hm
   ·exact hfoot.1.2.1 q
   ·exact hfoot.1.2.2 (HB0.out p (by simpa using hm))
  have hGb : b ∉ mb :: (Value.slice a0 (D.blk n).pend.length c0).ownBlock.toList := by
   intro hm
   rcases List.mem_cons.1 hm with q | hm
   ·exact hbF.2.2.1 q
   ·exact hbF.2.2.2 (HB0.out b (by simpa using hm))
  have hGm : mb ∉ (Value.slice a0 (D.blk n).pend.length c0).ownBlock.toList := fun hm => hfoot.2.2.1 (HB0.out mb (by simpa using hm))
  have hw1 : D.wr ≤ 137438953472 := hwr
  have hcK : 0 < (cK d).length := by rw [cK_len]; omega
  have hLl : L.length < maxLen := by
   have h1 : (L.map (·.1)).Nodup := by
    have := HSrt.out
    unfold Srt at this
    rw [List.nodup_iff_pairwise_ne, List.pairwise_map]
    exact this.imp fun h => ordI.ne h
   have h2 := nodup_le h1 (n := D.n) fun x hx => by
    obtain ⟨y, hy, rfl⟩ := List.mem_map.1 hx
    exact (HR.out.row y hy).2.2
   rw [List.length_map] at h2
   unfold maxLen; omega
  have hv0s : Value.slice a0 (D.blk n).pend.length c0 = (getA L n).getD (.slice none 0 0) := by rw [← hsl0]; exact hv0
  clear hsl0 HLk
  go_wp2_with fail
  refine wp_region_noPanic ?_
  refine wp_region_held_drew (S := fun w' => w'.cell? ⟨p, 1, none⟩ = some (.map (some mb)) ∧ w'.rangeAt b off (cK d)) (by kernel_rfl) (heldW (Upd.refl [] w1).drew (by simp) (by simp) hcK ⟨c1, hd1⟩) (fun hHeld => ?_)
  refine wpAnyH_take (i := 0) (oi := ⟨some 19, _, _, _, _, _⟩) (v := .pointer (some ⟨p, 0, none⟩)) rfl (by kernel_rfl) (by kernel_rfl) (by kernel_rfl) (fun _ _ _ h => h) (Or.inl ⟨by rfl, by (intro W hSW; obtain ⟨hS1, hS2⟩ := hSW; go_simp)⟩) hHeld ?_
  simp only [Act.put, List.setIfInBounds_toArray, List.set_cons_zero, List.set_cons_succ]
  refine wpAnyH_take (i := 1) (oi := ⟨some 20, _, _, _, _, _⟩) (v := .pointer (some ⟨p, 0, none⟩)) rfl (by kernel_rfl) (by kernel_rfl) (by kernel_rfl) (fun _ _ _ h => h) (Or.inl ⟨by rfl, by (intro W hSW; obtain ⟨hS1, hS2⟩ := hSW; go_simp)⟩) hHeld ?_
  simp only [Act.put, List.setIfInBounds_toArray, List.set_cons_zero, List.set_cons_succ]
  refine wpAnyH_take (i := 2) (oi := ⟨some 21, _, _, _, _, _⟩) (v := .pointer (some ⟨p, 1, none⟩)) rfl (by kernel_rfl) (by kernel_rfl) (by kernel_rfl) (fun _ _ _ h => h) (Or.inl ⟨by rfl, by (intro W hSW; obtain ⟨hS1, hS2⟩ := hSW; go_simp)⟩) hHeld ?_
  simp only [Act.put, List.setIfInBounds_toArray, List.set_cons_zero, List.set_cons_succ]
  refine wpAnyH_take (i := 3) (oi := ⟨some 22, _, _, _, _, _⟩) (v := .map (some mb)) rfl (by kernel_rfl) (by kernel_rfl) (by kernel_rfl) (fun _ _ _ h => h) (Or.inl ⟨by rfl, by (intro W hSW; obtain ⟨hS1, hS2⟩ := hSW; go_simp)⟩) hHeld ?_
  simp only [Act.put, List.setIfInBounds_toArray, List.set_cons_zero, List.set_cons_succ]
  refine wpAnyH_take (i := 4) (oi := ⟨some 23, _, _, _, _, _⟩) (v := .int .i64 n) rfl (by kernel_rfl) (by kernel_rfl) (by kernel_rfl) (fun _ _ _ h => h) (Or.inl ⟨by rfl, by (intro W hSW; obtain ⟨hS1, hS2⟩ := hSW; go_simp)⟩) hHeld ?_
  simp only [Act.put, List.setIfInBounds_toArray, List.set_cons_zero, List.set_cons_succ]
  refine wpAnyH_take (i := 5) (oi := ⟨some 24, _, _, _, _, _⟩) (v := .pointer (some ⟨p, 0, none⟩)) rfl (by kernel_rfl) (by kernel_rfl) (by kernel_rfl) (fun _ _ _ h => h) (Or.inl ⟨by rfl, by (intro W hSW; obtain ⟨hS1, hS2⟩ := hSW; go_simp)⟩) hHeld ?_
  simp only [Act.put, List.setIfInBounds_toArray, List.set_cons_zero, List.set_cons_succ]
  refine wpAnyH_take (i := 6) (oi := ⟨some 25, _, _, _, _, _⟩) (v := .pointer (some ⟨p, 0, none⟩)) rfl (by kernel_rfl) (by kernel_rfl) (by kernel_rfl) (fun _ _ _ h => h) (Or.inl ⟨by rfl, by (intro W hSW; obtain ⟨hS1, hS2⟩ := hSW; go_simp)⟩) hHeld ?_
  simp only [Act.put, List.setIfInBounds_toArray, List.set_cons_zero, List.set_cons_succ]
  refine wpAnyH_take (i := 7) (oi := ⟨some 26, _, _, _, _, _⟩) (v := .pointer (some ⟨p, 1, none⟩)) rfl (by kernel_rfl) (by kernel_rfl) (by kernel_rfl) (fun _ _ _ h => h) (Or.inl ⟨by rfl, by (intro W hSW; obtain ⟨hS1, hS2⟩ := hSW; go_simp)⟩) hHeld ?_
  simp only [Act.put, List.setIfInBounds_toArray, List.set_cons_zero, List.set_cons_succ]
  refine wpAnyH_take (i := 8) (oi := ⟨some 27, _, _, _, _, _⟩) (v := .map (some mb)) rfl (by kernel_rfl) (by kernel_rfl) (by kernel_rfl) (fun _ _ _ h => h) (Or.inl ⟨by rfl, by (intro W hSW; obtain ⟨hS1, hS2⟩ := hSW; go_simp)⟩) hHeld ?_
  simp only [Act.put, List.setIfInBounds_toArray, List.set_cons_zero, List.set_cons_succ]
  refine wpAnyH_take (i := 9) (oi := ⟨some 28, _, _, _, _, _⟩) (v := .int .i64 n) rfl (by kernel_rfl) (by kernel_rfl) (by kernel_rfl) (fun _ _ _ h => h) (Or.inl ⟨by rfl, by (intro W hSW; obtain ⟨hS1, hS2⟩ := hSW; go_simp)⟩) hHeld ?_
  simp only [Act.put, List.setIfInBounds_toArray, List.set_cons_zero, List.set_cons_succ]
  refine wpAnyH_take (i := 11) (oi := ⟨some 30, _, _, _, _, _⟩) (v := .slice (some ⟨b, off, none⟩) 512 c) rfl (by kernel_rfl) (by kernel_rfl) (by kernel_rfl) (fun _ _ _ h => h) (Or.inl ⟨by rfl, by (intro W hSW; obtain ⟨hS1, hS2⟩ := hSW; go_simp)⟩) hHeld ?_
  simp only [Act.put, List.setIfInBounds_toArray, List.set_cons_zero, List.set_cons_succ]
  refine wpAnyH_take (i := 12) (oi := ⟨some 31, _, _, _, _, _⟩) (v := .pointer (some ⟨b, off, none⟩)) rfl (by kernel_rfl) (by kernel_rfl) (by kernel_rfl) (fun _ _ _ h => h) (Or.inl ⟨by rfl, by (intro W hSW; obtain ⟨hS1, hS2⟩ := hSW; go_simp)⟩) hHeld ?_
  simp only [Act.put, List.setIfInBounds_toArray, List.set_cons_zero, List.set_cons_succ]
  refine' wpAnyH_take (i := 13) (oi := ⟨some 32, _, _, _, _, _⟩) (v := _) rfl (by kernel_rfl) (by kernel_rfl) (by kernel_rfl) (fun _ _ _ h => h) (yieldsIf_load_mid (by rfl) _ _ rfl b off rfl (cK d) _ ?hS ?hu ?hd ?hi) hHeld ?rest
  case hS => exact fun W hW => hW.2
  case hu => exact hu105
  case hd => rfl
  case hi => exact hi105
  simp only [Act.put, List.setIfInBounds_toArray, List.set_cons_zero, List.set_cons_succ]
  have hS2 : (w1.drew.alloc (.cells (cK d).toArray 121)).cell? ⟨p, 1, none⟩ = some (.map (some mb)) ∧ (w1.drew.alloc (.cells (cK d).toArray 121)).rangeAt b off (cK d) := heldW ((Upd.refl [] w1).drew.alloc _) (by simp) (by simp) hcK ⟨c1, hd1⟩
  refine wpAnyH_ready (rs := [10, 14]) (by kernel_rfl) (by simp) ?_
  refine AllReadyH.cons (o := ⟨some 29, _, _, _, _, _⟩) rfl (fun K hK => ?_) (AllReadyH.cons (o := ⟨some 33, _, _, _, _, _⟩) rfl (fun K hK => ?_) AllReadyH.nil)
  ·refine step_lookup_run (by rfl) _ _ 117 (by rfl) (by rfl) (by rfl) hL1 ?_
   refine hK.out _ _ hHeld (fun _ => ?_)
   clear hK K
   simp only [Act.put, List.setIfInBounds_toArray, List.set_cons_zero, List.set_cons_succ]
   refine wpAnyH_ready (rs := [14]) (by kernel_rfl) (by simp) ?_
   refine AllReadyH.cons (o := ⟨some 33, _, _, _, _, _⟩) rfl (fun K hK => ?_) AllReadyH.nil
   refine step_build_K (by rfl) _ (by rfl) (b := d) (by rfl) ?_
   refine hK.out _ _ hS2 (fun _ => ?_)
   clear hK K
   simp only [Act.put, List.setIfInBounds_toArray, List.set_cons_zero, List.set_cons_succ]
   refine wpAnyH_ready (rs := [15]) (by kernel_rfl) (by simp) ?_
   refine AllReadyH.cons (o := ⟨some 34, _, _, _, _, _⟩) rfl (fun K hK => ?_) AllReadyH.nil
   refine step_append_G TK (by rfl) _ _ (by rfl) (base := 0) (v := .slice a0 (D.blk n).pend.length c0) (l := (D.blk n).pend) (A := some ⟨w1.heap.size, 0, none⟩) (c := 1) (r := [d]) (by rfl) (HOW.out.upd ((Upd.refl [] w1).drew.alloc _) (by simp)) (by rfl) (src_K (ty := 121) (heap_top _ _)) (oneK _) (by simp; omega) (by simp; omega) (Nat.zero_le _) ?_
   intro v7 w7 ho7 hg7 hat7
   obtain ⟨a7, c7, hv7e⟩ := ho7.slice
   rewrite [hll] at hv7e
   subst hv7e
   have hv7a : Upd ((Value.slice a0 (D.blk n).pend.length c0).ownBlock.toList) w1 w7 := upd_grown_alloc hg7
   have hv7 := hv7a.mono (G := mb :: (Value.slice a0 (D.blk n).pend.length c0).ownBlock.toList) (fun k hk _ => List.mem_cons_of_mem _ hk)
   refine hK.out _ _ (heldW hv7 hGp hGb hcK ⟨c1, hd1⟩) (fun _ => ?_)
   clear hK K
   simp only [Act.put, List.setIfInBounds_toArray, List.set_cons_zero, List.set_cons_succ]
   obtain ⟨w8, hst, hm8, hg8⟩ := MapI.store (owns_upd HM.out hv7a hGm) HSrt.out hu101 hLl n (by omega) (.slice a7 ((D.blk n).pend.length + 1) c7)
   have hv8 : Upd (mb :: (Value.slice a0 (D.blk n).pend.length c0).ownBlock.toList) w1 w8 := hv7.trans (upd_of_grown hg8)
   have hat8 : (Value.slice a7 ((D.blk n).pend.length + 1) c7).ownBlock = (Value.slice a0 (D.blk n).pend.length c0).ownBlock ∨ ∀ g, (Value.slice a7 ((D.blk n).pend.length + 1) c7).ownBlock = some g → w1.heap.size ≤ g := hat7.imp id fun h g hg => by have := h g hg; simp at this; omega
   have ho8 : OwnG cK 121 512 w8 0 (.slice a7 ((D.blk n).pend.length + 1) c7) ((D.blk n).pend ++ [d]) := ho7.upd (upd_of_grown (r := []) hg8) fun j hj q => by
    obtain rfl := List.mem_singleton.1 hj
    rcases hat8 with e | e
    ·exact hGm (by rw [← e, q]; simp)
    ·have := e _ q
     have := World.ownsMap.lt HM.out
     omega
   refine wpAnyH_ready (rs := [16]) (by kernel_rfl) (by simp) ?_
   refine AllReadyH.cons (o := ⟨none, _, _, _, _, _⟩) rfl (fun K hK => ?_) AllReadyH.nil
   refine step_mapUpdate_run (by rfl) _ _ _ 117 (by rfl) (by rfl) (by rfl) (by rfl) hst ?_
   refine hK.out _ _ (heldW hv8 hGp hGb hcK ⟨c1, hd1⟩) (fun _ => ?_)
   clear hK K
   refine wpAnyH_done (by kernel_rfl) ?_ _
   refine NoPanic.normal ?_
   simp only [Act.put]
   clear ho7 hg7 hat7 hv7a
   go_wp2_with fail
   go_ret
   have hW := HR.out.wrote hn hd5 hv0s ho8 hat8 hm8 hv8
   have hTe := HT.out.eff
   refine ⟨0, _, _, rfl, ?_, ⟨sb, mb, _, ops', hW.1, rfl⟩, ?_, ?_⟩
   ·refine ⟨rfl, Nat.le_refl _, .inl ⟨rfl, hTe.up.1, hTe.up.2.1, hTe.up.2.2.1, rfl⟩⟩
   ·refine (HT.out.upd.mono (fun k hk _ => by obtain rfl := List.mem_singleton.1 hk; exact hpF)).trans (hv8.mono fun k hk _ => ?_)
    rcases List.mem_cons.1 hk with rfl | hk
    ·simp [footD]
    ·simp only [footD, List.mem_cons]
     exact .inr (.inr (.inr (HB0.out k (by simpa using hk))))
   ·intro k hk
    rcases hW.2 k hk with q | q
    ·exact .inl q
    ·exact .inr (Nat.le_trans HT.out.upd.size q)
  ·refine step_build_K (by rfl) _ (by rfl) (b := d) (by rfl) ?_
   refine hK.out _ _ hS2 (fun _ => ?_)
   clear hK K
   simp only [Act.put, List.setIfInBounds_toArray, List.set_cons_zero, List.set_cons_succ]
   refine wpAnyH_ready (rs := [10]) (by kernel_rfl) (by simp) ?_
   refine AllReadyH.cons (o := ⟨some 29, _, _, _, _, _⟩) rfl (fun K hK => ?_) AllReadyH.nil
   refine step_lookup_run (by rfl) _ _ 117 (by rfl) (by rfl) (by rfl) hL2 ?_
   refine hK.out _ _ hS2 (fun _ => ?_)
   clear hK K
   simp only [Act.put, List.setIfInBounds_toArray, List.set_cons_zero, List.set_cons_succ]
   refine wpAnyH_ready (rs := [15]) (by kernel_rfl) (by simp) ?_
   refine AllReadyH.cons (o := ⟨some 34, _, _, _, _, _⟩) rfl (fun K hK => ?_) AllReadyH.nil
   refine step_append_G TK (by rfl) _ _ (by rfl) (base := 0) (v := .slice a0 (D.blk n).pend.length c0) (l := (D.blk n).pend) (A := some ⟨w1.heap.size, 0, none⟩) (c := 1) (r := [d]) (by rfl) (HOW.out.upd ((Upd.refl [] w1).drew.alloc _) (by simp)) (by rfl) (src_K (ty := 121) (heap_top _ _)) (oneK _) (by simp; omega) (by simp; omega) (Nat.zero_le _) ?_
   intro v7 w7 ho7 hg7 hat7
   obtain ⟨a7, c7, hv7e⟩ := ho7.slice
   rewrite [hll] at hv7e
   subst hv7e
   have hv7a : Upd ((Value.slice a0 (D.blk n).pend.length c0).ownBlock.toList) w1 w7 := upd_grown_alloc hg7
   have hv7 := hv7a.mono (G := mb :: (Value.slice a0 (D.blk n).pend.length c0).ownBlock.toList) (fun k hk _ => List.mem_cons_of_mem _ hk)
   refine hK.out _ _ (heldW hv7 hGp hGb hcK ⟨c1, hd1⟩) (fun _ => ?_)
   clear hK K
   simp only [Act.put, List.setIfInBounds_toArray, List.set_cons_zero, List.set_cons_succ]
   obtain ⟨w8, hst, hm8, hg8⟩ := MapI.store (owns_upd HM.out hv7a hGm) HSrt.out hu101 hLl n (by omega) (.slice a7 ((D.blk n).pend.length + 1) c7)
   have hv8 : Upd (mb :: (Value.slice a0 (D.blk n).pend.length c0).ownBlock.toList) w1 w8 := hv7.trans (upd_of_grown hg8)
   have hat8 : (Value.slice a7 ((D.blk n).pend.length + 1) c7).ownBlock = (Value.slice a0 (D.blk n).pend.length c0).ownBlock ∨ ∀ g, (Value.slice a7 ((D.blk n).pend.length + 1) c7).ownBlock = some g → w1.heap.size ≤ g := hat7.imp id fun h g hg => by have := h g hg; simp at this; omega
   have ho8 : OwnG cK 121 512 w8 0 (.slice a7 ((D.blk n).pend.length + 1) c7) ((D.blk n).pend ++ [d]) := ho7.upd (upd_of_grown (r := []) hg8) fun j hj q => by
    obtain rfl := List.mem_singleton.1 hj
    rcases hat8 with e | e
    ·exact hGm (by rw [← e, q]; simp)
    ·have := e _ q
     have := World.ownsMap.lt HM.out
     omega
   refine wpAnyH_ready (rs := [16]) (by kernel_rfl) (by simp) ?_
   refine AllReadyH.cons (o := ⟨none, _, _, _, _, _⟩) rfl (fun K hK => ?_) AllReadyH.nil
   refine step_mapUpdate_run (by rfl) _ _ _ 117 (by rfl) (by rfl) (by rfl) (by rfl) hst ?_
   refine hK.out _ _ (heldW hv8 hGp hGb hcK ⟨c1, hd1⟩) (fun _ => ?_)
   clear hK K
   refine wpAnyH_done (by kernel_rfl) ?_ _
   refine NoPanic.normal ?_
   simp only [Act.put]
   clear ho7 hg7 hat7 hv7a
   go_wp2_with fail
   go_ret
   have hW := HR.out.wrote hn hd5 hv0s ho8 hat8 hm8 hv8
   have hTe := HT.out.eff
   refine ⟨0, _, _, rfl, ?_, ⟨sb, mb, _, ops', hW.1, rfl⟩, ?_, ?_⟩
   ·refine ⟨rfl, Nat.le_refl _, .inl ⟨rfl, hTe.up.1, hTe.up.2.1, hTe.up.2.2.1, rfl⟩⟩
   ·refine (HT.out.upd.mono (fun k hk _ => by obtain rfl := List.mem_singleton.1 hk; exact hpF)).trans (hv8.mono fun k hk _ => ?_)
    rcases List.mem_cons.1 hk with rfl | hk
    ·simp [footD]
    ·simp only [footD, List.mem_cons]
     exact .inr (.inr (.inr (HB0.out k (by simpa using hk))))
   ·intro k hk
    rcases hW.2 k hk with q | q
    ·exact .inl q
    ·exact .inr (Nat.le_trans HT.out.upd.size q)
 ·have he' : ¬ (e : Int) = 0 := by omega
  go_wp2_with fail
  go_ret
  exact ⟨e, _, _, rfl, HT.out.eff.stop [.write n d] he, ⟨sb, mb, L, ops', HR.out, rfl⟩, HT.out.upd.mono (fun k hk _ => by obtain rfl := List.mem_singleton.1 hk; exact hpF), fun k hk => .inl hk⟩
end Go.Proofs.YtgpefiacbipfpaaGreatDoor

namespace Go.Proofs.YtgpefiacbipfpaaGreatDoor
open Go.RowKit Go.Maps
theorem wpList_clear_own {H : Type} {w : World} {ops : Array Oper} {rest : List Oper} {o : Oper} {a : Act} {Q : Exit → Act → World → Prop} (hg : o.guard = none) (m : Operand) (t : TypeId) (hop : o.op = Op.call { callee := Callee.builtin Builtin.clear, args := #[m], argTypes := #[t] })
  {k e : TypeId} (ht : Tryz.prog.underlying t = some (.map k e)) {R : Value → Option (DataW H × List MemPlace)} {b n : Nat} {D : DataW H} (hm : a.eval m = .map (some b)) (hown : w.ownsMap Tryz.prog k R b n D)
  (hK : ∀ w', w'.ownsMap Tryz.prog k R b 0 (.map []) → Upd [b] w w' → wpList Tryz.prog ops Q rest (a.put o.dst (.tuple #[])) w') : wpList Tryz.prog ops Q (o :: rest) a w := by
 refine wpList_plain hg fun K' hK' => ?_
 obtain ⟨es, clock, hb, F, hs, rfl⟩ := hown
 have hrun : (Builtin.clear_ #[t] o.type #[.map (some b)]).run Tryz.prog w = .ok (.tuple #[]) { w with heap := w.heap.setIfInBounds b (.map #[] clock) } := by
  simp [Builtin.clear_, run_underlying ht, MapKept.run_getObj_map hb, MapKept.run_setObj_map _ hb, Result.andThen]
 unfold Oper.wp
 simp [execOp, hop, resolve, invoke, builtin, hm, hrun, Result.andThen]
 refine hK' _ _ (hK _ ⟨#[], clock, Go.ChangeMaps.heap_setBlock_same hb _, ⟨by simp, MapKept.stamped_empty _, by simp⟩, Nat.le_refl _, rfl⟩ ?_)
 refine ⟨rfl, rfl, ?_, fun j hj hn => Go.ChangeMaps.heap_setBlock_other hb _ (by simpa using hn)⟩
 simp
theorem flatK_set : ∀ (l : List Bs) (n : Nat) (b : Bs), n < l.length → flatG cK (l.set n b) = (flatG cK l).take (n * 512) ++ cK b ++ (flatG cK l).drop (n * 512 + 512)
 | [], n, b, h => by simp at h
 | x :: l, 0, b, _ => by
  have : (flatG cK (x :: l)) = cK x ++ flatG cK l := by simp [flatG]
  rw [this, Nat.zero_mul, List.take_zero, List.nil_append, Nat.zero_add, List.drop_left' (cK_len x)]
  simp [flatG]
 | x :: l, n + 1, b, h => by
  have e : (flatG cK (x :: l)) = cK x ++ flatG cK l := by simp [flatG]
  have e2 : (flatG cK ((x :: l).set (n + 1) b)) = cK x ++ flatG cK (l.set n b) := by simp [flatG]
  have h1 : (n + 1) * 512 = (cK x).length + n * 512 := by rw [cK_len]; omega
  rw [e, e2, flatK_set l n b (by simpa using h), h1, List.take_length_add_append, Nat.add_assoc, List.drop_length_add_append]
  simp
theorem step_store_K {ops : Array Oper} {o : Oper} {a : Act} {w : World} {K : Act → World → Prop} {Q : Exit → Act → World → Prop} {E : Prop} (hgd : o.guard = none) (x y : Operand) (hop : o.op = Op.store 121 x y) {B n : Nat} {l : List Bs} {b : Bs} {ty : TypeId}
  (hx : a.eval x = .pointer (some ⟨B, n * 512, none⟩)) (hy : a.eval y = .agg (cK b).toArray) (hb : w.heap[B]? = some (.cells (flatG cK l).toArray ty (0, 0))) (hn : n < l.length)
  (hK : K (a.put o.dst undef) (w.setRow B (flatG cK (l.set n b)).toArray)) : if Region.wanted o (yielded ops a.tmps) = true then Oper.wp Tryz.prog o a w K Q else E := by
 have hw : Region.wanted o (yielded ops a.tmps) = true := by simp [Region.wanted, hgd]
 rw [if_pos hw]
 have hl := flatG_len TK l
 have h1 : ∀ v ∈ cK b, v.oneCell' = true := oneK [b] b (by simp)
 have hr := run_storeCells_at Tryz.prog B (n * 512) ty (cK b) 0 (flatG cK l).toArray w hb (by rw [cK_len, List.size_toArray, hl]; omega) h1
 have hst : (Instr.storeAt 121 (.pointer (some ⟨B, n * 512, none⟩)) (.agg (cK b).toArray)).run Tryz.prog w = .ok () (w.setRow B (flatG cK (l.set n b)).toArray) := by
  have hi := sizeK
  cases hq : Tryz.prog.info? 121 with
  | none => simp [hq] at hi
  | some i =>
   have hs : i.size = 512 := by simpa [hq] using hi
   rw [flatK_set l n b hn]
   simp only [Nat.add_zero, cK_len] at hr
   simp only [Instr.storeAt, Instr.sureAddr, Sem.run_bind, Sem.run_pure, Result.andThen_ok]
   simp [storeVar, sizeOf, typeInfo, hq, Value.cells, hs, cK_len, hr]
 unfold Oper.wp
 simp only [execOp, hop, hx, hy, Sem.run_bind, hst, Result.andThen_ok]
 exact hK
theorem upd_setRow (w : World) (b : Nat) (cs : Array Value) : Upd [b] w (w.drew.setRow b cs) := by
 refine ⟨rfl, rfl, ?_, fun k hk hn => ?_⟩
 ·show w.heap.size ≤ (w.heap.modify b _).size
  rw [Array.size_modify]
  exact Nat.le_refl _
 ·show (w.heap.modify b _)[k]? = _
  rw [Array.getElem?_modify, if_neg (fun e => hn (by rw [e]; exact List.mem_singleton.2 rfl))]
def midL (D : Dev) (L : List (Nat × Value)) (left : Lit → Bool) : List Bs := (List.range D.n).map fun i => if (getA L i).isSome && !left (.int .i64 i) then (D.blk i).view else (D.blk i).safe
theorem midL_len (D : Dev) (L : List (Nat × Value)) (left : Lit → Bool) : (midL D L left).length = D.n := by simp [midL]
theorem midL_start (D : Dev) (L : List (Nat × Value)) : midL D L (Maps.has (dataI L)) = safeL D := by
 unfold midL safeL
 apply List.map_congr_left
 intro i _
 rw [dataI_eq, has_dataA keyI]
 cases (getA L i).isSome <;> simp
theorem midL_end {w : World} {p : Nat} {D : Dev} {sb mb : Nat} {L : List (Nat × Value)} {ops : Int} (h : DevR w p D sb mb L ops) {left : Lit → Bool} (hl : ∀ kl, left kl = false) : midL D L left = (List.range D.n).map fun i => (D.blk i).view := by
 unfold midL
 apply List.map_congr_left
 intro i _
 rw [hl]
 cases hg : getA L i with
 | none => simp [view_safe (h.rest i hg)]
 | some v => simp
theorem midL_step (D : Dev) {L : List (Nat × Value)} {n : Nat} {v : Value} (hm : getA L n = some v) (left : Lit → Bool) : midL D L (fun z => left z && !z.sameKey (.int .i64 n)) = (midL D L left).set n (D.blk n).view := by
 apply List.ext_getElem (by simp [midL])
 intro i h1 h2
 rw [List.getElem_set]
 simp only [midL, List.getElem_map, List.getElem_range]
 have e : (Lit.int .i64 (i : Int)).sameKey (.int .i64 (n : Int)) = decide (i = n) := keyI.same i n
 rw [e]
 by_cases hi : n = i
 ·subst hi
  simp [hm]
 ·rw [if_neg hi]
  have : decide (i = n) = false := by simp; omega
  rw [this]
  simp
theorem next_I {L : List (Nat × Value)} {x : Int} {v : Value} (hat : ∀ zd, (dataI L).atKey (.int .i64 x) zd = .held v) : ∃ n : Nat, x = n ∧ (n, v) ∈ L := by
 have h := hat (.map [])
 unfold dataI DataW.atKey at h
 dsimp only at h
 split at h
 ·rename_i p hf
  have hm := List.mem_of_find?_eq_some hf
  have hk := List.find?_some hf
  obtain ⟨q, hq, rfl⟩ := List.mem_map.1 hm
  dsimp only at h hk
  cases h
  refine ⟨q.1, ?_, hq⟩
  have : decide (IntKind.i64 = IntKind.i64 ∧ (q.1 : Int) = x) = true := hk
  simp only [decide_eq_true_eq] at this
  exact this.2.symm
 ·cases h
theorem DevR.flushed {w w' : World} {p : Nat} {D : Dev} {sb mb : Nat} {L : List (Nat × Value)} {ops : Int} (h : DevR w p D sb mb L ops) (hu : Upd [sb, mb] w w')
  (hs : w'.heap[sb]? = some (.cells (flatG cK ((List.range D.n).map fun i => (D.blk i).view)).toArray 121 (0, 0))) (hm : w'.ownsMap (H := Value) Tryz.prog 3 opq mb 0 (.map [])) :
  DevR w' p { D with blk := exec1 D.blk .flush } sb mb [] ops := by
 have hnd := h.nodup
 simp only [footD, List.nodup_cons, List.mem_cons, not_or] at hnd
 obtain ⟨⟨a1, a2, -⟩, ⟨a4, -⟩, -⟩ := hnd
 refine ⟨(hu.block p (lt_of_blk h.box) (by simp; exact ⟨a1, a2⟩)).trans h.box, hs, hm, List.Pairwise.nil, by simp, fun i _ => rfl, ?_, h.n1, h.n2, h.f1, h.f2, h.sized.exec1 trivial, fun i => Nat.zero_le _⟩
 simp only [footD, List.map_nil, List.nodup_cons, List.mem_cons, List.not_mem_nil, or_false, not_or, not_false_eq_true, List.nodup_nil, and_true]
 exact ⟨⟨a1, a2⟩, a4⟩
set_option maxRecDepth 100000 in
set_option maxHeartbeats 4000000 in
theorem flush_ok (w : World) {p : Nat} {D : Dev} {F : List Nat} (h : DevAt w p D F) (hwr : D.wr ≤ 137438953472) :
  Calls Tryz.prog 105 #[.pointer (some ⟨p, 0, none⟩)] w (WritePost w p D F [.flush]) := by
 obtain ⟨sb, mb, L, ops, h, rfl⟩ := h
 have HO := Lib.hid (operate_ok w h 0 (by have := h.n1; omega))
 have HD := Lib.hid h
 have hn2 := h.n2
 have hpF : p ∈ footD p sb mb L := by simp [footD]
 clear h
 go_enter Tryz.func105, Tryz.ntmps105
 go_wp2_with fail
 refine HO.out.mono ?_
 rintro r w1 ⟨e, fuse, down, ops', rfl, T⟩
 have HT := Lib.hid T
 have HR := Lib.hid (HD.out.ticked T)
 by_cases he : e = 0
 ·subst he
  have c1 := cell_blk T.box 1
  simp only [List.getElem?_toArray, List.getElem?_cons_zero, List.getElem?_cons_succ] at c1
  have hmap := HR.out.map
  have hfoot := HR.out.nodup
  simp only [footD, List.nodup_cons, List.mem_cons, not_or] at hfoot
  have hlen : ∀ i, (D.blk i).pend.length ≤ 137438953472 := fun i => Nat.le_trans (HD.out.cnt i) hwr
  have hsb := lt_of_blk HR.out.safe
  have hmb := World.ownsMap.lt HR.out.map
  have hpl := lt_of_blk HR.out.box
  have Hlen := Lib.hid hlen
  clear T hlen
  go_wp2_with (first
   | (at_range; refine wpList_range_own _ rfl _ 117 rfl 3 116 lawI Tryz.underlying117 _ mb _ _ rfl hmap ?_; intro w0 hrg0 hg0 hs0)
   | fail)
  go_frame
  go_loopw [4] (fun _ wr => ∃ (left : Lit → Bool) (cnt : Nat), wr.ranges (H := Value) Tryz.prog 3 opq mb w1.heap.size L.length (dataI L) left cnt ∧ Hid (wr.heap[sb]? = some (.cells (flatG cK (midL D L left)).toArray 121 (0, 0))) ∧ Hid (Upd [sb] w1 wr))
   (fun _ wr => wr.rangeLeft mb w1.heap.size)
  case atStart =>
   refine ⟨_, _, hrg0, Lib.hid ?_, Lib.hid ⟨hg0.os, hg0.output, hg0.size, fun k hk _ => hg0.block k hk (by simp)⟩⟩
   rw [midL_start, hg0.block sb hsb (by simp)]
   exact HR.out.safe
  case round =>
   obtain ⟨left, cnt, hrg, HS, HU⟩ := hrel
   have c1 : wr.cell? ⟨p, 1, none⟩ = some (.map (some mb)) := (World.cell?_of_block (HU.out.block p hpl (by simp; exact hfoot.1.1))).trans c1
   go_wp2_with (first
    | (at_next; refine wpList_next_ranges _ rfl _ rfl 3 lawI opq (Value.int .i64) (fun v : Value => v) (fun key kl hk => by obtain ⟨x, hx, -⟩ := keyOf_int_inv Tryz.underlying3 hk; exact ⟨x, hx⟩) (fun v y hv => ⟨v, rfl⟩) mb w1.heap.size L.length _ _ _ rfl hrg ?_ ?_)
    | fail)
   ·intro hc0 hl0
    have hown := hrg.owns
    clear hrg
    go_wp2_with (first
     | (refine wpList_clear_own (o := ⟨none, _, _, _, _, _⟩) rfl _ 117 rfl Tryz.underlying117 rfl hown ?_; intro w3 hm3 hu3)
     | fail)
    go_ret
    have hu := HU.out.mono (G := [sb, mb]) (fun k hk _ => by simp at hk ⊢; exact .inl hk)
    have hu4 : Upd [sb, mb] w1 w3 := hu.trans (hu3.mono fun k hk _ => by simp at hk ⊢; exact .inr hk)
    have hs4 := HS.out
    have hme : midL D L left = (List.range D.n).map fun i => (D.blk i).view := midL_end HR.out hl0
    rw [hme] at hs4
    have hd := HR.out.flushed hu4 ((hu3.block sb (lt_of_blk hs4) (by simp; exact hfoot.2.1.1)).trans hs4) hm3
    have hTe := HT.out.eff
    refine ⟨0, { n := D.n, blk := exec1 D.blk .flush, fuse := fuse, down := down, wr := D.wr }, _, rfl, ⟨rfl, by simp, .inl ⟨rfl, hTe.up.1, hTe.up.2.1, hTe.up.2.2.1, rfl⟩⟩, ⟨sb, mb, [], ops', hd, rfl⟩, ?_, ?_⟩
    ·refine (HT.out.upd.mono (fun k hk _ => by obtain rfl := List.mem_singleton.1 hk; exact hpF)).trans (hu4.mono fun k hk _ => ?_)
     simp only [List.mem_cons, List.not_mem_nil, or_false] at hk
     rcases hk with rfl | rfl <;> simp [footD]
    ·intro k hk
     simp only [footD, List.map_nil, List.mem_cons, List.not_mem_nil, or_false] at hk ⊢
     rcases hk with rfl | rfl | rfl <;> simp
   ·intro x v kl y1 y2 w2 cnt2 hkey hlk hv hat hrg1 hlt hg1 hs1 hen
    obtain ⟨x', hx', rfl, -⟩ := keyOf_int_inv Tryz.underlying3 hkey
    cases hx'
    simp only [opq, Option.some.injEq, Prod.mk.injEq] at hv
    obtain ⟨rfl, rfl⟩ := hv
    obtain ⟨k, rfl, hm⟩ := next_I hat
    have hgk := getA_of_mem ordI HR.out.srt hm
    obtain ⟨hown, hne, hkn⟩ := HR.out.row (k, v) hm
    dsimp only at hown hne hkn
    obtain ⟨g, c, rfl, hrg2⟩ := hown.lastK hne
    have hU2 : Upd [sb] w1 w2 := Upd.grown HU.out hg1 (fun k hk => by cases hk; exact Nat.le_refl _)
    have hgb := hown.block g rfl
    have hgsb : g ≠ sb := fun e => hfoot.2.1.2 (List.mem_map.2 ⟨(k, _), hm, by simp [blkOfV, Value.ownBlock, e]⟩)
    have c0' := cell_blk HR.out.box 0
    simp only [List.getElem?_toArray, List.getElem?_cons_zero] at c0'
    have c0 : w2.cell? ⟨p, 0, none⟩ = some (.slice (some ⟨sb, 0, none⟩) D.n D.n) := (World.cell?_of_block (hU2.block p hpl (by simp; exact hfoot.1.1))).trans c0'
    have hrg3 : w2.rangeAt g (((D.blk k).pend.length - 1) * 512) (cK ((D.blk k).pend.getLast hne)) := rangeAt_keep hrg2 (hU2.block g hgb.2 (by simp; exact hgsb))
    have hpos : 0 < (D.blk k).pend.length := List.length_pos_iff.2 hne
    have hcap := Hlen.out k
    have hvw : (D.blk k).view = (D.blk k).pend.getLast hne := view_pend hne
    have hS2 : w2.heap[sb]? = some (.cells (flatG cK (midL D L left)).toArray 121 (0, 0)) := (hg1.block sb (lt_of_blk HS.out) (by simp; omega)).trans HS.out
    have hm0 : wr.rangeLeft mb w1.heap.size = cnt := hrg.left_eq
    generalize (D.blk k).pend.getLast hne = lst at *
    generalize (D.blk k).pend.length = m at *
    have hm1 : (m : Int) - 1 = ((m - 1 : Nat) : Int) := by omega
    generalize hm1' : m - 1 = m1 at *
    have hw1 : IntKind.i64.wrap (m1 : Int) = (m1 : Int) := IntWalk.i64_in _ (by omega)
    have l1 : (m1 : Int) < (m : Int) := by omega
    have l2 : (k : Int) < (D.n : Int) := by omega
    clear hown hrg2 hrg hkey hlk hat hg1 hs1
    have hu105 := Tryz.underlying121
    have hi105 : (Tryz.prog.info? 121).map (·.size) = some (cK lst).length := by rw [cK_len]; exact sizeK
    have hcK : 0 < (cK lst).length := by rw [cK_len]; omega
    have hu3 : Upd [sb] w2 (w2.drew.setRow sb (flatG cK ((midL D L left).set k lst)).toArray) := upd_setRow _ _ _
    go_wp2_with fail
    refine wp_region_noPanic ?_
    refine wp_region_held_drew (S := fun w' => w'.cell? ⟨p, 0, none⟩ = some (.slice (some ⟨sb, 0, none⟩) D.n D.n) ∧ w'.rangeAt g (m1 * 512) (cK lst)) (by kernel_rfl) (heldW (Upd.refl [] w2).drew (by simp) (by simp) hcK ⟨c0, hrg3⟩) (fun hHeld => ?_)
    refine wpAnyH_take (i := 0) (oi := ⟨some 21, _, _, _, _, _⟩) (v := .pointer (some ⟨p, 0, none⟩)) rfl (by kernel_rfl) (by kernel_rfl) (by kernel_rfl) (fun _ _ _ h => h) (Or.inl ⟨by rfl, by (intro W hSW; obtain ⟨hS1, hS2⟩ := hSW; go_simp)⟩) hHeld ?_
    simp only [Act.put, List.setIfInBounds_toArray, List.set_cons_zero, List.set_cons_succ]
    refine wpAnyH_take (i := 1) (oi := ⟨some 22, _, _, _, _, _⟩) (v := .pointer (some ⟨p, 0, none⟩)) rfl (by kernel_rfl) (by kernel_rfl) (by kernel_rfl) (fun _ _ _ h => h) (Or.inl ⟨by rfl, by (intro W hSW; obtain ⟨hS1, hS2⟩ := hSW; go_simp)⟩) hHeld ?_
    simp only [Act.put, List.setIfInBounds_toArray, List.set_cons_zero, List.set_cons_succ]
    refine wpAnyH_take (i := 2) (oi := ⟨some 23, _, _, _, _, _⟩) (v := .pointer (some ⟨p, 0, none⟩)) rfl (by kernel_rfl) (by kernel_rfl) (by kernel_rfl) (fun _ _ _ h => h) (Or.inl ⟨by rfl, by (intro W hSW; obtain ⟨hS1, hS2⟩ := hSW; go_simp)⟩) hHeld ?_
    simp only [Act.put, List.setIfInBounds_toArray, List.set_cons_zero, List.set_cons_succ]
    refine wpAnyH_take (i := 3) (oi := ⟨some 24, _, _, _, _, _⟩) (v := .slice (some ⟨sb, 0, none⟩) D.n D.n) rfl (by kernel_rfl) (by kernel_rfl) (by kernel_rfl) (fun _ _ _ h => h) (Or.inl ⟨by rfl, by (intro W hSW; obtain ⟨hS1, hS2⟩ := hSW; go_simp)⟩) hHeld ?_
    simp only [Act.put, List.setIfInBounds_toArray, List.set_cons_zero, List.set_cons_succ]
    refine wpAnyH_take (i := 4) (oi := ⟨some 25, _, _, _, _, _⟩) (v := .int .i64 k) rfl (by kernel_rfl) (by kernel_rfl) (by kernel_rfl) (fun _ _ _ h => h) (Or.inl ⟨by rfl, by (intro W hSW; obtain ⟨hS1, hS2⟩ := hSW; go_simp)⟩) hHeld ?_
    simp only [Act.put, List.setIfInBounds_toArray, List.set_cons_zero, List.set_cons_succ]
    refine wpAnyH_take (i := 5) (oi := ⟨some 26, _, _, _, _, _⟩) (v := .slice (some ⟨g, 0, none⟩) m c) rfl (by kernel_rfl) (by kernel_rfl) (by kernel_rfl) (fun _ _ _ h => h) (Or.inl ⟨by rfl, by (intro W hSW; obtain ⟨hS1, hS2⟩ := hSW; go_simp)⟩) hHeld ?_
    simp only [Act.put, List.setIfInBounds_toArray, List.set_cons_zero, List.set_cons_succ]
    refine wpAnyH_take (i := 6) (oi := ⟨some 27, _, _, _, _, _⟩) (v := .slice (some ⟨g, 0, none⟩) m c) rfl (by kernel_rfl) (by kernel_rfl) (by kernel_rfl) (fun _ _ _ h => h) (Or.inl ⟨by rfl, by (intro W hSW; obtain ⟨hS1, hS2⟩ := hSW; go_simp)⟩) hHeld ?_
    simp only [Act.put, List.setIfInBounds_toArray, List.set_cons_zero, List.set_cons_succ]
    refine wpAnyH_take (i := 7) (oi := ⟨some 28, _, _, _, _, _⟩) (v := .int .i64 m) rfl (by kernel_rfl) (by kernel_rfl) (by kernel_rfl) (fun _ _ _ h => h) (Or.inl ⟨by rfl, by (intro W hSW; obtain ⟨hS1, hS2⟩ := hSW; go_simp)⟩) hHeld ?_
    simp only [Act.put, List.setIfInBounds_toArray, List.set_cons_zero, List.set_cons_succ]
    refine wpAnyH_take (i := 8) (oi := ⟨some 29, _, _, _, _, _⟩) (v := .int .i64 m1) rfl (by kernel_rfl) (by kernel_rfl) (by kernel_rfl) (fun _ _ _ h => h) (Or.inl ⟨by rfl, by (intro W hSW; obtain ⟨hS1, hS2⟩ := hSW; go_simp)⟩) hHeld ?_
    simp only [Act.put, List.setIfInBounds_toArray, List.set_cons_zero, List.set_cons_succ]
    refine wpAnyH_take (i := 9) (oi := ⟨some 30, _, _, _, _, _⟩) (v := .pointer (some ⟨g, m1 * 512, none⟩)) rfl (by kernel_rfl) (by kernel_rfl) (by kernel_rfl) (fun _ _ _ h => h) (Or.inl ⟨by rfl, by (intro W hSW; obtain ⟨hS1, hS2⟩ := hSW; go_simp)⟩) hHeld ?_
    simp only [Act.put, List.setIfInBounds_toArray, List.set_cons_zero, List.set_cons_succ]
    refine' wpAnyH_take (i := 10) (oi := ⟨some 31, _, _, _, _, _⟩) (v := _) rfl (by kernel_rfl) (by kernel_rfl) (by kernel_rfl) (fun _ _ _ h => h) (yieldsIf_load_mid (by rfl) _ _ rfl g (m1 * 512) rfl (cK lst) _ ?hS ?hu ?hd ?hi) hHeld ?rest
    case hS => exact fun W hW => hW.2
    case hu => exact hu105
    case hd => rfl
    case hi => exact hi105
    simp only [Act.put, List.setIfInBounds_toArray, List.set_cons_zero, List.set_cons_succ]
    refine wpAnyH_take (i := 11) (oi := ⟨some 32, _, _, _, _, _⟩) (v := .pointer (some ⟨sb, k * 512, none⟩)) rfl (by kernel_rfl) (by kernel_rfl) (by kernel_rfl) (fun _ _ _ h => h) (Or.inl ⟨by rfl, by (intro W hSW; obtain ⟨hS1, hS2⟩ := hSW; go_simp)⟩) hHeld ?_
    simp only [Act.put, List.setIfInBounds_toArray, List.set_cons_zero, List.set_cons_succ]
    refine wpAnyH_ready (rs := [12]) (by kernel_rfl) (by simp) ?_
    refine AllReadyH.cons (o := ⟨none, _, _, _, _, _⟩) rfl (fun K hK => ?_) AllReadyH.nil
    refine step_store_K (by rfl) _ _ (by rfl) (B := sb) (n := k) (l := midL D L left) (b := lst) (by rfl) (by rfl) hS2 (by rw [midL_len]; exact hkn) ?_
    refine hK.out _ _ (heldW hu3 (by simp; exact hfoot.1.1) (by simp; exact hgsb) hcK ⟨c0, hrg3⟩) (fun _ => ?_)
    clear hK K
    refine wpAnyH_done (by kernel_rfl) ?_ _
    refine NoPanic.normal ?_
    simp only [Act.put]
    go_wp2_with fail
    have hg3 : w2.grownBy (w2.drew.setRow sb (flatG cK ((midL D L left).set k lst)).toArray) (some sb) := ⟨hu3.os, rfl, hu3.output, hu3.size, fun i hi hne => hu3.block i hi (by simp; intro e; exact hne (by rw [e]))⟩
    have hrg4 := hrg1.kept hg3 (by simp; exact fun e => hfoot.2.1.1 e.symm) (by simp; omega)
    refine ⟨⟨_, cnt2, hrg4, Lib.hid ?_, Lib.hid (hU2.trans hu3)⟩, ?_⟩
    ·rw [midL_step D hgk, hvw]
     exact setRow_heap _ _ _ _ _ _ hS2
    ·rw [hm0, hrg4.left_eq]
     exact hlt
 ·have he' : ¬ (e : Int) = 0 := by omega
  go_wp2_with fail
  go_ret
  exact ⟨e, _, _, rfl, HT.out.eff.stop [.flush] he, ⟨sb, mb, L, ops', HR.out, rfl⟩, HT.out.upd.mono (fun k hk _ => by obtain rfl := List.mem_singleton.1 hk; exact hpF), fun k hk => .inl hk⟩
end Go.Proofs.YtgpefiacbipfpaaGreatDoor

namespace Go.Proofs.YtgpefiacbipfpaaGreatDoor
open Go.RowKit Go.Maps
def Dev.new (n : Nat) : Dev := ⟨n, fun _ => ⟨zeroB, []⟩, -1, false, 0⟩
theorem flatK_zero (n : Nat) : flatG cK (List.replicate n zeroB) = List.replicate (n * 512) (.int .u8 0) := by
 induction n with
 | zero => simp [flatG]
 | succ n ih =>
  rw [List.replicate_succ]
  show cK zeroB ++ flatG cK (List.replicate n zeroB) = _
  rw [ih, cK_zero, List.replicate_append_replicate]
  congr 1
  omega
theorem madeK (n : Nat) : madeCells nK (n * 512) = (flatG cK (List.replicate n zeroB)).toArray := by
 rw [flatK_zero]
 apply Array.ext
 ·rw [size_madeCells]; simp
 ·intro i h1 h2
  simp only [madeCells, Array.getElem_map, Array.getElem_range, List.getElem_toArray, List.getElem_replicate]
  have h : i % nK.size < nK.size := Nat.mod_lt _ (by rw [size_nK]; omega)
  rw [getElem!_pos nK (i % nK.size) h]
  exact Array.getElem_replicate ..
theorem wpList_make_K {w : World} {ops : Array Oper} {rest : List Oper} {o : Oper} {a : Act} {Q : Exit → Act → World → Prop} (hg : o.guard = none) (x y : Operand) (hop : o.op = Op.makeSlice 116 x y) {n : Nat} (hn : n ≤ 512)
  (hx : a.eval x = .int .i64 n) (hy : a.eval y = .int .i64 n)
  (h : wpList Tryz.prog ops Q rest (a.put o.dst (.slice (some ⟨w.heap.size, 0, none⟩) n n)) (w.alloc (.cells (flatG cK (List.replicate n zeroB)).toArray 121))) : wpList Tryz.prog ops Q (o :: rest) a w := by
 refine wpList_plain hg fun K' hK' => ?_
 obtain ⟨i, h0, h1, h2, h3⟩ := info_parts infoK
 have hrun := run_make (P := Tryz.prog) w 116 121 i _ Tryz.underlying116 h0 h1 .i64 .i64 (n : Int) (n : Int) (by omega) (Int.le_refl _) (by rw [h3]; omega) (by omega)
 have e : madeCells (Value.agg nK).cells (Int.toNat (n : Int) * 512) = (flatG cK (List.replicate n zeroB)).toArray := by
  rw [Int.toNat_natCast]
  exact madeK n
 rw [h2] at hrun
 have e' : madeCells (Value.agg (Array.replicate 512 (.int .u8 0))).cells (Int.toNat (n : Int) * 512) = (flatG cK (List.replicate n zeroB)).toArray := e
 rw [e', Int.toNat_natCast] at hrun
 unfold Oper.wp
 simp only [execOp, hop, hx, hy, Sem.run_bind, hrun, Result.andThen_ok]
 exact hK' _ _ h
def NewPost (w : World) (n : Nat) (r : Ending) (w' : World) : Prop := ∃ (p : Nat) (F : List Nat), r = .returned (.tuple #[.pointer (some ⟨p, 0, none⟩), .int .i64 0]) ∧ DevAt w' p (Dev.new n) F ∧ Upd [] w w' ∧ ∀ k ∈ F, w.heap.size ≤ k
set_option maxRecDepth 100000 in
set_option maxHeartbeats 2000000 in
theorem new_ok (w : World) (n : Nat) (h1 : 64 ≤ n) (h2 : n ≤ 512) : Calls Tryz.prog 31 #[.int .i64 n] w (NewPost w n) := by
 have l1 : ¬ (n : Int) < 64 := by omega
 have l2 : ¬ (512 : Int) < (n : Int) := by omega
 have hmm := @run_makeMap Tryz.prog
 go_enter Tryz.func31, Tryz.ntmps31
 go_wp2_with (first
  | (refine wpList_make_K rfl _ _ rfl h2 rfl rfl ?_)
  | fail)
 go_ret2
 refine ⟨_, _, rfl, ⟨w.heap.size, w.heap.size + 1, [], 0, ?_, rfl⟩, (((Upd.refl [] w).alloc _).alloc _).alloc _, ?_⟩
 ·have e1 : (safeL (Dev.new n)) = List.replicate n zeroB := List.eq_replicate_iff.2 ⟨safeL_len _, fun b hb => by obtain ⟨i, -, rfl⟩ := List.mem_map.1 hb; rfl⟩
  refine ⟨?_, ?_, ?_, List.Pairwise.nil, by simp, fun i _ => rfl, ?_, h1, h2, by simp [Dev.new], by simp [Dev.new], ?_, fun i => Nat.zero_le _⟩
  ·rw [heap_alloc, if_pos (by simp)]; rfl
  ·rw [e1, heap_alloc, if_neg (by simp; omega), heap_alloc, if_neg (by simp), heap_alloc, if_pos rfl]
  ·have h := World.ownsMap_made (H := Value) (w.alloc (.cells (flatG cK (List.replicate n zeroB)).toArray 121)) Tryz.prog 3 opq
   have e2 : (w.alloc (.cells (flatG cK (List.replicate n zeroB)).toArray 121)).heap.size = w.heap.size + 1 := by simp
   rw [e2] at h
   exact owns_upd h ((Upd.refl [] _).alloc _) (by simp)
  ·simp [footD]; omega
  ·intro i b hb
   simp only [Dev.new, Cell.poss, List.mem_cons, List.not_mem_nil, or_false] at hb
   subst hb
   exact zeroB_len
 ·intro k hk
  simp only [footD, List.map_nil, List.mem_cons, List.not_mem_nil, or_false] at hk
  rcases hk with rfl | rfl | rfl <;> omega
end Go.Proofs.YtgpefiacbipfpaaGreatDoor

namespace Go.Proofs.YtgpefiacbipfpaaGreatDoor
open Go.RowKit Go.Maps
end Go.Proofs.YtgpefiacbipfpaaGreatDoor
