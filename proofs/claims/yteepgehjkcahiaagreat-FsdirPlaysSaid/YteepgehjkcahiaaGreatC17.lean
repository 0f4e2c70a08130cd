/- The log's waiting: a commit waits. The log's Open. fsdir's log: the journal with a cache ahead of it: get. -/
import Derived.Deep.DeepCutAuto
import Derived.Test.YteepgehjkcahiaaGreatC16
import Derived.Test.YteepgehjkcahiaaGreatC06
namespace Go.Proofs.YteepgehjkcahiaaGreat
open Go.RowKit Go.Maps
theorem Rd.own_lt {w : World} {v : Value} {l : Bs} (h : Rd w v l) (hne : l ≠ []) : ∀ g, v.ownBlock = some g → g < w.heap.size := by
 intro g hg
 obtain ⟨a, c, rfl, -⟩ := h.slice
 obtain ⟨-, -, -, hc⟩ := h.cell
 have hl : 0 < l.length := List.length_pos_iff.2 hne
 obtain ⟨b, off, rfl, hcell⟩ := hc hl
 cases hg
 exact cell_lt (hcell 0 hl)
def restAt (ws : List Wr) (tl : Bs) (i : Nat) : Bs := ((ws.drop i).flatMap fun x => putU x.1) ++ tl
theorem restAt_step (tl : Bs) {ws : List Wr} {i : Nat} {y : Wr} (h : ws[i]? = some y) : restAt ws tl i = putU y.1 ++ restAt ws tl (i + 1) := by
 obtain ⟨hi, rfl⟩ := List.getElem?_eq_some_iff.1 h
 unfold restAt
 rw [List.drop_eq_getElem_cons hi, List.flatMap_cons, List.append_assoc]
structure Got (w : World) (base : Nat) (v : Value) (ws : List Wr) (L : List WrC) : Prop where
 own : OwnG cW 145 2 w base v L
 at_ : ∀ (i : Nat) (x : WrC), L[i]? = some x → ∃ y, ws[i]? = some y ∧ x.at_ = y.1 ∧ Rd w (.slice x.a x.n x.c) y.2 ∧ ∀ g, (Value.slice x.a x.n x.c).ownBlock = some g → base ≤ g ∧ g < w.heap.size ∧ v.ownBlock ≠ some g
theorem Got.upd {w w' : World} {base : Nat} {v : Value} {ws : List Wr} {L : List WrC} (h : Got w base v ws L) {G : List Nat} (u : Upd G w w') (hG : ∀ k ∈ G, k < base) : Got w' base v ws L := by
 refine ⟨h.own.upd u fun k hk q => by have := (h.own.block k q).1; have := hG k hk; omega, fun i x hx => ?_⟩
 obtain ⟨y, q1, q2, q3, q4⟩ := h.at_ i x hx
 refine ⟨y, q1, q2, q3.upd u (fun g hg q => by have := (q4 g hg).1; have := hG g q; omega), fun g hg => ?_⟩
 obtain ⟨a, b, c⟩ := q4 g hg
 exact ⟨a, Nat.lt_of_lt_of_le b u.size, c⟩
theorem Got.wrs {w : World} {base : Nat} {v : Value} {ws : List Wr} {L : List WrC} (h : Got w base v ws L) (hl : L.length = ws.length) {G : List Nat} (hG : ∀ k ∈ G, k < base) (hok : WOk ws) : WrsAt w G v ws := by
 refine ⟨⟨L, OwnG.rd TW h.own, hl, fun i x y hx hy => ?_⟩, fun g hg => ?_, hok.len, by have := hok.many; omega⟩
 ·obtain ⟨y', q1, q2, q3, q4⟩ := h.at_ i x hx
  rw [hy] at q1
  cases q1
  exact ⟨q2, q3, fun g hg => ⟨fun q => by have := hG g q; have := (q4 g hg).1; omega, (q4 g hg).2.1⟩⟩
 ·have := h.own.block g hg
  exact ⟨fun q => by have := hG g q; omega, this.2⟩
theorem upd_row {w w' : World} {row : Option Nat} (h : w.grownBy w' row) : Upd row.toList w w' := ⟨h.os, h.output, h.size, fun k hk hn => h.block k hk (fun q => hn (by simp [q]))⟩
theorem Got.push {w W w11 : World} {base : Nat} {v v' : Value} {ws : List Wr} {L : List WrC} (h : Got w base v ws L) {p : Nat} (u : Upd [p] w W) (hp : p < base) {x : WrC} {y : Wr} (hy : ws[L.length]? = some y) (hx1 : x.at_ = y.1) (hx2 : Rd W (.slice x.a x.n x.c) y.2) (hx3 : ∀ g, (Value.slice x.a x.n x.c).ownBlock = some g → w.heap.size ≤ g ∧ g < W.heap.size) (hbw : base ≤ w.heap.size)
  (ho : OwnG cW 145 2 w11 base v' (L ++ [x])) (hg : W.grownBy w11 v.ownBlock) (hn : v'.ownBlock = v.ownBlock ∨ ∀ g, v'.ownBlock = some g → W.heap.size ≤ g) : Got w11 base v' ws (L ++ [x]) := by
 have h1 := h.upd u (by simp; omega)
 have hs := hg.size
 refine ⟨ho, fun i x' hx' => ?_⟩
 by_cases hi : i < L.length
 ·rw [List.getElem?_append_left hi] at hx'
  obtain ⟨y', q1, q2, q3, q4⟩ := h1.at_ i x' hx'
  refine ⟨y', q1, q2, q3.upd (upd_row hg) (fun g hg2 q => (q4 g hg2).2.2 (by simpa using q)), fun g hg2 => ?_⟩
  obtain ⟨a, b, c⟩ := q4 g hg2
  refine ⟨a, by omega, fun q => ?_⟩
  rcases hn with e | e
  ·exact c (e ▸ q)
  ·have := e g q; omega
 ·have hl := (List.getElem?_eq_some_iff.1 hx').1
  simp at hl
  obtain rfl : i = L.length := by omega
  rw [List.getElem?_append_right (by omega)] at hx'
  simp at hx'
  subst hx'
  refine ⟨y, hy, hx1, hx2.upd (upd_row hg) (fun g hg2 q => ?_), fun g hg2 => ?_⟩
  ·have e : v.ownBlock = some g := by simpa using q
   have := (h.own.block g e).2
   have := hx3 g hg2
   omega
  ·have h3 := hx3 g hg2
   refine ⟨by omega, by omega, fun q => ?_⟩
   rcases hn with e | e
   ·have := (h.own.block g (e ▸ q)).2; omega
   ·have := e g q; omega
set_option maxRecDepth 100000 in
set_option maxHeartbeats 4000000 in
theorem waiting_some (w : World) {p : Nat} {D : Dev} {F : List Nat} (h : DevAt w p D F) (hwr : D.wr ≤ 137438953000) {j n k : Nat} {dead : Bool} (hl : LogR w j p n k dead) (hjF : j ∉ F) (hk : k < 2 ^ 61) {ws : List Wr} (hok : WOk ws) (hX : (D.blk 2).view = headB (k + 1) ws) (hparts : ∀ (i : Nat) (y : Wr), ws[i]? = some y → (D.blk (3 + i)).view = y.2) (hm0 : 0 < 1) :
  Calls Tryz.prog 112 #[.pointer (some ⟨j, 0, none⟩)] w (WaitPost w p D F fun w' v => WrsAt w' F v ws ∧ ∃ g c, v = .slice (some g) ws.length c) := by
 have HD := Lib.hid h
 have hbn := h.bounds
 have hjp : j ∉ [p] := fun q => hjF (by obtain rfl := List.mem_singleton.1 q; exact h.p_mem)
 have HRd := Lib.hid (read_ok w h 2 (by omega) (by omega))
 have hvl : (D.blk 2).view.length = 512 := h.sized.view 2
 have HL := Lib.hid hl
 have c0 : w.cell? ⟨j, 0, none⟩ = some (.pointer (some ⟨p, 0, none⟩)) := cell_blk hl 0
 have hcv := fun W : World => Go.Lib.run_convert_bytes_const W 32 5 #[.int .u8 99, .int .u8 97, .int .u8 114, .int .u8 116, .int .u8 117, .int .u8 108, .int .u8 97, .int .u8 114, .int .u8 121] 9 9 T8.und Tryz.underlying5
 clear h hl
 go_enter Tryz.func112, Tryz.ntmps112
 go_wp2_with fail
 refine HRd.out.mono ?_
 rintro r w1 ⟨e, D1, v, rfl, hE, hD1, hU1, hv, hv'⟩
 have H1 := Lib.hid (And.intro hE (And.intro hD1 hU1))
 clear hE hD1 hU1 HRd c0
 by_cases he : e = 0
 ·subst he
  obtain ⟨hr1, hr2⟩ := (hv rfl).rd hvl
  obtain ⟨B, hv1, hB, -⟩ := hv rfl
  subst hv1
  have HF := Lib.hid (frame_ok w1 hr1 (by omega))
  have HB1 := Lib.hid hr1
  clear hv hv' hr1 hr2
  go_wp2_with fail
  refine HF.out.mono ?_
  rintro r w2 ⟨⟨v', rfl, hr, hn'⟩, hU2⟩
  have H2 := Lib.hid hU2
  obtain ⟨a', c', m', hm', hmc, hc63, rfl⟩ := hr.sliceM
  have HR := Lib.hid hr
  have HN := Lib.hid hn'
  clear hU2 HF hr hn' hm'
  generalize hG : getFrame (D.blk 2).view = g at *
  have HG := Lib.hid hG
  clear hG
  obtain ⟨x, d, kk, e⟩ := g
  dsimp only at HR ⊢
  go_upto_region 5 with (fail)
  generalize hW3 : w2.alloc _ = w3
  have hu3 : Upd [] w2 w3 := by rw [← hW3]; exact (Upd.refl [] w2).alloc _
  have hX3 : w3.heap[w2.heap.size]? = some (.cells #[.int .u8 x.toNat, .slice a' m' c'] 192) := by rw [← hW3]; exact heap_top _ _
  have y1 : w3.cell? ⟨w2.heap.size, 1, none⟩ = some (.slice a' m' c') := cell_blk hX3 1
  have y1' := fun X : Obj => cell_keep ((Upd.refl [] w3).alloc X) y1
  have H3 := Lib.hid (H2.out.trans hu3)
  have HR3 := Lib.hid (HR.out.keep hu3)
  clear hW3 hX3 hu3
  have hcv3 := hcv w3
  have HMg : Hid (∀ X : Obj, X = .cells #[.int .u8 99, .int .u8 97, .int .u8 114, .int .u8 116, .int .u8 117, .int .u8 108, .int .u8 97, .int .u8 114, .int .u8 121] 5 (9, 10) → Rd (w3.alloc X) (.slice (some ⟨w3.heap.size, 0, none⟩) 9 9) magicJ) := Lib.hid fun X hX => by subst hX; exact rd_new (l := magicJ) (heap_top _ _) (by decide)
  go_wp2_with fail
  generalize hX4 : Obj.cells _ _ _ = X4
  have HW34 : w3.heap.size ≤ (w3.alloc X4).heap.size := by simp
  have hmg4 := HMg.out X4 hX4.symm
  have hr4 := HR3.out.keep ((Upd.refl [] w3).alloc X4)
  have H4 := Lib.hid (H3.out.alloc X4)
  generalize w3.alloc X4 = w4 at *
  clear hX4 y1' y1 hcv3 HMg
  have c2 : w4.cell? ⟨j, 2, none⟩ = some (.int .u64 k) := cell_upd H4.out (by simp) (cell_upd H1.out.2.2 hjp (cell_blk HL.out 2))
  have hU4 : Upd [p] w w4 := H1.out.2.2.trans (H4.out.mono (by simp))
  have hbl := headBody_magic (k + 1) ws
  obtain ⟨kk2, hgf⟩ := getFrame_headB (n := k + 1) (w := ws) (by omega) hok
  have hg := HG.out
  rw [hX, hgf] at hg
  simp only [Prod.mk.injEq] at hg
  obtain ⟨rfl, rfl, -, rfl⟩ := hg
  refine (cutPrefix_yes w4 hr4 hmg4 (by rw [hbl]; exact List.prefix_append _ _) (by rw [hbl]; simp [magicJ]; have := putU_pos (k + 1); omega)).mono ?_
  rintro r w5 ⟨v5, rfl, hr5, rfl, hb5⟩
  rw [hbl, List.drop_left] at hr5
  have hu5 := uint_ok w5 hr5
  rw [getUint_putU (by omega)] at hu5
  dsimp only at hu5
  obtain ⟨tl, htl⟩ : ∃ tl, tl = put32 (sumB (put32 0 ++ (ws.flatMap fun x => x.2) ++ headPre (k + 1) ws)) := ⟨_, rfl⟩
  have hr0 : ((ws.flatMap fun x => putU x.1) ++ tl) = restAt ws tl 0 := rfl
  rw [← htl, hr0] at hr5
  obtain ⟨a5, k5, m5, -, -, -, rfl⟩ := hr5.sliceM
  clear hbl hgf hr4 hmg4
  have e1 : ((k + 1 : Nat) : Int) = (k : Int) + 1 := by omega
  rewrite [e1] at hu5
  have hwk : IntKind.u64.wrap ((k : Int) + 1) = (k : Int) + 1 := by rw [IntKind.wrap_u64]; omega
  have hl1 : (putU (k + 1)).length ≤ (putU (k + 1) ++ (putU ws.length ++ restAt ws tl 0)).length := by simp
  have hpl := putU_len64 (n := k + 1) (by omega)
  go_wp2_with fail
  refine hu5.mono ?_
  rintro r w6 ⟨rfl, rfl⟩
  clear hu5
  generalize hpk : (putU (k + 1)).length = pk at *
  have hd0 : (putU (k + 1) ++ (putU ws.length ++ restAt ws tl 0)).drop pk = putU ws.length ++ restAt ws tl 0 := by rw [← hpk, List.drop_left]
  have hm16 := hok.many
  have hpw1 : (putU ws.length).length ≤ 1 := putU_len 0 _ (by omega)
  have hpw2 := putU_pos ws.length
  have hd1 : (putU (k + 1) ++ (putU ws.length ++ restAt ws tl 0)).drop (pk + (putU ws.length).length) = restAt ws tl 0 := by rw [← List.drop_drop, hd0, List.drop_left]
  have hl2 : pk + (putU ws.length).length ≤ (putU (k + 1) ++ (putU ws.length ++ restAt ws tl 0)).length := by rw [List.length_append, List.length_append, hpk]; omega
  generalize hpw : (putU ws.length).length = pw at *
  have HR5 := Lib.hid hr5
  have HD1 := Lib.hid hd1
  clear hr5 hpk hd1
  go_wp2_with (first
   | (refine wpList_tail8 rfl _ _ rfl HR5.out hl1 rfl rfl ?_; intro a7 c7 m7 hm7 hr7 hb7; rw [hd0] at hr7; have HR7 := Lib.hid hr7; clear hm7 hr7 hb7)
   | fail)
  have hu7 := uint_ok w6 HR7.out
  rw [getUint_putU (by omega), hpw] at hu7
  dsimp only at hu7
  clear hd0 hpw hl1
  refine hu7.mono ?_
  rintro r w7 ⟨rfl, rfl⟩
  clear hu7
  go_wp2_with (first
   | (refine wpList_tail8 rfl _ _ rfl HR5.out hl2 rfl (by first | rfl | (simp; done)) ?_; intro a8 c8 m8 hm8 hr8 hb8; rw [HD1.out] at hr8; have HR8 := Lib.hid hr8; have HB8 := Lib.hid hb8; clear hm8 hr8 hb8)
   | fail)
  have hX8 := heap_top w7 (.cells #[] 145)
  have hu8 : Upd [] w7 (w7.alloc (.cells #[] 145)) := (Upd.refl [] w7).alloc _
  have hsz8 : w7.heap.size < (w7.alloc (.cells #[] 145)).heap.size := by simp
  have HG0 : Hid (Got (w7.alloc (.cells #[] 145)) w.heap.size (.slice (some ⟨w7.heap.size, 0, none⟩) 0 0) ws []) := Lib.hid ⟨OwnG.empty TW hX8 hU4.size, fun i x hx => by simp at hx⟩
  generalize w7.alloc (.cells #[] 145) = w8 at *
  have HU8 := Lib.hid (H4.out.trans hu8)
  have hs17 := H4.out.size
  have HR9 := Lib.hid (HR8.out.keep hu8)
  have hs1 := H1.out.2.2.size
  have HB9 : Hid (∀ g, (Value.slice a8 m8 c8).ownBlock = some g → w.heap.size ≤ g ∧ g ≠ w7.heap.size) := Lib.hid fun g hg => by
   have h1 := HB8.out g hg
   rw [hb5] at h1
   have h2 := HN.out g h1
   have h3 := HR3.out.own_lt (by rw [headBody_magic]; simp [magicJ]) g h1
   have h4 := HW34
   omega
  have HE8 : Hid (Eff [] D 0 D1 ∧ DevAt w8 p D1 F ∧ Upd [p] w w8) := Lib.hid ⟨H1.out.1, H1.out.2.1.upd HU8.out (by simp), hU4.trans (hu8.mono (by simp))⟩
  have HS : Hid (∀ i, i < ws.length → ∃ y, ws[i]? = some y) := Lib.hid fun i h => ⟨_, List.getElem?_eq_getElem h⟩
  have HOK := Lib.hid hok
  have HX := Lib.hid hX
  have HPt := Lib.hid hparts
  generalize hL : ws.length = L at *
  have HLen := Lib.hid hL
  clear hX8 hu8 H4 c2 hU4 HR7 HR8 HB8 hr0 hok hX hparts hL hcv
  go_loopg [8, 15, 87] L (fun gh v8 v15 v87 wr => ∃ (i : Nat) (b8 : Option Addr) (n8 d8 : Nat) (b15 : Addr) (d15 : Nat) (Lw : List WrC) (D2 : Dev), v8 = .slice b8 n8 d8 ∧ v15 = .slice (some b15) i d15 ∧ v87 = .int .i64 i ∧ i ≤ L ∧ gh = L - i ∧
   Hid (Rd wr (.slice b8 n8 d8) (restAt ws tl i) ∧ (∀ g, (Value.slice b8 n8 d8).ownBlock = some g → w.heap.size ≤ g ∧ (Value.slice (some b15) i d15).ownBlock ≠ some g) ∧ Got wr w.heap.size (.slice (some b15) i d15) ws Lw ∧ Lw.length = i ∧ Eff [] D 0 D2 ∧ DevAt wr p D2 F ∧ Upd [p] w wr ∧ Rd wr (.slice (some ⟨B, 0, none⟩) 512 512) (D.blk 2).view ∧ (Value.slice (some b15) i d15).ownBlock ≠ some B))
  case atStart =>
   exact ⟨0, a8, _, _, _, _, [], D1, rfl, rfl, rfl, by omega, rfl, Lib.hid ⟨HR9.out, fun g hg => ⟨(HB9.out g hg).1, fun q => (HB9.out g hg).2 (by simp only [Value.ownBlock, Option.some.injEq] at q; exact q.symm)⟩, HG0.out, rfl, HE8.out.1, HE8.out.2.1, HE8.out.2.2, HB1.out.keep HU8.out, fun q => by
    have h1 := HB1.out.own_lt (by intro q2; rw [q2] at hvl; simp at hvl) B rfl
    have h2 := hs17
    simp only [Value.ownBlock, Option.some.injEq] at q
    omega⟩⟩
  case round =>
   obtain ⟨i, b8, n8, d8, b15, d15, Lw, D2, rfl, rfl, rfl, hi, rfl, H5⟩ := hrel
   by_cases hil : i < L
   ·have hlt : (i : Int) < (L : Int) := by omega
    obtain ⟨y, hy⟩ := HS.out i hil
    have hyat := HOK.out.at_ y (List.mem_of_getElem? hy)
    have hyl := HOK.out.len y (List.mem_of_getElem? hy)
    have hstep := restAt_step tl hy
    have hu := uint_ok wr H5.out.1
    rw [hstep, getUint_putU (by omega)] at hu
    dsimp only at hu
    have hr5 := H5.out.1
    rw [hstep] at hr5
    have hpd : (putU y.1 ++ restAt ws tl (i + 1)).drop (putU y.1).length = restAt ws tl (i + 1) := List.drop_left ..
    have hpl : (putU y.1).length ≤ (putU y.1 ++ restAt ws tl (i + 1)).length := by simp
    have hpl2 := putU_len64 (n := y.1) (by omega)
    generalize (putU y.1).length = py at *
    have hprt := HPt.out i y hy
    have HY := Lib.hid hy
    have HRi := Lib.hid hr5
    clear hstep hr5 hy
    go_wp2_with fail
    refine hu.mono ?_
    rintro r w9 ⟨rfl, rfl⟩
    clear hu
    have hjw : w9.cell? ⟨j, 0, none⟩ = some (.pointer (some ⟨p, 0, none⟩)) := cell_upd H5.out.2.2.2.2.2.2.1 hjp (cell_blk HL.out 0)
    go_wp2_with (first
     | (refine wpList_tail8 rfl _ _ rfl HRi.out hpl rfl rfl ?_; intro a10 c10 m10 hm10 hr10 hb10; rw [hpd] at hr10; have HR10 := Lib.hid hr10; have HB10 := Lib.hid hb10; clear hm10 hr10 hb10)
     | fail)
    have hE2 := H5.out.2.2.2.2.1
    have hn2 := hE2.n
    have hw2 := hE2.wr
    have hd2 := hE2.up.2.1
    have hb2 : D2.blk = D.blk := hE2.up.2.2.2
    have HRk := Lib.hid (read_ok w9 H5.out.2.2.2.2.2.1 (3 + i) (by omega) (by simp at hw2; omega))
    have e3 : ((3 + i : Nat) : Int) = 3 + (i : Int) := by omega
    rewrite [e3] at HRk
    have hvy : (D2.blk (3 + i)).view = y.2 := by rw [hb2]; exact hprt
    have HVY := Lib.hid hvy
    clear hE2 hn2 hw2 hd2 hb2 hjw e3 hprt hvy
    refine HRk.out.mono ?_
    rintro r w10 ⟨e10, D3, v10, rfl, hE3, hD3, hU3, hv3, hv3'⟩
    have H10 := Lib.hid (And.intro (Eff.next H5.out.2.2.2.2.1 hE3) (And.intro hD3 (And.intro (H5.out.2.2.2.2.2.2.1.trans hU3) hU3)))
    clear hE3 hD3 hU3 HRk
    by_cases he10 : e10 = 0
    ·subst he10
     obtain ⟨hr11, hn11⟩ := (hv3 rfl).rd (by rw [HVY.out]; exact hyl)
     rw [HVY.out] at hr11
     obtain ⟨B10, hvB, hB10, -⟩ := hv3 rfl
     subst hvB
     have HR11 := Lib.hid hr11
     clear hv3 hv3' hr11 hn11
     have hlt10 : B10 < w10.heap.size := HR11.out.own_lt (by intro q; rw [q] at hyl; simp at hyl) B10 rfl
     have hyat' : y.1 ≤ 511 := by omega
     have hLl : Lw.length = i := H5.out.2.2.2.1
     have HLl := Lib.hid hLl
     have hgot := H5.out.2.2.1
     have hpb : p < w.heap.size := HD.out.lt p HD.out.p_mem
     have hsw := H5.out.2.2.2.2.2.2.1.size
     have hs910 := H10.out.2.2.2.size
     have hi16 : i ≤ 15 := by omega
     have HO10 : Hid (∀ X : Obj, OwnG cW 145 2 (w10.alloc X) w.heap.size (.slice (some b15) i d15) Lw) := Lib.hid fun X => (hgot.upd (G := [p]) (H10.out.2.2.2.alloc X) (by simp; omega)).own
     clear hLl hgot
     obtain ⟨ya, yb⟩ := y
     dsimp only at *
     go_wp2_with (first
      | (at_builtin; refine wpList_append_G TW rfl _ _ rfl (base := w.heap.size) (l := Lw) (r := [⟨ya, some ⟨B10, 0, none⟩, 512, 512⟩]) rfl (HO10.out _) rfl (src_new TW (ty := 145) (heap_top _ _)) (oneW _) ?c1 ?c2 ?c3 ?_)
      | fail)
     case c1 => simp [HLl.out]; omega
     case c2 => simp [HLl.out]; omega
     case c3 => simp; omega
     intro v15 w11 ho11 hg11 hn11
     have HG11 := Lib.hid (H5.out.2.2.1.push (H10.out.2.2.2.alloc _) hpb (by rw [HLl.out]; exact HY.out) rfl (HR11.out.keep ((Upd.refl [] w10).alloc _)) (fun g hg => by cases hg; exact ⟨hB10, by simp; omega⟩) hsw ho11 hg11 (hn11.imp id fun q g hg => by have := q g hg; simp; omega))
     have hub : Upd ((Value.slice (some b15) i d15).ownBlock.toList) w10 w11 := (Upd.refl _ _).trans (by
      have := upd_row hg11
      exact ⟨this.os, this.output, Nat.le_trans (by simp) this.size, fun k hk hn => by rw [this.block k (by simp; omega) hn, heap_alloc, if_neg (by omega)]⟩)
     have hob := H5.out.2.2.1.own.block
     have hub2 : Upd [p] w w11 := H10.out.2.2.1.next hub (fun g hg hlt => by
      have e : (Value.slice (some b15) i d15).ownBlock = some g := by simpa using hg
      have := (hob g e).1; omega)
     have hFn : ∀ g ∈ F, g ∉ (Value.slice (some b15) i d15).ownBlock.toList := fun g hg q => by
      have e : (Value.slice (some b15) i d15).ownBlock = some g := by simpa using q
      have := (hob g e).1
      have := HD.out.lt g hg
      omega
     have hrd : ∀ {v : Value} {l : Bs}, Rd w9 v l → l ≠ [] → (∀ g, v.ownBlock = some g → w.heap.size ≤ g ∧ (Value.slice (some b15) i d15).ownBlock ≠ some g) → Rd w11 v l ∧ ∀ g, v.ownBlock = some g → w.heap.size ≤ g ∧ v15.ownBlock ≠ some g := fun {v l} hr hl hv => by
      refine ⟨(hr.upd H10.out.2.2.2 (fun g hg q => by have := (hv g hg).1; obtain rfl := List.mem_singleton.1 q; omega)).upd hub (fun g hg q => (hv g hg).2 (by simpa using q)), fun g hg => ⟨(hv g hg).1, fun q => ?_⟩⟩
      have h9 := hr.own_lt hl g hg
      rcases hn11 with e | e
      ·exact (hv g hg).2 (e ▸ q)
      ·have := e g q; omega
     have hn8 : restAt ws tl (i + 1) ≠ [] := by rw [htl]; simp [restAt, put32]
     have hvne : (D.blk 2).view ≠ [] := by intro q; rw [q] at hvl; simp at hvl
     have q8 := hrd HR10.out hn8 (fun g hg => H5.out.2.1 g (HB10.out g hg))
     have q2 := hrd H5.out.2.2.2.2.2.2.2.1 hvne (fun g hg => by cases hg; exact ⟨hB, H5.out.2.2.2.2.2.2.2.2⟩)
     have HF11 : Hid (DevAt w11 p D3 F) := Lib.hid (H10.out.2.1.upd hub hFn)
     obtain ⟨g15, d15', hv15, hg15, hg15'⟩ := ho11.headG (by simp)
     rw [List.length_append, HLl.out] at hv15
     subst hv15
     have e1i : i + [(⟨ya, some ⟨B10, 0, none⟩, 512, 512⟩ : WrC)].length = i + 1 := rfl
     rw [e1i] at *
     have HREL := Lib.hid (And.intro q8.1 (And.intro q8.2 (And.intro HG11.out (And.intro (show (Lw ++ [(⟨ya, some ⟨B10, 0, none⟩, 512, 512⟩ : WrC)]).length = i + 1 by rw [List.length_append, HLl.out]; rfl) (And.intro H10.out.1 (And.intro HF11.out (And.intro hub2 (And.intro q2.1 (q2.2 B rfl).2))))))))
     clear q8 q2 hrd hub hub2 ho11 hg11 hn11 hn8 hvne hob hFn HG11 HF11
     go_wp2_with fail
     go_roundg (L - (i + 1))
     case rel => exact ⟨i + 1, a10, _, _, _, _, _, D3, rfl, rfl, by go_num, by omega, rfl, HREL⟩
     case measure => omega
    ·have he10' : ¬ (e10 : Int) = 0 := by omega
     go_wp2_with fail
     go_ret2
     exact ⟨e10, D3, _, rfl, H10.out.1, H10.out.2.1, H10.out.2.2.1, fun q => absurd q he10, fun _ => rfl⟩
   ·have hlt : ¬ (i : Int) < (L : Int) := by omega
    obtain rfl : i = L := by omega
    have hFw := HD.out.lt
    have hwrs := H5.out.2.2.1.wrs (by rw [H5.out.2.2.2.1, HLen.out]) (G := F) hFw HOK.out
    have HHd := Lib.hid (head_ok wr (k + 1) (by omega) hwrs HOK.out)
    rewrite [e1] at HHd
    have HWRS := Lib.hid hwrs
    clear hwrs hFw
    go_wp2_with fail
    refine HHd.out.mono ?_
    rintro r w12 ⟨v12, rfl, ho12, hu12⟩
    have HEq := Lib.hid (equal_ok w12 (Ow.rd ho12) (H5.out.2.2.2.2.2.2.2.1.keep hu12))
    rw [HX.out] at HEq
    have hdt : decide (headB (k + 1) ws = headB (k + 1) ws) = true := by simp
    rw [hdt] at HEq
    have H12 := Lib.hid hu12
    obtain ⟨a12, c12, m12, -, rfl⟩ := ho12.sliceM
    clear ho12 hu12 hdt HHd
    go_wp2_with fail
    refine HEq.out.mono ?_
    rintro r w13 ⟨rfl, rfl⟩
    go_wp2_with fail
    go_ret2
    refine ⟨0, D2, _, rfl, H5.out.2.2.2.2.1, H5.out.2.2.2.2.2.1.upd H12.out (by simp), H5.out.2.2.2.2.2.2.1.trans (H12.out.mono (by simp)), fun _ => ⟨HWRS.out.upd (H12.out.mono (by simp)) (fun q hq => .inl hq), b15, d15, by rw [HLen.out]; rfl⟩, fun q => absurd rfl q⟩
 ·have he' : ¬ (e : Int) = 0 := by omega
  obtain rfl := hv' he
  go_wp2_with fail
  go_ret2
  exact ⟨e, D1, _, rfl, H1.out.1, H1.out.2.1, H1.out.2.2, fun q => absurd q he, fun _ => rfl⟩
end Go.Proofs.YteepgehjkcahiaaGreat

namespace Go.Proofs.YteepgehjkcahiaaGreat
open Go.RowKit Go.Maps
theorem WrsAt.nil (w : World) (G : List Nat) : WrsAt w G (.slice none 0 0) [] :=
 ⟨⟨[], ⟨⟨none, 0, rfl, Nat.le_refl _, by unfold maxLen; omega, fun i hi => absurd hi (by simp)⟩, fun n c e => by cases e; rfl⟩, rfl, fun i x y hx => by simp at hx⟩, fun g hg => (nomatch hg), by simp, by simp⟩
def OpenPost (w : World) (p k : Nat) (D : Dev) (F : List Nat) (T : List DOp) (r : Ending) (w' : World) : Prop :=
 ∃ (e : Nat) (D' : Dev) (F' : List Nat) (v : Value), r = .returned (.tuple #[v, .int .i64 e]) ∧ Eff T D e D' ∧ DevAt w' p D' F' ∧ Upd F w w' ∧ (∀ i ∈ F', i ∈ F ∨ w.heap.size ≤ i) ∧ (e ≠ 0 → v = .pointer none) ∧
  (e = 0 → ∃ j, v = .pointer (some ⟨j, 0, none⟩) ∧ LogR w' j p (D.n - 20) (k + 1) false ∧ w.heap.size ≤ j ∧ j ∉ F')
set_option maxRecDepth 100000 in
set_option maxHeartbeats 4000000 in
theorem open_walk (w : World) {p : Nat} {D : Dev} {F : List Nat} (h : DevAt w p D F) (_hdn : D.down = false) (hwr : D.wr ≤ 137438950000) {k s : Nat} (hk : k < 2 ^ 61) (hs : Slots D.blk k s) {ws : List Wr} (hok : WOk ws) (hhi : ∀ x ∈ ws, x.1 + 20 < D.n)
  (HWait : ∀ (W : World) (D1 : Dev) (j : Nat), DevAt W p D1 F → D1.n = D.n → D1.blk = D.blk → D1.wr ≤ 137438951000 → LogR W j p (D.n - 20) k false → j ∉ F → Calls Tryz.prog 112 #[.pointer (some ⟨j, 0, none⟩)] W (WaitPost W p D1 F fun w' v => (v = .slice none 0 0 ∧ ws = []) ∨ (WrsAt w' F v ws ∧ ∃ g c, v = .slice (some g) ws.length c))) :
  Calls Tryz.prog 62 #[.pointer (some ⟨p, 0, none⟩)] w (OpenPost w p k D F (homeT ws ++ tailT (k + 1) s)) := by
 obtain ⟨hf, hi, ho, he⟩ := hs.slots hk
 have HLd := Lib.hid (load_ok w h (by omega) hf)
 have HD := Lib.hid h
 have hbn := h.bounds
 have HS := Lib.hid hs
 have HOK := Lib.hid hok
 have HH := Lib.hid hhi
 have HWt := Lib.hid HWait
 have hcv := fun W : World => Go.Lib.run_convert_bytes_const W 32 5 #[.int .u8 99, .int .u8 97, .int .u8 114, .int .u8 116, .int .u8 117, .int .u8 108, .int .u8 97, .int .u8 114, .int .u8 121] 9 9 T8.und Tryz.underlying5
 have HI := Lib.hid (And.intro hi ho)
 clear h hs hok hhi HWait hi ho hf
 go_enter Tryz.func62, Tryz.ntmps62
 go_wp2_with fail
 refine HLd.out.mono ?_
 rintro r w1 ⟨e, D1, v, x, rfl, hD1, hU1, hcase⟩
 have hcv1 := hcv w1
 have HMg : Hid (∀ X : Obj, X = .cells #[.int .u8 99, .int .u8 97, .int .u8 114, .int .u8 116, .int .u8 117, .int .u8 108, .int .u8 97, .int .u8 114, .int .u8 121] 5 (9, 10) → Rd (w1.alloc X) (.slice (some ⟨w1.heap.size, 0, none⟩) 9 9) magicJ) := Lib.hid fun X hX => by subst hX; exact rd_new (l := magicJ) (heap_top _ _) (by decide)
 have H1 := Lib.hid (And.intro hD1 hU1)
 have hpF : p ∈ F := HD.out.p_mem
 clear hD1 hU1 HLd hcv
 rcases hcase with ⟨rfl, hE, rfl⟩ | ⟨rfl, hE, hno, -⟩ | ⟨rfl, hE, i, c, d, hnew, rfl, hr⟩
 ·go_wp2_with fail
  generalize hX4 : Obj.cells _ _ _ = X4
  have hmg4 := HMg.out X4 hX4.symm
  have hu4 : Upd [] w1 (w1.alloc X4) := (Upd.refl [] w1).alloc X4
  generalize w1.alloc X4 = w4 at *
  have H4 := Lib.hid hu4
  clear hX4 HMg hu4
  refine (cutPrefix_no w4 (Rd.nil _) hmg4 (by simp [magicJ])).mono ?_
  rintro r w5 ⟨rfl, rfl⟩
  clear hmg4
  go_wp2_with fail
  go_ret2
  exact ⟨2, D1, F, _, rfl, Eff.stop (homeT ws ++ tailT (k + 1) s) hE (by omega), H1.out.1.upd H4.out (by simp), (H1.out.2.mono (by simp; exact fun _ => hpF)).trans (H4.out.mono (by simp)), fun i hi => .inl hi, fun _ => rfl, fun q => by omega⟩
 ·exfalso
  have h1 := HI.out.1.is
  have h2 := HI.out.1.two
  have h3 : 1 - s = 0 ∨ 1 - s = 1 := by omega
  rcases h3 with q | q
  ·rw [q] at h1; rw [hno.1] at h1; cases h1
  ·rw [q] at h1; rw [hno.2] at h1; cases h1
 ·obtain ⟨rfl, rfl, rfl⟩ := HI.out.1.one HI.out.2 hnew
  obtain ⟨av, cv, mv, -, -, -, rfl⟩ := hr.sliceM
  go_wp2_with fail
  generalize hX4 : Obj.cells _ _ _ = X4
  have hmg4 := HMg.out X4 hX4.symm
  have hu4 : Upd [] w1 (w1.alloc X4) := (Upd.refl [] w1).alloc X4
  have hr4 := hr.keep hu4
  generalize w1.alloc X4 = w4 at *
  have H4 := Lib.hid hu4
  clear hX4 HMg hu4 hr hcv1 hnew
  refine (cutPrefix_yes w4 hr4 hmg4 (List.prefix_append _ _) (by have := putU_pos c; simp [doneB, magicJ]; omega)).mono ?_
  rintro r w5 ⟨v5, rfl, hr5, rfl, -⟩
  unfold doneB at hr5
  rw [List.drop_left] at hr5
  have hu5 := uint_ok w5 hr5
  have hgu := getUint_putU (n := c) (by omega) []
  rw [List.append_nil] at hgu
  rw [hgu] at hu5
  dsimp only at hu5
  obtain ⟨a5, k5, m5, -, -, -, rfl⟩ := hr5.sliceM
  have HU5 := Lib.hid hu5
  have hD5 : DevAt w5 p D1 F := H1.out.1.upd H4.out (by simp)
  have HB5 := Lib.hid (blocks_ok w5 hD5)
  have HE := Lib.hid hE
  have hnn := hE.n
  have hblk : D1.blk = D.blk := hE.up.2.2.2
  have hw1 := hE.wr
  have hN : ((D1.n : Nat) : Int) - 20 = ((D.n - 20 : Nat) : Int) := by rw [hnn]; omega
  have HN := Lib.hid hN
  have hb1 : 64 ≤ D1.n := by omega
  have hb2 : D1.n ≤ 512 := by omega
  have HWd := Lib.hid fun (W : World) (j : Nat) (u : Upd [] w5 W) => HWt.out W D1 j (hD5.upd u (by simp)) hnn hblk (by simp at hw1; omega)
  clear hr4 hmg4 hr5 hgu hD5 hnn hblk hw1 hN hu5 hE
  go_wp2_with fail
  refine HU5.out.mono ?_
  rintro r w6 ⟨rfl, rfl⟩
  go_wp2_with fail
  refine HB5.out.mono ?_
  rintro r w7 ⟨rfl, rfl⟩
  go_wp2_with fail
  have hX8 := heap_top w7 (.cells #[.pointer (some ⟨p, 0, none⟩), .int .i64 ((D1.n : Int) - 20), .int .u64 c, .bool false] 150)
  have hu8 : Upd [] w7 (w7.alloc (.cells #[.pointer (some ⟨p, 0, none⟩), .int .i64 ((D1.n : Int) - 20), .int .u64 c, .bool false] 150)) := (Upd.refl [] w7).alloc _
  generalize w7.alloc _ = w8 at *
  have hl8 : LogR w8 w7.heap.size p (D.n - 20) c false := by
   unfold LogR
   rw [hX8, HN.out]
  have hFl : ∀ q ∈ F, q < w7.heap.size := fun q hq => by have := (H1.out.1.upd H4.out (by simp)).lt q hq; exact this
  have hjF : w7.heap.size ∉ F := fun q => Nat.lt_irrefl _ (hFl _ q)
  have hU8 : Upd F w w8 := ((H1.out.2.mono (by simp; exact fun _ => hpF)).trans (H4.out.mono (by simp))).trans (hu8.mono (by simp))
  have hs7 : w.heap.size ≤ w7.heap.size := Nat.le_trans H1.out.2.size H4.out.size
  have HWx := Lib.hid (HWd.out w8 w7.heap.size hu8 hl8 hjF)
  have HL8 := Lib.hid hl8
  have HU8 := Lib.hid hU8
  clear hX8 hl8 hU8 hu8 HB5 HU5 HWd
  refine HWx.out.mono ?_
  rintro r w9 ⟨e9, D9, v9, rfl, hE9, hD9, hU9, hR9, hn9⟩
  have H9 := Lib.hid (And.intro (Eff.next HE.out hE9) (And.intro hD9 (HU8.out.trans (hU9.mono (by simp; exact fun _ => hpF)))))
  have hl9 := HL8.out.upd hU9 (fun q => hjF (by obtain rfl := List.mem_singleton.1 q; assumption))
  have HL9 := Lib.hid hl9
  by_cases he9 : e9 = 0
  ·subst he9
   have hup := (Eff.next HE.out hE9).up
   have hs9 : Slots D9.blk c s := by rw [hup.2.2.2]; exact HS.out
   have hn99 := (Eff.next HE.out hE9).n
   have hw99 := (Eff.next HE.out hE9).wr
   have HApp := Lib.hid fun (v : Value) (hw : WrsAt w9 F v ws) => apply_ok w9 hD9 hup.2.1 (by simp at hw99; omega) hl9 hjF hk hs9 hw HOK.out (fun x hx => by rw [hn99]; exact HH.out x hx)
   have hws9 : ∃ a m c, v9 = .slice a m c ∧ (a = none → m = 0 ∧ c = 0) ∧ WrsAt w9 F (.slice a m c) ws := by
    rcases hR9 rfl with ⟨rfl, hn⟩ | ⟨hw, g, c, rfl⟩
    ·rw [hn]; exact ⟨none, 0, 0, rfl, fun _ => ⟨rfl, rfl⟩, WrsAt.nil _ _⟩
    ·exact ⟨some g, _, c, rfl, fun q => (nomatch q), hw⟩
   obtain ⟨a9, m9, c9, rfl, hz9, hw9⟩ := hws9
   have HA := Lib.hid (HApp.out _ hw9)
   clear hup hs9 hn99 hw99 HApp hR9 hn9 hw9 hE9 hD9 hU9 hl9 HWx
   have key : ∀ {r w10}, ApplyPost w9 w7.heap.size p (D.n - 20) c false D9 F (homeT ws ++ tailT (c + 1) s) r w10 → ∃ e10 : Nat, r = .returned (.int .i64 e10) ∧ (e10 = 0 → OpenPost w p c D F (homeT ws ++ tailT (c + 1) s) (.returned (.tuple #[.pointer (some ⟨w7.heap.size, 0, none⟩), .int .i64 (0 : Nat)])) w10) ∧ (e10 ≠ 0 → OpenPost w p c D F (homeT ws ++ tailT (c + 1) s) (.returned (.tuple #[.pointer none, .int .i64 e10])) w10) := by
    rintro r w10 ⟨e10, D10, F10, rfl, hE10, hD10, hl10, hU10, hF10⟩
    have hEE : Eff (homeT ws ++ tailT (c + 1) s) D e10 D10 := Eff.next (a := []) H9.out.1 hE10
    have hUU : Upd F w w10 := H9.out.2.2.next hU10 (fun q hq hlt => by
     rcases List.mem_cons.1 hq with rfl | hq
     ·omega
     ·exact hq)
    have hs9 := H9.out.2.2.size
    have hFF : ∀ i ∈ F10, i ∈ F ∨ w.heap.size ≤ i := fun i hi => (hF10 i hi).imp id (fun q => Nat.le_trans hs9 q)
    refine ⟨e10, rfl, fun q => ?_, fun q => ⟨e10, D10, F10, _, rfl, hEE, hD10, hUU, hFF, fun _ => rfl, fun q2 => absurd q2 q⟩⟩
    subst q
    rw [if_pos rfl] at hl10
    refine ⟨0, D10, F10, _, rfl, hEE, hD10, hUU, hFF, fun q => absurd rfl q, fun _ => ⟨_, rfl, hl10, hs7, fun q => ?_⟩⟩
    rcases hF10 _ q with q | q
    ·exact hjF q
    ·have := lt_of_blk HL9.out; omega
   have HK := Lib.hid fun r w10 (h : ApplyPost w9 w7.heap.size p (D.n - 20) c false D9 F (homeT ws ++ tailT (c + 1) s) r w10) => key h
   clear key
   rcases a9 with _ | a9
   ·obtain ⟨rfl, rfl⟩ := hz9 rfl
    go_wp2_with fail
    refine HA.out.mono ?_
    intro r w10 h10
    obtain ⟨e10, rfl, h1, h2⟩ := HK.out r w10 h10
    have H10 := Lib.hid (And.intro h1 h2)
    clear h1 h2 h10 HA
    by_cases he10 : e10 = 0
    ·subst he10
     go_wp2_with fail
     go_ret2
     exact H10.out.1 (by trivial)
    ·have he10' : ¬ (e10 : Int) = 0 := by omega
     go_wp2_with fail
     go_ret2
     exact H10.out.2 he10
   ·clear hz9
    go_wp2_with fail
    refine HA.out.mono ?_
    intro r w10 h10
    obtain ⟨e10, rfl, h1, h2⟩ := HK.out r w10 h10
    have H10 := Lib.hid (And.intro h1 h2)
    clear h1 h2 h10 HA
    by_cases he10 : e10 = 0
    ·subst he10
     go_wp2_with fail
     go_ret2
     exact H10.out.1 (by trivial)
    ·have he10' : ¬ (e10 : Int) = 0 := by omega
     go_wp2_with fail
     go_ret2
     exact H10.out.2 he10
  ·obtain rfl := hn9 he9
   have he9' : ¬ (e9 : Int) = 0 := by omega
   clear hR9 hn9 hE9 hD9 hU9 hl9 HWx
   go_wp2_with fail
   go_ret2
   exact ⟨e9, D9, F, _, rfl, Eff.stop (a := []) (homeT ws ++ tailT (c + 1) s) H9.out.1 he9, H9.out.2.1, H9.out.2.2, fun i hi => .inl hi, fun _ => rfl, fun q => absurd q he9⟩
theorem open_ok (w : World) {p : Nat} {D : Dev} {F : List Nat} (h : DevAt w p D F) (hdn : D.down = false) (hwr : D.wr ≤ 137438950000) {k s : Nat} (hk : k < 2 ^ 61) {ws : List Wr} {g : Nat → Bs} (hq : (ws = [] ∧ Quiet D.blk k s g) ∨ Redo D.blk k s ws g) (_hn : 100 ≤ D.n ∨ 56 ≤ D.n) :
  Calls Tryz.prog 62 #[.pointer (some ⟨p, 0, none⟩)] w (OpenPost w p k D F (openT k s ws)) := by
 have hbn := h.bounds
 rcases hq with ⟨rfl, hq⟩ | hr
 ·refine open_walk w h hdn hwr hk hq.slots ⟨by simp, by simp, by simp⟩ (by simp) ?_
  intro W D1 j hD1 hn1 hb1 hw1 hl hjF
  have hX : NoneWait (D1.blk 2).view k := by
   rw [hb1]
   obtain ⟨hp, hl⟩ := hq.list
   have hv : (D.blk 2).view = (D.blk 2).safe := by rw [Cell.view, hp]; rfl
   rw [hv]
   rcases hl with hl | ⟨m, w', hm, hok, hl⟩
   ·exact .inl hl
   ·exact .inr ⟨m, w', by omega, by omega, hok, hl⟩
  exact (waiting_none W hD1 (by omega) hl hjF hk hX).mono fun r w' ⟨e, D', v, q1, q2, q3, q4, q5, q6⟩ => ⟨e, D', v, q1, q2, q3, q4, fun he => .inl ⟨q5 he, rfl⟩, q6⟩
 ·refine open_walk w h hdn hwr hk hr.slots hr.wok (fun x hx => by have := hr.low x hx; omega) ?_
  intro W D1 j hD1 hn1 hb1 hw1 hl hjF
  have hX : (D1.blk 2).view = headB (k + 1) ws := by rw [hb1, hr.list]; rfl
  have hP : ∀ (i : Nat) (y : Wr), ws[i]? = some y → (D1.blk (3 + i)).view = y.2 := fun i y hy => by
   obtain ⟨hi, rfl⟩ := List.getElem?_eq_some_iff.1 hy
   rw [hb1, hr.parts i hi]; rfl
  exact (waiting_some W hD1 (by omega) hl hjF hk hr.wok hX hP (by omega)).mono fun r w' ⟨e, D', v, q1, q2, q3, q4, q5, q6⟩ => ⟨e, D', v, q1, q2, q3, q4, fun he => .inr (q5 he), q6⟩
end Go.Proofs.YteepgehjkcahiaaGreat

namespace Go.Proofs.YteepgehjkcahiaaGreat
open Go.RowKit
structure Row8 (w : World) (base : Nat) (v : Value) (d : Bs) : Prop where
 rd : Rd w v d
 row : ∃ g c ty cur, v = .slice (some ⟨g, 0, none⟩) 512 c ∧ 512 ≤ c ∧ c ≤ maxLen ∧ base ≤ g ∧ w.heap[g]? = some (.cells cur ty (0, 0)) ∧ 512 ≤ cur.size ∧ (∀ i : Nat, i < 512 → cur[i]? = (d.map fun b => Value.int .u8 b.toNat)[i]?)
theorem Row8.lt {w : World} {base : Nat} {v : Value} {d : Bs} (h : Row8 w base v d) : ∀ g, v.ownBlock = some g → base ≤ g ∧ g < w.heap.size := by
 obtain ⟨-, g, c, ty, cur, rfl, -, -, h1, h2, -⟩ := h
 intro g' e
 simp only [Value.ownBlock, Option.some.injEq] at e
 subst e
 exact ⟨h1, lt_of_blk h2⟩
theorem NewB.row8 {w : World} {base : Nat} {v : Value} {d : Bs} (h : NewB w base v d) (hd : d.length = 512) : Row8 w base v d := by
 have hr := (h.rd hd).1
 obtain ⟨B, rfl, h1, h2⟩ := h
 refine ⟨hr, B, 512, _, _, rfl, Nat.le_refl _, by unfold maxLen; omega, h1, h2, by rw [List.size_toArray, cK_len]; exact Nat.le_refl _, fun i hi => ?_⟩
 rw [cK_of hd, List.getElem?_toArray]
theorem Ow.row8 {w : World} {base : Nat} {v : Value} {d : Bs} (h : Ow w base v d) (hd : d.length = 512) : Row8 w base v d := by
 have hr : Rd w v d := (OwnG.rd T8 h).b
 rcases h.2 with ⟨-, h2⟩ | ⟨g, cap, cur, rfl, hg, hb, r1, r2, r3, r4⟩
 ·rw [hd] at h2; omega
 ·rw [hd] at r1 r4 hr ⊢
  refine ⟨hr, g, cap, _, cur, rfl, r1, r2, hg, hb, by omega, fun i hi => ?_⟩
  rw [← flat8, ← r4, List.getElem?_take_of_lt (by omega), Array.getElem?_toList]
theorem Row8.base {w : World} {base base' : Nat} {v : Value} {d : Bs} (h : Row8 w base v d) (hb : base' ≤ base) : Row8 w base' v d := by
 obtain ⟨hr, g, c, ty, cur, hv, h0, h00, h1, h2⟩ := h
 exact ⟨hr, g, c, ty, cur, hv, h0, h00, by omega, h2⟩
theorem Row8.upd {w w' : World} {base : Nat} {v : Value} {d : Bs} (h : Row8 w base v d) {F : List Nat} (u : Upd F w w') (hF : ∀ g, v.ownBlock = some g → g ∉ F) : Row8 w' base v d := by
 obtain ⟨hr, g, c, ty, cur, rfl, h0, h00, h1, h2, h3⟩ := h
 have hg := hF g rfl
 exact ⟨(hr.g.upd T8 u hF).b, g, c, ty, cur, rfl, h0, h00, h1, (u.block g (lt_of_blk h2) hg).trans h2, h3⟩
structure LogA (w : World) (j p n k c m : Nat) (dead : Bool) (D : Dev) (F : List Nat) (l : List (Bc.Nd Int SvB)) (V : Nat → Bs) (FC : List Nat) : Prop where
 log : LogR w j p n k dead
 dev : DevAt w p D F
 ca : CaR w c m l V FC
 jF : j ∉ F
 jC : j ∉ FC
 ap : ∀ i ∈ FC, i ∉ F
 nD : n + 20 = D.n
 lt : ∀ i ∈ FC, i < w.heap.size
theorem LogA.same {w w' : World} {j p n k c m : Nat} {dead : Bool} {D : Dev} {F : List Nat} {l l' : List (Bc.Nd Int SvB)} {V V' : Nat → Bs} {FC G : List Nat} (h : LogA w j p n k c m dead D F l V FC) (u : Upd G w w') (hG : ∀ i ∈ G, i ∈ FC) (hc : CaR w' c m l' V' FC) : LogA w' j p n k c m dead D F l' V' FC :=
 ⟨h.log.upd u fun q => h.jC (hG _ q), h.dev.upd u fun i hi q => h.ap i (hG _ q) hi, hc, h.jF, h.jC, h.ap, h.nD, fun i hi => Nat.lt_of_lt_of_le (h.lt i hi) u.size⟩
def GetPost (w : World) (j p n k c m : Nat) (D : Dev) (F : List Nat) (V : Nat → Bs) (FC : List Nat) (x : Nat) (r : Ending) (w' : World) : Prop :=
 ∃ (e : Nat) (D' : Dev) (l' : List (Bc.Nd Int SvB)) (FC' : List Nat) (v : Value), r = .returned (.tuple #[v, .int .i64 e]) ∧ Eff [] D e D' ∧ LogA w' j p n k c m (decide (e = 2)) D' F l' V FC' ∧ Upd (j :: (F ++ FC)) w w' ∧ (∀ i ∈ FC', i ∈ FC ∨ w.heap.size ≤ i) ∧
  (e = 0 → Row8 w' w.heap.size v (V x) ∧ ∀ g, v.ownBlock = some g → g ∉ FC') ∧ (e ≠ 0 → v = .slice none 0 0)
set_option maxRecDepth 100000 in
set_option maxHeartbeats 4000000 in
theorem get_ok (w : World) {j p n k c m : Nat} {D : Dev} {F : List Nat} {l : List (Bc.Nd Int SvB)} {V : Nat → Bs} {FC : List Nat} (h : LogA w j p n k c m false D F l V FC) (hdn : D.down = false) (hwr : D.wr ≤ 137438953000) (x : Nat) (hx : x < n) (hV : V x = (D.blk (20 + x)).view) (hV5 : (V x).length = 512) :
  Calls Tryz.prog 50 #[.agg #[.pointer (some ⟨j, 0, none⟩), .pointer (some ⟨c, 0, none⟩)], .int .i64 x] w (GetPost w j p n k c m D F V FC x) := by
 have H := Lib.hid h
 have hjl := lt_of_blk h.log
 have hu0 : ∀ o, Upd [] w (w.alloc o) := fun o => (Upd.refl [] w).alloc o
 have HG := Lib.hid fun o => cget_ok (w.alloc o) (h.ca.upd (hu0 o) (by simp)) x
 clear h
 go_enter Tryz.func50, Tryz.ntmps50
 go_wp2_with fail
 refine (HG.out _).mono ?_
 have hU0 := hu0 (.cells #[.pointer (some ⟨j, 0, none⟩), .pointer (some ⟨c, 0, none⟩)] 75)
 have hB0 := heap_top w (.cells #[.pointer (some ⟨j, 0, none⟩), .pointer (some ⟨c, 0, none⟩)] 75)
 clear hu0 HG
 generalize w.alloc (.cells #[.pointer (some ⟨j, 0, none⟩), .pointer (some ⟨c, 0, none⟩)] 75) = W0 at *
 rintro r w1 (⟨⟨va, vn, vc⟩, l1, rfl, ho, hc1, hu1⟩ | ⟨rfl, rfl⟩)
 ·have HC := Lib.hid (clone8_ok w1 (OwnG.rd T8 ho) (by rw [hV5]; omega))
  have H1 := Lib.hid (And.intro ho (And.intro hc1 hu1))
  clear ho hc1 hu1
  go_wp2_with fail
  refine HC.out.mono ?_
  rintro r w2 ⟨v2, rfl, ho2, hu2⟩
  go_wp2_with fail
  go_ret2
  have hU : Upd FC w w2 := ((hU0.mono (by simp)).trans H1.out.2.2).trans (hu2.mono (by simp))
  have hlt := H1.out.2.2.size
  have hl0 := hU0.size
  obtain ⟨av, cv, mv, hmv, rfl⟩ := ho2.sliceM
  refine ⟨0, D, l1, FC, _, rfl, Eff.refl hdn, H.out.same hU (fun i hi => hi) (H1.out.2.1.upd hu2 (by simp)), hU.mono (fun k hk _ => by simp [hk]), fun i hi => .inl hi, fun _ => ⟨(Ow.row8 ho2 hV5).base (by omega), fun g hg hgc => ?_⟩, fun h => absurd rfl h⟩
  have h1 := (ho2.block g hg).1
  have h2 := H.out.lt g hgc
  omega
 ·have hlog := H.out.log.upd hU0 (by simp)
  have hdev := H.out.dev.upd hU0 (by simp)
  have HR := Lib.hid (jread_ok w1 hlog hdev hdn H.out.nD hwr H.out.jF x hx)
  have k0 := cell_blk hB0 0
  have k1 := cell_blk hB0 1
  simp only [List.getElem?_toArray, List.getElem?_cons_zero, List.getElem?_cons_succ] at k0 k1
  clear hlog hdev
  go_wp2_with fail
  refine HR.out.mono ?_
  rintro r w2 ⟨e, D', v, rfl, hE, hD', hL', hu2, hok, hbad⟩
  have hpF := H.out.dev.p_mem
  have hwlt : w.heap.size < w1.heap.size := lt_of_blk hB0
  have hpl := H.out.dev.lt p hpF
  have hb2 : w2.heap[w.heap.size]? = _ := (hu2.block _ hwlt (by simp; omega)).trans hB0
  have m1 := cell_blk hb2 1
  simp only [List.getElem?_toArray, List.getElem?_cons_zero, List.getElem?_cons_succ] at m1
  have H2 := Lib.hid (And.intro hE (And.intro hD' (And.intro hL' hu2)))
  by_cases he0 : e = 0
  ·subst he0
   have hnb := hok rfl
   obtain ⟨hrd, hbk⟩ := hnb.rd (by rw [← hV]; exact hV5)
   obtain ⟨B, rfl, hB1, hB2⟩ := hnb
   have HK := Lib.hid fun (X : World) (u : Upd [] w2 X) => clone8_ok X (hrd.g.keep T8 u) (by rw [← hV, hV5]; omega)
   have HRD := Lib.hid hrd
   have hca : CaR w2 c m l V FC := (H.out.ca.upd hU0 (by simp)).upd hu2 fun k hk q => by
    simp only [List.mem_cons, List.not_mem_nil, or_false] at q
    rcases q with rfl | rfl
    ·exact H.out.ap _ hk hpF
    ·exact H.out.jC hk
   have hwF : w.heap.size ∉ FC := fun q => by have := H.out.lt _ q; omega
   have HCA := Lib.hid fun (X : World) (u : Upd [] w2 X) (v : SvB) (ho : Ow X 0 (svV v) (D.blk (20 + x)).view) => cput_ok X (hca.upd u (by simp)) x v ho
   clear hE hD' hL' hu2 hok hbad k0 k1 hrd hbk
   go_wp2_with fail
   go_region_held3 (fun X => X.cell? ⟨w.heap.size, 1, none⟩ = some (.pointer (some ⟨c, 0, none⟩)))
    (first
     | (with_reducible exact held1 (Upd.refl [] w2).drew m1)
     | (with_reducible exact held1 hv6 m1)
     | (exact (World.cell?_of_block ((hu7.block w.heap.size (by have := lt_of_blk hb2; have := hv6.size; omega) hwF))).trans (held1 hv6 m1)))
    (first
     | (go_at_call 85; (with_reducible refine (HK.out _ ?_).mono ?_); (exact (Upd.refl [] w2).drew); rintro e w6 ⟨v6, rfl, ho6, hu6⟩; obtain ⟨a6, c6, m6, hm6, rfl⟩ := ho6.sliceM; have hv6 : Upd [] w2 w6 := (Upd.refl [] w2).drew.trans hu6; have HO6 := Lib.hid ho6; clear hm6)
     | (go_at_call 86; (with_reducible refine (HCA.out _ hv6 ⟨a6, m6, c6⟩ (HO6.out.base (Nat.zero_le _))).mono ?_); rintro e w7 ⟨k', v', b1, b2, l', FC', rfl, hc7, hu7, hf7⟩))
   go_wp2_with fail
   go_ret2
   have hV' : ∀ kk, V kk = setV V x (D.blk (20 + x)).view kk := fun kk => by
    unfold setV; split
    ·rename_i e; rw [e, hV]
    ·rfl
   obtain ⟨hE, hD', hL', hu2⟩ := H2.out
   have hU6 : Upd [p, j] w w6 := ((hU0.mono (by simp)).trans hu2).trans (hv6.mono (by simp))
   have hU7 : Upd (j :: (F ++ FC)) w w7 := (hU6.mono (fun k hk _ => by simp only [List.mem_cons, List.not_mem_nil, or_false] at hk; rcases hk with rfl | rfl <;> simp [hpF])).next hu7 (fun k hk _ => by simp [hk])
   have hs6 := hU6.size
   have h6 := ho6.block
   refine ⟨0, D', l', FC', .slice (some ⟨B, 0, none⟩) 512 512, rfl, hE, ⟨(hL'.upd hv6 (by simp)).upd hu7 H.out.jC, (hD'.upd hv6 (by simp)).upd hu7 (fun i hi q => H.out.ap i q hi), hc7.congr hV', H.out.jF, ?_, ?_, by rw [hE.n]; exact H.out.nD, ?_⟩, hU7, ?_, fun _ => ⟨?_, ?_⟩, fun h => absurd rfl h⟩
   ·intro q
    rcases hf7 _ q with q | q | q
    ·exact H.out.jC q
    ·omega
    ·have := (h6 _ q).1; have : w2.drew.heap.size = w2.heap.size := rfl; have := hu2.size; omega
   ·intro i hi q
    have hlt := H.out.dev.lt i q
    rcases hf7 _ hi with q2 | q2 | q2
    ·exact H.out.ap i q2 q
    ·omega
    ·have := (h6 _ q2).1; have : w2.drew.heap.size = w2.heap.size := rfl; have := hu2.size; omega
   ·intro i hi
    have := hu7.size
    rcases hf7 _ hi with q2 | q2 | q2
    ·have := H.out.lt i q2; omega
    ·exact q2.2
    ·have := (h6 _ q2).2; omega
   ·intro i hi
    rcases hf7 _ hi with q2 | q2 | q2
    ·exact .inl q2
    ·exact .inr (by omega)
    ·have := (h6 _ q2).1; have : w2.drew.heap.size = w2.heap.size := rfl; have := hu2.size; exact .inr (by omega)
   ·rw [hV]
    refine ((((NewB.row8 (⟨B, rfl, hB1, hB2⟩ : NewB w2 w1.heap.size _ _) (by rw [← hV]; exact hV5)).upd hv6 (by simp)).upd hu7 fun g hg q => ?_).base (by omega))
    simp only [Value.ownBlock, Option.some.injEq] at hg
    subst hg
    have := H.out.lt _ q
    omega
   ·intro g hg q
    simp only [Value.ownBlock, Option.some.injEq] at hg
    subst hg
    have h8 := lt_of_blk hB2
    have h9 := hv6.size
    rcases hf7 _ q with q2 | q2 | q2
    ·have := H.out.lt _ q2; omega
    ·omega
    ·have := (h6 _ q2).1; have : w2.drew.heap.size = w2.heap.size := rfl; omega
  ·obtain rfl := hbad he0
   have he0' : ¬ (e : Int) = 0 := by omega
   clear hE hD' hL' hu2 hok hbad k0 k1
   go_wp2_with fail
   go_ret2
   obtain ⟨hE, hD', hL', hu2⟩ := H2.out
   have hU2 : Upd [p, j] w w2 := (hU0.mono (by simp)).trans hu2
   refine ⟨e, D', l, FC, _, rfl, hE, ⟨hL', hD', (H.out.ca.upd hU0 (by simp)).upd hu2 fun k hk q => ?_, H.out.jF, H.out.jC, H.out.ap, by rw [hE.n]; exact H.out.nD, fun i hi => Nat.lt_of_lt_of_le (H.out.lt i hi) hU2.size⟩, hU2.mono fun k hk _ => ?_, fun i hi => .inl hi, fun h => absurd h he0, fun _ => rfl⟩
   ·simp only [List.mem_cons, List.not_mem_nil, or_false] at q
    rcases q with rfl | rfl
    ·exact H.out.ap _ hk hpF
    ·exact H.out.jC hk
   ·simp only [List.mem_cons, List.not_mem_nil, or_false] at hk
    rcases hk with rfl | rfl <;> simp [hpF]
end Go.Proofs.YteepgehjkcahiaaGreat
