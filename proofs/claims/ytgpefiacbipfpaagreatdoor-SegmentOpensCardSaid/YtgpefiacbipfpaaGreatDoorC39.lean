/- The document's codec: Frame, joined; Scan. -/
import Derived.BigQuiet
import Derived.Test.YtgpefiacbipfpaaGreatDoorC38
set_option maxRecDepth 100000
set_option maxHeartbeats 2000000
namespace Go.Proofs.YtgpefiacbipfpaaGreatDoor
open Go.RowKit
theorem RK (w : World) {v : Value} {l : Bs} (h : Rd w v l) (h5 : l.length ≠ 5) : Calls Tryz.prog 124 #[v] w fun e w' => nZ w.heap.size w' e (bU l) ∧ aB [] w w' := by
 by_cases hl : l.length < 5
 ·have hR : bU l = (0, [], 0, 10) := by unfold bU; rw [aF hl]
  rw [hR]
  exact RH w h hl
 obtain ⟨a, c, rfl, h1, h2, h3⟩ := h.slice
 obtain ⟨-, -, -, hcell⟩ := h.cell
 obtain ⟨b, off, rfl, hc⟩ := hcell (by omega)
 have hb := sR 10 0 0 (l.drop 5) (by decide)
 have hle := Fg 10 0 0 (l.drop 5)
 have hU := fun V (u : aB [] w V) => RI w h (by omega) V u
 unfold bU
 rw [aE hl]
 have hlen : (l.drop 5).length = l.length - 5 := eD
 unfold cX at hU ⊢
 generalize dA 10 0 0 (l.drop 5) = g at *
 obtain ⟨u, k, e⟩ := g
 dsimp only at hb hle hU ⊢
 obtain ⟨hb1, hb2, hb3, hb4⟩ := hb
 by_cases he : e = 0
 ·subst he
  obtain ⟨hk0, hk1⟩ := hb2 rfl
  rw [aE (by simp)]
  by_cases hu : 2000 < u
  ·rw [aF hu]
   exact Dw w (by omega) h1 h2 hb1 (by omega) (by omega) hU 12 (.inr (.inl ⟨rfl, hu, rfl⟩))
  rw [aE hu]
  by_cases hs : l.length - 5 - k < u
  ·rw [aF hs]
   exact Dw w (by omega) h1 h2 hb1 (by omega) (by omega) hU 10 (.inr (.inr ⟨rfl, by omega, by omega, rfl⟩))
  rw [aE hs]
  have hpart : ∀ V, aB [] w V → Rd V (.slice (some ⟨b, off + 4, none⟩) (5 + k + u - 4) (c - 4)) ((l.take (5 + k + u)).drop 4) := fun V hV => by
   have := (h.part 4 (5 + k + u - 4) (by omega) (c - 4) (by omega) (by omega)).keep hV
   rwa [yQ]
  have h3' : ∀ V, aB [] w V → Calls Tryz.prog 160 #[.slice (some ⟨b, off, none⟩) l.length c] V fun r w' => r = .returned (.tuple #[.int .u32 (lM l), .int .i64 0]) ∧ aB [] V w' := fun V hV => (Ng V (h.keep hV) (by omega)).mono fun r w' ⟨e, q⟩ => ⟨e, by rw [q]; exact aB.refl _ _⟩
  have hS : ∀ V, aB [] w V → Calls Tryz.prog 36 #[.slice (some ⟨b, off + 4, none⟩) (5 + k + u - 4) (c - 4)] V fun r w' => r = .returned (.int .u32 (jU ((l.take (5 + k + u)).drop 4))) ∧ aB [] V w' := fun V hV => (MI V (hpart V hV)).mono fun r w' ⟨e, q⟩ => ⟨e, by rw [q]; exact aB.refl _ _⟩
  have h4 := hc 4 (by omega)
  have e4 : l.getD 4 0 = l[4] := by rw [dI, bL (by omega)]; rfl
  have hd : (l.take (5 + k + u)).drop (5 + k) = (l.drop (5 + k)).take u := by rw [yQ]; congr 1; omega
  have hlu : ((l.drop (5 + k)).take u).length = u := by rw [bX, eD]; omega
  rw [e4, hd, ite_not]
  by_cases hce : c = 5 + k
  ·refine Jn w h1 h2 (by omega) (by omega) (by omega) (by omega) hlu h4 hU h3' hS ⟨b, off, none⟩ (fun W => ?_) (fun V hV => ?_)
   ·rw [Bi (w := W) 23 (some ⟨b, off, none⟩) l.length c rY .i64 .i64 _ _ (by omega) (by omega) (by omega), uH]
    simp only [Result.andThen, sliced]
    have e1 : (5 + (k : Int)).toNat = 5 + k := by omega
    have e2 : (5 + (k : Int) + (u : Int)).toNat = 5 + k + u := by omega
    rw [e1, e2, aF (by omega), show 5 + k + u - (5 + k) = u by omega]
   have hu0 : u = 0 := by omega
   subst hu0
   have hz : (l.drop (5 + k)).take 0 = [] := rfl
   rw [hz]
   exact ⟨fun e => (by cases e), fun ad _ j u hj => by cases hj⟩
  refine Jn w h1 h2 (by omega) (by omega) (by omega) (by omega) hlu h4 hU h3' hS ⟨b, off + (5 + k), none⟩ (fun W => ?_) (fun V hV => ?_)
  ·rw [Bi (w := W) 23 (some ⟨b, off, none⟩) l.length c rY .i64 .i64 _ _ (by omega) (by omega) (by omega), uH]
   simp only [Result.andThen, sliced]
   have e1 : (5 + (k : Int)).toNat = 5 + k := by omega
   have e2 : (5 + (k : Int) + (u : Int)).toNat = 5 + k + u := by omega
   rw [e1, e2, aE (by omega), show 5 + k + u - (5 + k) = u by omega]
   simp only [Option.map, qN, jI]
  exact ((h.part (5 + k) u (by omega) u (aQ _) (by omega)).keep hV).src
 rw [aF he]
 exact Dw w (by omega) h1 h2 hb1 (by omega) (by omega) hU e (.inl ⟨he, rfl⟩)
theorem RM (w : World) {v : Value} {l : Bs} (h : Rd w v l) (h5 : l.length = 5) : Calls Tryz.prog 124 #[v] w fun e w' => nZ w.heap.size w' e (0, [], 0, 10) ∧ aB [] w w' := by
 obtain ⟨a, c, rfl, h1, h2, h3⟩ := h.slice
 rw [h5] at h1 h3 h ⊢
 obtain ⟨ad, rfl⟩ : ∃ ad, a = some ad := by
  cases a with
  | none => exact absurd (h3 rfl).1 (by omega)
  | some ad => exact ⟨ad, rfl⟩
 obtain ⟨-, -, -, hcell⟩ := h.cell
 obtain ⟨b, off, e, hc⟩ := hcell (by omega)
 cases e
 by_cases hc5 : c = 5
 ·subst hc5
  have HU : Hid (∀ V, aB [] w V → Calls Tryz.prog 159 #[.slice (some ⟨b, off, none⟩) 0 0] V fun e w' => e = .returned (.tuple #[.int .u64 (cX []).1, .int .i64 (cX []).2.1, .int .i64 (cX []).2.2]) ∧ aB [] V w') := aA fun V u => Cq V (Rd.empty (by unfold maxLen; omega) (fun q => by cases q))
  clear hcell hc h
  go_in
  go_wp2_with fail
  refine (HU.out _ ((aB.refl [] w).alloc _)).mono ?_
  rintro r w1 ⟨rfl, hu1⟩
  have h1' : ¬ ((cX []).2.2 : Int) = 0 := by decide
  have hb1 := sB hu1 (aX w (.cells #[.int .u8 0, .slice none 0 0] 25 (0, 0)))
  have HB := aA (aC hb1 (((aB.refl [] w).alloc _).trans hu1))
  have z0 := aD hb1 0
  have z1 := aD hb1 1
  have f0 := aZ hb1 0
  have f1 := aZ hb1 1
  clear hb1 hu1
  go_wp2_with fail
  have hb3 := pV HB.out.1 (.int .u8 0) (.slice none 0 0)
  exact lR Tryz.results124 rfl (aD hb3 0) (aD hb3 1) rfl ⟨⟨_, rfl, Rd.nil _, mZ _⟩, (HB.out.2.setCellNew (aQ _) _ _).setCellNew (aQ _) _ _⟩
 have HU : Hid (∀ V, aB [] w V → Calls Tryz.prog 159 #[.slice (some ⟨b, off + 5, none⟩) 0 (c - 5)] V fun e w' => e = .returned (.tuple #[.int .u64 (cX []).1, .int .i64 (cX []).2.1, .int .i64 (cX []).2.2]) ∧ aB [] V w') := aA fun V u => Cq V (Rd.empty (by unfold maxLen; omega) (fun q => by cases q))
 clear hcell hc h
 go_in
 go_wp2_with fail
 refine (HU.out _ ((aB.refl [] w).alloc _)).mono ?_
 rintro r w1 ⟨rfl, hu1⟩
 have h1' : ¬ ((cX []).2.2 : Int) = 0 := by decide
 have hb1 := sB hu1 (aX w (.cells #[.int .u8 0, .slice none 0 0] 25 (0, 0)))
 have HB := aA (aC hb1 (((aB.refl [] w).alloc _).trans hu1))
 have z0 := aD hb1 0
 have z1 := aD hb1 1
 have f0 := aZ hb1 0
 have f1 := aZ hb1 1
 clear hb1 hu1
 go_wp2_with fail
 have hb3 := pV HB.out.1 (.int .u8 0) (.slice none 0 0)
 exact lR Tryz.results124 rfl (aD hb3 0) (aD hb3 1) rfl ⟨⟨_, rfl, Rd.nil _, mZ _⟩, (HB.out.2.setCellNew (aQ _) _ _).setCellNew (aQ _) _ _⟩
theorem RN (w : World) {v : Value} {l : Bs} (h : Rd w v l) : Calls Tryz.prog 124 #[v] w fun e w' => nZ w.heap.size w' e (bU l) ∧ aB [] w w' := by
 by_cases h5 : l.length = 5
 ·rw [Gg h5]; exact RM w h h5
 exact RK w h h5
theorem RO (w : World) {v : Value} {b : Bs} (h : Rd w v b) (hb : b.length ≤ 100000) :
  Calls Tryz.prog 72 #[v] w fun e w' => ∃ fv L, e = .returned (.tuple #[fv, .int .i64 (cM b).2]) ∧ dP w' w.heap.size fv L ∧ L.map aO.fr = (cM b).1 ∧ aB [] w w' := by
 obtain ⟨a, c, rfl, h1, h2, h3⟩ := h.slice
 obtain ⟨n, hn⟩ : ∃ n, n = b.length := ⟨_, rfl⟩
 have HR := aA h
 have HN := aA hn
 rw [← hn] at h1 h3 hb HR ⊢
 clear hn h
 go_in
 go_wp2_with fail
 go_loopg [2, 3, 4, 5, 6, 7, 8] (n + 1) (fun gh v2 v3 v4 v5 v6 v7 v8 wr => ∃ (at_ : Nat) (fv : Value) (L : List aO), v4 = fv ∧ v5 = .int .i64 at_ ∧ at_ ≤ n ∧ gh = n + 1 - at_ ∧ Hid (dP wr w.heap.size fv L ∧ cM b = (L.map aO.fr ++ (cM (b.drop at_)).1, at_ + (cM (b.drop at_)).2) ∧ aB [] w wr))
 case atStart => exact ⟨0, _, [], rfl, rfl, by omega, rfl, aA ⟨dP.nil _ _, by simp, aB.refl _ _⟩⟩
 case round =>
  obtain ⟨at_, fv, L, rfl, rfl, hat, rfl, HS⟩ := hrel
  obtain ⟨fa, fc, fm, hfm, rfl⟩ := HS.out.1.own.sliceM
  have HFM := aA hfm
  clear hfm
  have hr := HR.out.keep HS.out.2.2
  go_wp2_with (first
   | (refine sZ rfl _ _ rfl hr (i := at_) (by rw [← HN.out]; exact hat) rfl rfl ?_; intro a8 c8 m8 hm8 hr8 hb8; have HR8 := aA hr8; clear hm8 hr8 hb8)
   | fail)
  refine (RN wr HR8.out).mono ?_
  rintro r w1 ⟨⟨dv, rfl, hdv, hdo⟩, hu1⟩
  clear hr
  obtain ⟨K, hK⟩ : ∃ K, K = (bU (b.drop at_)).2.2.1 := ⟨_, rfl⟩
  obtain ⟨E, hE⟩ : ∃ E, E = (bU (b.drop at_)).2.2.2 := ⟨_, rfl⟩
  obtain ⟨a1, c1, hdvs, -⟩ := hdv.slice
  have hpos := mS (b := b.drop at_)
  have hfl := Bo (b.drop at_)
  rw [eD, ← HN.out] at hpos
  rw [← hK, ← hE] at hpos ⊢
  have HG := aA (aC hK hE)
  generalize hkk : (bU (b.drop at_)).1 = kk at *
  generalize hdd : (bU (b.drop at_)).2.1 = dd at *
  have HKD := aA (aC hkk hdd)
  have HDV := aA (aC hdv (aC hdo hu1))
  obtain ⟨dl, hdl⟩ : ∃ dl, dl = dd.length := ⟨_, rfl⟩
  rw [← hdl] at hdvs hfl
  clear hK hE hkk hdd hdv hdo hu1 HR8 hdl
  subst hdvs
  by_cases hE0 : E = 0
  ·subst hE0
   have hpos := hpos rfl
   have hC : dP ((w1.alloc (nH kk (.slice a1 dl c1))).alloc (nH kk (.slice a1 dl c1))) w.heap.size (.slice fa fm fc) L := ((HS.out.1.keep HDV.out.2.2).keep ((aB.refl [] w1).alloc _)).keep ((aB.refl [] _).alloc _)
   have HC := aA hC
   have hLl : L.length ≤ 100000 := by
    have h1 := vE b
    have h2 := rP b
    rw [HS.out.2.1] at h1
    rw [← HN.out] at h2
    rw [bD, dF] at h1
    rw [HS.out.2.1] at h2
    omega
   have HLl := aA hLl
   have hbox := aX w1 (nH kk (.slice a1 dl c1))
   have b0 := aD hbox 0
   have b1 := aD hbox 1
   clear hC hLl hbox
   go_wp2_with (first
    | (at_builtin; go_loud (refine fS iH rfl _ _ rfl (base := w.heap.size) (l := L) (r := [⟨kk, .slice a1 dl c1, dd⟩]) (by rfl) HC.out.own (by rfl) (iS iH (ty := 25) (B := w1.heap.size + 1) (nC _ _ _ (by simp))) (uK (w := w1) (by simp only [aM, forall_eq]; exact HDV.out.1)) ?c1 ?c2 ?c3 ?_))
    | fail)
   case c1 => have := HLl.out; simp; omega
   case c2 => have := HLl.out; simp; omega
   case c3 => have := HS.out.2.2.size; have := HDV.out.2.2.size; simp; omega
   intro v4 w4 ho4 hg4 hn4
   have hA := HC.out.app hg4 ho4 (hn4.imp id fun q g hg => by simpa using q g hg) (by simp only [aM, forall_eq]; exact (HDV.out.1.keep ((aB.refl [] w1).alloc _)).keep ((aB.refl [] _).alloc _)) (by
    simp only [aM, forall_eq]
    intro hd g hg
    have h1 := HDV.out.2.1 g hg
    have h2 := HS.out.2.2.size
    refine ⟨by omega, fun q => ?_⟩
    have := (HS.out.1.own.block g q).2
    omega)
   have hU4 : aB [] w w4 := (((HS.out.2.2.trans HDV.out.2.2).alloc _).alloc _).grown hg4 (fun g hg => (HC.out.own.block g hg).1)
   have H4 := aA (aC hA hU4)
   clear hA hU4 ho4 hg4 hn4 b0 b1
   go_wp2_with fail
   go_roundg (n + 1 - (at_ + K))
   case measure => omega
   case rel =>
    refine ⟨at_ + K, _, _, rfl, by go_num, by omega, rfl, aA ⟨H4.out.1, ?_, H4.out.2⟩⟩
    have h1 := HS.out.2.1
    rw [tX (HG.out.2.symm), ← HG.out.1, HKD.out.1, HKD.out.2, rN] at h1
    rw [h1, eZ]
    simp only [eJ, dR, kT, List.cons_append, List.nil_append]
    exact Prod.ext rfl (yN ..).symm
  have hE' : ¬ (E : Int) = 0 := by omega
  have HFin : Hid (cM b = (L.map aO.fr, at_)) := aA (by
   have := HS.out.2.1
   rw [qI (b := b.drop at_) (by rw [← HG.out.2]; exact hE0)] at this
   simpa using this)
  go_wp2_with fail
  go_ret2
  refine ⟨_, L, ?_, (HS.out.1.keep HDV.out.2.2).keep ((aB.refl [] w1).alloc _), by rw [HFin.out], (HS.out.2.2.trans HDV.out.2.2).alloc _⟩
  rw [HFin.out]
  rfl
open Go.Maps
structure RF where
 nm : Bs
 data : Bs
 old : Nat
def RF.nil : RF := ⟨[], [], 0⟩
def cF (x : RF) : List Value := [.string (bC x.nm), .string (bC x.data), .int .i64 x.old]
theorem TF : fA cF 3 40 123 128 where
 len := fun _ => rfl
 pos := by omega
 und := Tryz.underlying123
 info := by
  obtain ⟨i, h, h1, h2, h3⟩ := kD (show (Tryz.prog.info? 128).map (fun i => (i.zero, i.size, i.bytes)) = some (some (.agg #[.string ⟨#[]⟩, .string ⟨#[]⟩, .int .i64 0]), 3, 40) by kernel_rfl)
  exact ⟨i, _, h, h1, h2, h3, rfl⟩
theorem AH (l : List RF) : ∀ x ∈ l, ∀ u ∈ cF x, u.oneCell' = true := by
 intro x _ u hu
 simp only [cF, aJ, cA, cG] at hu
 rcases hu with rfl | rfl | rfl <;> rfl
abbrev sK (w : World) (base : Nat) (v : Value) (l : List RF) : Prop := aK cF 128 3 w base v l
theorem rH {w : World} {base : Nat} {a : Option Addr} {n c : Nat} {l : List RF} (h : sK w base (.slice a n c) l) {i : Nat} (hi : i < l.length) : ∃ g, a = some ⟨g, 0, none⟩ ∧ base ≤ g ∧ (∀ o, w.frozen? ⟨g, o, none⟩ = false) ∧ w.cell? ⟨g, i * 3, none⟩ = some (.string (bC (l.getD i RF.nil).nm)) ∧ w.cell? ⟨g, i * 3 + 1, none⟩ = some (.string (bC (l.getD i RF.nil).data)) ∧ w.cell? ⟨g, i * 3 + 2, none⟩ = some (.int .i64 (l.getD i RF.nil).old) := by
 obtain ⟨-, -, -, h3⟩ := aK.at TF h
 obtain ⟨g, e, hb, hf, hc⟩ := h3 i hi
 rw [dI, bL hi]
 exact ⟨g, e, hb, hf, hc 0 _ rfl, hc 1 _ rfl, hc 2 _ rfl⟩
theorem rI {w : World} {base : Nat} {a : Option Addr} {n c : Nat} {l : List RF} (h : sK w base (.slice a n c) l) : n = l.length ∧ n ≤ c ∧ c ≤ 9223372036854775807 := by
 obtain ⟨h1, h2, h3, -⟩ := aK.at TF h
 exact ⟨h1, h2, by unfold maxLen at h3; omega⟩
abbrev yC (room : Nat) (nv lv : Value) : Obj := .cells #[.int .i64 room, nv, lv] 125 (0, 0)
structure dX (w : World) (base rp room : Nat) (nv lv : Value) (now lst : List RF) : Prop where
 box : w.heap[rp]? = some (yC room nv lv)
 now : sK w base nv now
 lst : sK w base lv lst
 low : base ≤ rp
 n1 : nv.ownBlock ≠ some rp
 n2 : lv.ownBlock ≠ some rp
 n3 : ∀ g, nv.ownBlock = some g → lv.ownBlock ≠ some g
def kB (rp : Nat) (nv lv : Value) : List Nat := rp :: (nv.ownBlock.toList ++ lv.ownBlock.toList)
theorem mB {rp i : Nat} {nv lv : Value} : i ∈ kB rp nv lv ↔ i = rp ∨ nv.ownBlock = some i ∨ lv.ownBlock = some i := by
 simp [kB]
theorem dX.upd {w w' : World} {base rp room : Nat} {nv lv : Value} {now lst : List RF} (h : dX w base rp room nv lv now lst) {F : List Nat} (u : aB F w w') (hF : ∀ i ∈ kB rp nv lv, i ∉ F) : dX w' base rp room nv lv now lst :=
 ⟨(u.block rp (aH h.box) (hF _ (mB.2 (.inl rfl)))).trans h.box, h.now.upd u (fun j hj e => hF j (mB.2 (.inr (.inl e))) hj), h.lst.upd u (fun j hj e => hF j (mB.2 (.inr (.inr e))) hj), h.low, h.n1, h.n2, h.n3⟩
theorem dX.keep {w w' : World} {base rp room : Nat} {nv lv : Value} {now lst : List RF} (h : dX w base rp room nv lv now lst) (u : aB [] w w') : dX w' base rp room nv lv now lst := h.upd u (by simp)
theorem dX.lt {w : World} {base rp room : Nat} {nv lv : Value} {now lst : List RF} (h : dX w base rp room nv lv now lst) : ∀ i ∈ kB rp nv lv, base ≤ i ∧ i < w.heap.size := fun i hi => by
 rcases mB.1 hi with rfl | e | e
 ·exact ⟨h.low, aH h.box⟩
 ·exact h.now.block i e
 exact h.lst.block i e
def iW (w : World) (base rp room : Nat) (nv lv : Value) (now' lst' : List RF) (w' : World) : Prop :=
 ∃ nv' lv', dX w' base rp room nv' lv' now' lst' ∧ aB (kB rp nv lv) w w' ∧ ∀ i ∈ kB rp nv' lv', i ∈ kB rp nv lv ∨ w.heap.size ≤ i
def fL : List RF → Bs → Option Nat
 | [], _ => none
 | x :: l, nm => if x.nm = nm then some 0 else (fL l nm).map (· + 1)
theorem AI {l : List RF} {nm : Bs} : fL l nm = none ↔ ∀ x ∈ l, x.nm ≠ nm := by
 induction l with
 | nil => simp [fL]
 | cons x l ih =>
  unfold fL
  by_cases h : x.nm = nm
  ·rw [aF h]; simp [h]
  rw [aE h, Option.map_eq_none_iff, ih]; simp [h]
theorem RP {l : List RF} {nm : Bs} {i : Nat} (h : fL l nm = some i) : ∃ a b x, l = a ++ x :: b ∧ a.length = i ∧ x.nm = nm ∧ ∀ y ∈ a, y.nm ≠ nm := by
 induction l generalizing i with
 | nil => cases h
 | cons x l ih =>
  unfold fL at h
  by_cases hx : x.nm = nm
  ·rw [aF hx] at h
   cases h
   exact ⟨[], l, x, rfl, rfl, hx, by simp⟩
  rw [aE hx] at h
  obtain ⟨j, hj, rfl⟩ := Option.map_eq_some_iff.1 h
  obtain ⟨a, b, y, rfl, e1, e2, e3⟩ := ih hj
  exact ⟨x :: a, b, y, rfl, by simp [e1], e2, fun z hz => by
   rcases aJ.1 hz with rfl | q
   ·exact hx
   exact e3 z q⟩
theorem Dx {a b : List RF} {x : RF} {nm : Bs} (hx : x.nm = nm) (ha : ∀ y ∈ a, y.nm ≠ nm) : fL (a ++ x :: b) nm = some a.length := by
 induction a with
 | nil => simp [fL, hx]
 | cons y a ih =>
  simp only [List.cons_append, fL]
  rw [aE (ha y (by simp)), ih fun z hz => ha z (by simp [hz])]
  rfl
theorem yD {l : List RF} {nm : Bs} {i : Nat} (h : fL l nm = some i) : i < l.length ∧ (l.getD i RF.nil).nm = nm := by
 obtain ⟨a, b, x, rfl, rfl, e, -⟩ := RP h
 refine ⟨by simp, ?_⟩
 rw [dI, oN (aQ _), tR]
 exact e
def fQ (l : List RF) (nm : Bs) : Int := match fL l nm with | some i => i | none => -1
section
variable {w : World} {base rp room : Nat} {nv lv : Value} {now lst : List RF}
theorem uW (h : dX w base rp room nv lv now lst) (nm : ByteArray) :
  Calls Tryz.prog 67 #[.pointer (some ⟨rp, 0, none⟩), .string nm] w fun r w' => r = .returned (.int .i64 (fQ now nm.data.toList)) ∧ w = w' := by
 obtain ⟨na, nc, rfl⟩ := h.now.slice
 obtain ⟨-, hnc, hncm⟩ := rI h.now
 obtain ⟨n, hn⟩ : ∃ n, n = now.length := ⟨_, rfl⟩
 have c1 := aD h.box 1
 simp only [bA, bB, bS] at c1
 have HC := aA fun i (hi : i < now.length) => rH h.now hi
 rw [← hn] at c1 hnc HC
 have HN := aA hn
 have hse : nm = bC nm.data.toList := IH rfl
 generalize hL : nm.data.toList = L at *
 clear hL
 have HSE := aA hse
 clear h hn hse
 go_in
 go_wp2_with fail
 go_loopg [5] n (fun gh v5 wr => ∃ i : Nat, v5 = .int .i64 i ∧ i ≤ n ∧ gh = n - i ∧ w = wr ∧ Hid (∀ x ∈ now.take i, x.nm ≠ L))
 case atStart => exact ⟨0, rfl, by omega, rfl, rfl, aA (by simp)⟩
 case round =>
  obtain ⟨i, rfl, hi, rfl, rfl, HT⟩ := hrel
  by_cases hin : i < n
  ·have hin' : (i : Int) < (n : Int) := by omega
   obtain ⟨g, rfl, -, -, d0, -, -⟩ := HC.out i hin
   have hb := xZ (now.getD i RF.nil).nm L
   rw [← HSE.out] at hb
   have hsp : i < now.length → now = now.take i ++ now.getD i RF.nil :: now.drop (i + 1) := fun hi => by
    rw [dI, bL hi]
    simp
   have HSP := aA (hsp (by rw [← HN.out]; exact hin))
   clear hsp
   by_cases he : (now.getD i RF.nil).nm = L
   ·have HE := aA he
    rw [decide_eq_true he] at hb
    clear he
    generalize bC (now.getD i RF.nil).nm = s1 at *
    go_wp2_with fail
    go_ret
    refine ⟨?_, rfl⟩
    have hidx : fL now L = some i := by
     have h1 := Dx (b := now.drop (i + 1)) HE.out HT.out
     rw [← HSP.out, bX, ← HN.out, Bd (by omega)] at h1
     exact h1
    simp [fQ, hidx]
   have HE := aA he
   rw [decide_eq_false he] at hb
   clear he
   generalize bC (now.getD i RF.nil).nm = s1 at *
   go_wp2_with fail
   go_roundg (n - (i + 1))
   case measure => omega
   case rel =>
    refine ⟨i + 1, by go_num, by omega, rfl, rfl, aA fun x hx => ?_⟩
    have hl : i < now.length := by rw [← HN.out]; exact hin
    rw [iK, bL hl] at hx
    rcases bK.1 hx with q | q
    ·exact HT.out x q
    have : x = now[i] := by simpa using q
    rw [this]
    have h2 := HE.out
    rw [dI, bL hl] at h2
    exact h2
  have hin' : ¬ (i : Int) < (n : Int) := by omega
  go_wp2_with fail
  go_ret
  refine ⟨?_, rfl⟩
  have h1 := HT.out
  rw [dY (by rw [← HN.out]; omega)] at h1
  have h2 := AI.2 h1
  simp [fQ, h2]
theorem RQ (w : World) (nm : ByteArray) (hs : nm.size ≤ maxLen) :
  Calls Tryz.prog 66 #[.string nm] w fun r w' => r = .returned (.bool (decide (1 ≤ nm.data.toList.length ∧ nm.data.toList.length ≤ 40))) ∧ w = w' := by
 have hl : nm.data.toList.length = nm.size := yR
 rw [hl]
 unfold maxLen at hs
 clear hl
 obtain ⟨n, hn⟩ : ∃ n, n = nm.size := ⟨_, rfl⟩
 have hz : nm.size = n := hn.symm
 rw [← hn] at hs ⊢
 clear hn
 by_cases h1 : 1 ≤ n
 ·have h1' : (1 : Int) ≤ (n : Int) := by omega
  by_cases h2 : n ≤ 40
  ·have h2' : (n : Int) ≤ 40 := by omega
   go_in
   go_wp2_with fail
   go_ret
   exact ⟨by simp [h1, h2], rfl⟩
  have h2' : ¬ (n : Int) ≤ 40 := by omega
  go_in
  go_wp2_with fail
  go_ret
  exact ⟨by simp, rfl⟩
 have h1' : ¬ (1 : Int) ≤ (n : Int) := by omega
 go_in
 go_wp2_with fail
 go_ret
 exact ⟨by simp, rfl⟩
theorem AJ (w : World) (n : Nat) (hn : n ≤ 1000000000) :
  Calls Tryz.prog 68 #[.int .i64 n] w fun r w' => r = .returned (.int .i64 (bP n)) ∧ w = w' := by
 have e1 : (n : Int).tdiv 512 = ((n / 512 : Nat) : Int) := by rw [Int.tdiv_eq_ediv_of_nonneg (by omega)]; omega
 have e2 : (n : Int).tmod 512 = ((n % 512 : Nat) : Int) := by rw [Kj (by omega)]; omega
 have h1 : n / 512 ≤ 1000000000 := by omega
 have hb : bP n = n / 512 + (if 0 < n % 512 then 1 else 0) := by unfold bP; split <;> omega
 have HB := aA hb
 clear hb hn
 generalize n / 512 = q at *
 generalize n % 512 = m at *
 by_cases h2 : 0 < m
 ·have h2' : (0 : Int) < (m : Int) := by omega
  have hb := HB.out
  rw [aF h2] at hb
  have HB2 := aA hb
  clear hb h2 HB
  go_in
  go_wp2_with fail
  go_ret
  exact ⟨by rw [HB2.out]; simp, rfl⟩
 have h2' : ¬ (0 : Int) < (m : Int) := by omega
 have hb := HB.out
 rw [aE h2] at hb
 have HB2 := aA hb
 clear hb h2 HB
 go_in
 go_wp2_with fail
 go_ret
 exact ⟨by rw [HB2.out]; simp, rfl⟩
def tL (l : List RF) (nm : Bs) : Nat × Nat := match fL l nm with | some i => ((l.getD i RF.nil).data.length, 0) | none => (0, 80)
theorem RR (h : dX w base rp room nv lv now lst) (nm : ByteArray) (hsm : ∀ x ∈ now, x.data.length ≤ 32768) :
  Calls Tryz.prog 70 #[.pointer (some ⟨rp, 0, none⟩), .string nm] w fun r w' => r = .returned (.tuple #[.int .i64 (tL now nm.data.toList).1, .int .i64 (tL now nm.data.toList).2]) ∧ w = w' := by
 have HF := aA (uW h nm)
 obtain ⟨na, nc, rfl⟩ := h.now.slice
 obtain ⟨-, hnc, hncm⟩ := rI h.now
 obtain ⟨n, hn⟩ : ∃ n, n = now.length := ⟨_, rfl⟩
 have c1 := aD h.box 1
 simp only [bA, bB, bS] at c1
 rw [← hn] at c1 hnc
 cases hi : fL now nm.data.toList with
 | none =>
  have e1 : fQ now nm.data.toList = -1 := by simp [fQ, hi]
  have e2 : tL now nm.data.toList = (0, 80) := by simp [tL, hi]
  rw [e1] at HF
  rw [e2]
  clear h hn hi e1 e2 hsm
  go_in
  go_wp2_with fail
  refine HF.out.mono ?_
  rintro r w1 ⟨rfl, rfl⟩
  go_wp2_with fail
  go_ret2
  exact ⟨rfl, rfl⟩
 | some i =>
  have e1 : fQ now nm.data.toList = (i : Int) := by simp [fQ, hi]
  have e2 : tL now nm.data.toList = ((now.getD i RF.nil).data.length, 0) := by simp [tL, hi]
  have hil := (yD hi).1
  obtain ⟨g, rfl, -, -, -, d1, -⟩ := rH h.now hil
  have hin : (i : Int) < (n : Int) := by omega
  have hi0 : (0 : Int) ≤ (i : Int) := by omega
  have hds := pZ (now.getD i RF.nil).data
  have hdl : (now.getD i RF.nil).data.length ≤ 32768 := by
   rw [dI, bL hil]
   exact hsm _ (fX hil)
  rw [e1] at HF
  rw [e2]
  clear h hn hi e1 e2 hsm hil
  generalize (now.getD i RF.nil).data.length = k at *
  generalize bC (now.getD i RF.nil).data = s1 at *
  go_in
  go_wp2_with fail
  refine HF.out.mono ?_
  rintro r w1 ⟨rfl, rfl⟩
  go_wp2_with fail
  go_ret2
  exact ⟨by simp, rfl⟩
def sL (l : List RF) (nm : Bs) (at_ n : Int) : Nat := match fL l nm with | none => 80 | some i => if at_ < 0 ∨ ((l.getD i RF.nil).data.length : Int) < at_ ∨ n < 0 then 1 else 0
def oI (l : List RF) (nm : Bs) (at_ n : Int) : Bs := match fL l nm with | none => [] | some i => if at_ < 0 ∨ ((l.getD i RF.nil).data.length : Int) < at_ ∨ n < 0 then [] else ((l.getD i RF.nil).data.drop at_.toNat).take n.toNat
theorem Jo (d : Bs) (a e : Nat) (_h : a ≤ e) : (bC d).extract a e = bC ((d.drop a).take (e - a)) := by
 unfold bC
 rw [ByteArray.extract_mk]
theorem Jp (h : dX w base rp room nv lv now lst) (nm : ByteArray) (at_ cnt : Int) (ha : rF at_) (hc : rF cnt) (hsm : ∀ x ∈ now, x.data.length ≤ 32768) :
  Calls Tryz.prog 71 #[.pointer (some ⟨rp, 0, none⟩), .string nm, .int .i64 at_, .int .i64 cnt] w fun r w' => r = .returned (.tuple #[.string (bC (oI now nm.data.toList at_ cnt)), .int .i64 (sL now nm.data.toList at_ cnt)]) ∧ w = w' := by
 have HF := aA (uW h nm)
 obtain ⟨na, nc, rfl⟩ := h.now.slice
 obtain ⟨-, hnc, hncm⟩ := rI h.now
 obtain ⟨n, hn⟩ : ∃ n, n = now.length := ⟨_, rfl⟩
 have c1 := aD h.box 1
 simp only [bA, bB, bS] at c1
 rw [← hn] at c1 hnc
 cases hi : fL now nm.data.toList with
 | none =>
  have e1 : fQ now nm.data.toList = -1 := by simp [fQ, hi]
  have e2 : sL now nm.data.toList at_ cnt = 80 := by simp [sL, hi]
  have e3 : oI now nm.data.toList at_ cnt = [] := by simp [oI, hi]
  rw [e1] at HF
  rw [e2, e3]
  clear h hn hi e1 e2 e3 hsm
  go_in
  go_wp2_with fail
  refine HF.out.mono ?_
  rintro r w1 ⟨rfl, rfl⟩
  go_wp2_with fail
  go_ret2
  exact ⟨rfl, rfl⟩
 | some i =>
  have e1 : fQ now nm.data.toList = (i : Int) := by simp [fQ, hi]
  have hil := (yD hi).1
  obtain ⟨g, rfl, -, -, -, d1, -⟩ := rH h.now hil
  have hin : (i : Int) < (n : Int) := by omega
  have hi0 : (0 : Int) ≤ (i : Int) := by omega
  have hds := pZ (now.getD i RF.nil).data
  have hdl : (now.getD i RF.nil).data.length ≤ 32768 := by
   rw [dI, bL hil]
   exact hsm _ (fX hil)
  have e2 : sL now nm.data.toList at_ cnt = if at_ < 0 ∨ ((now.getD i RF.nil).data.length : Int) < at_ ∨ cnt < 0 then 1 else 0 := by simp [sL, hi]
  have e3 : oI now nm.data.toList at_ cnt = if at_ < 0 ∨ ((now.getD i RF.nil).data.length : Int) < at_ ∨ cnt < 0 then [] else ((now.getD i RF.nil).data.drop at_.toNat).take cnt.toNat := by simp [oI, hi]
  rw [e1] at HF
  rw [e2, e3]
  clear h hn hi e1 e2 e3 hsm hil
  generalize (now.getD i RF.nil).data = D at *
  obtain ⟨k, hk⟩ : ∃ k, k = D.length := ⟨_, rfl⟩
  rw [← hk] at hds hdl ⊢
  obtain ⟨ha1, ha2⟩ := ha
  obtain ⟨hc1, hc2⟩ := hc
  by_cases q1 : at_ < 0
  ·rw [aF (.inl q1), aF (.inl q1)]
   generalize bC D = s1 at *
   clear hk
   go_in
   go_wp2_with fail
   refine HF.out.mono ?_
   rintro r w1 ⟨rfl, rfl⟩
   go_wp2_with fail
   go_ret2
   exact ⟨rfl, rfl⟩
  by_cases q2 : (k : Int) < at_
  ·rw [aF (.inr (.inl q2)), aF (.inr (.inl q2))]
   generalize bC D = s1 at *
   clear hk
   go_in
   go_wp2_with fail
   refine HF.out.mono ?_
   rintro r w1 ⟨rfl, rfl⟩
   go_wp2_with fail
   go_ret2
   exact ⟨rfl, rfl⟩
  by_cases q3 : cnt < 0
  ·rw [aF (.inr (.inr q3)), aF (.inr (.inr q3))]
   generalize bC D = s1 at *
   clear hk
   go_in
   go_wp2_with fail
   refine HF.out.mono ?_
   rintro r w1 ⟨rfl, rfl⟩
   go_wp2_with fail
   go_ret2
   exact ⟨rfl, rfl⟩
  rw [aE (by omega), aE (by omega)]
  obtain ⟨a, rfl⟩ : ∃ a : Nat, at_ = a := ⟨at_.toNat, by omega⟩
  obtain ⟨c, rfl⟩ : ∃ c : Nat, cnt = c := ⟨cnt.toNat, by omega⟩
  obtain ⟨m, hm⟩ : ∃ m : Nat, m = min c (k - a) := ⟨_, rfl⟩
  have hmin : min (c : Int) ((k : Int) - (a : Int)) = (m : Int) := by omega
  have hma : a + m ≤ k := by omega
  have hcut := Jo D a (a + m) (by omega)
  have hcut2 : (D.drop a).take (a + m - a) = (D.drop (a : Int).toNat).take (c : Int).toNat := by
   rw [Kd, oP, oP]
   rcases Nat.le_total c (k - a) with q | q
   ·rw [show m = c by omega]
   rw [dY (by rw [eD]; omega), dY (by rw [eD]; omega)]
  rw [hcut2] at hcut
  have HCUT := aA hcut
  have h0a : (0 : Int) ≤ (a : Int) := by omega
  have ham : (a : Int) ≤ (a : Int) + (m : Int) := by omega
  have hamk : (a : Int) + (m : Int) ≤ (k : Int) := by omega
  clear hcut hcut2 hk hm q1 q2 q3
  generalize bC ((D.drop (a : Int).toNat).take (c : Int).toNat) = s2 at *
  generalize bC D = s1 at *
  go_in
  go_wp2_with fail
  refine HF.out.mono ?_
  rintro r w1 ⟨rfl, rfl⟩
  go_wp2_with fail
  go_ret2
  exact ⟨by rw [← HCUT.out]; simp, rfl⟩
end
theorem Jq {l : List RF} {i j : Nat} (hi : i < l.length) (hj : j < 3) {x' : RF} {v : Value} (hx : cF x' = (cF l[i]).set j v) : aP cF (l.set i x') = (aP cF l).set (i * 3 + j) v := by
 induction l generalizing i with
 | nil => simp at hi
 | cons x l ih =>
  have e0 : ∀ (y : RF) (l : List RF), aP cF (y :: l) = cF y ++ aP cF l := fun _ _ => rfl
  cases i with
  | zero =>
   rw [aU, e0, e0, hx, List.set_append_left _ _ (by show 0 * 3 + j < 3; omega)]
   simp
  | succ i =>
   rw [aT, e0, e0, ih (i := i) (by simpa using hi) (by simpa using hx), DS _ _ (by show 3 ≤ (i + 1) * 3 + j; omega)]
   congr 2
   show i * 3 + j = (i + 1) * 3 + j - 3
   omega
theorem RS {w : World} {base g n c : Nat} {l : List RF} (h : sK w base (.slice (some ⟨g, 0, none⟩) n c) l) {i j : Nat} (hi : i < l.length) (hj : j < 3) {x' : RF} {v : Value} (hx : cF x' = (cF l[i]).set j v) : sK (w.setCell ⟨g, i * 3 + j, none⟩ v) base (.slice (some ⟨g, 0, none⟩) n c) (l.set i x') := by
 obtain ⟨h0, h2⟩ := h
 refine ⟨by rw [Jq hi hj hx, tU, tU]; exact h0, ?_⟩
 rw [tU]
 rcases h2 with ⟨hv, -⟩ | ⟨g', cap, cur, hv, hg, hh, r1, r2, r3, r4⟩
 ·cases hv
 simp only [fG, fY, yX] at hv
 obtain ⟨⟨rfl, -⟩, rfl, rfl⟩ := hv
 refine .inr ⟨g, c, cur.setIfInBounds (i * 3 + j) v, rfl, hg, by rw [bJ, aF rfl, hh]; rfl, r1, r2, by rw [Kk]; exact r3, ?_⟩
 rw [wO, Jq hi hj hx, ← r4, yV]
section
variable {w w' : World} {base rp room : Nat} {nv lv : Value} {now lst : List RF}
theorem dX.putNow (h : dX w base rp room nv lv now lst) {nv' : Value} {now' : List RF} (u : aB nv.ownBlock.toList w w') (ho : sK w' base nv' now') (hn : nv'.ownBlock = nv.ownBlock ∨ ∀ g, nv'.ownBlock = some g → w.heap.size ≤ g) : iW w base rp room nv lv now' lst (w'.setCell ⟨rp, 1, none⟩ nv') := by
 have hrl := aH h.box
 have hb : w'.heap[rp]? = some (yC room nv lv) := (u.block rp hrl fun q => h.n1 (by simpa using q)).trans h.box
 have us : aB [rp] w' (w'.setCell ⟨rp, 1, none⟩ nv') := (aB.refl [rp] w').setCell (by simp) _ _
 have hl := h.lst.upd u fun j hj => h.n3 j (by simpa using hj)
 have hn1 : nv'.ownBlock ≠ some rp := fun e => by
  rcases hn with q | q
  ·rw [q] at e; exact h.n1 e
  have := q rp e; omega
 refine ⟨nv', lv, ⟨by rw [bJ, aF rfl, hb]; rfl, ho.upd us fun j hj => by rw [aM.1 hj]; exact hn1, hl.upd us fun j hj => by rw [aM.1 hj]; exact h.n2, h.low, hn1, h.n2, fun g hg e => ?_⟩, (u.mono fun k hk _ => mB.2 (.inr (.inl (by simpa using hk)))).trans (us.mono fun k hk _ => mB.2 (.inl (by simpa using hk))), fun i hi => ?_⟩
 ·rcases hn with q | q
  ·rw [q] at hg; exact h.n3 g hg e
  have := q g hg; have := (h.lst.block g e).2; omega
 rcases mB.1 hi with e | e | e
 ·exact .inl (mB.2 (.inl e))
 ·rcases hn with q | q
  ·rw [q] at e; exact .inl (mB.2 (.inr (.inl e)))
  exact .inr (q i e)
 exact .inl (mB.2 (.inr (.inr e)))
theorem dX.putLst (h : dX w base rp room nv lv now lst) {lv' : Value} {lst' : List RF} (u : aB [] w w') (ho : sK w' base lv' lst') (hn : ∀ g, lv'.ownBlock = some g → w.heap.size ≤ g) : iW w base rp room nv lv now lst' (w'.setCell ⟨rp, 2, none⟩ lv') := by
 have hrl := aH h.box
 have hb : w'.heap[rp]? = some (yC room nv lv) := (u.block rp hrl (by simp)).trans h.box
 have us : aB [rp] w' (w'.setCell ⟨rp, 2, none⟩ lv') := (aB.refl [rp] w').setCell (by simp) _ _
 have hnw := h.now.upd u (by simp)
 have hn2 : lv'.ownBlock ≠ some rp := fun e => by have := hn rp e; omega
 refine ⟨nv, lv', ⟨by rw [bJ, aF rfl, hb]; rfl, hnw.upd us fun j hj => by rw [aM.1 hj]; exact h.n1, ho.upd us fun j hj => by rw [aM.1 hj]; exact hn2, h.low, h.n1, hn2, fun g hg e => ?_⟩, (u.mono (by simp)).trans (us.mono fun k hk _ => mB.2 (.inl (by simpa using hk))), fun i hi => ?_⟩
 ·have := hn g e; have := (h.now.block g hg).2; omega
 rcases mB.1 hi with e | e | e
 ·exact .inl (mB.2 (.inl e))
 ·exact .inl (mB.2 (.inr (.inl e)))
 exact .inr (hn i e)
theorem iW.refl (h : dX w' base rp room nv lv now lst) (u : aB [] w w') : iW w base rp room nv lv now lst w' := ⟨nv, lv, h, u.mono (by simp), fun i hi => .inl hi⟩
theorem RT (w : World) (n : Nat) (h1 : 36 ≤ n) (h2 : n ≤ 1000) :
  Calls Tryz.prog 24 #[.int .i64 n] w fun r w' => r = .returned (.pointer (some ⟨w.heap.size, 0, none⟩)) ∧ dX w' w.heap.size w.heap.size (n - 36) (.slice none 0 0) (.slice none 0 0) [] [] ∧ aB [] w w' := by
 have e : (n : Int) - 36 = ((n - 36 : Nat) : Int) := by omega
 go_in
 go_wp2_with fail
 go_ret
 exact ⟨rfl, ⟨by first | exact aX _ _ | (rw [← e]; exact aX _ _), aK.nil _ _, aK.nil _ _, aQ _, (fun q => by cases q), (fun q => by cases q), (fun g hg => by cases hg)⟩, (aB.refl [] w).alloc _⟩
def oJ (l : List RF) (nm : Bs) : Nat := if 1 ≤ nm.length ∧ nm.length ≤ 40 then (match fL l nm with | some _ => 81 | none => if 64 ≤ l.length then 83 else 0) else 82
def qA (l : List RF) (nm : Bs) : List RF := if oJ l nm = 0 then l ++ [⟨nm, [], 0⟩] else l
theorem Jr (h : dX w base rp room nv lv now lst) (hb : base ≤ w.heap.size) (nm : ByteArray) (hs : nm.size ≤ maxLen) (hl : now.length ≤ 1000) :
  Calls Tryz.prog 25 #[.pointer (some ⟨rp, 0, none⟩), .string nm] w fun r w' => r = .returned (.int .i64 (oJ now nm.data.toList)) ∧ iW w base rp room nv lv (qA now nm.data.toList) lst w' := by
 have HF := aA (uW h nm)
 have HNm := aA (RQ w nm hs)
 have hse : nm = bC nm.data.toList := IH rfl
 have HSE := aA hse
 clear hse
 generalize hL : nm.data.toList = L at *
 clear hL
 have H := aA h
 by_cases h1 : 1 ≤ L.length ∧ L.length ≤ 40
 ·rw [decide_eq_true h1] at HNm
  cases hi : fL now L with
  | some i =>
   have e1 : fQ now L = (i : Int) := by simp [fQ, hi]
   have e2 : oJ now L = 81 := by simp [oJ, h1, hi]
   have e3 : qA now L = now := by simp [qA, e2]
   have hi0 : (0 : Int) ≤ (i : Int) := by omega
   rw [e1] at HF
   rw [e2, e3]
   clear h h1 hi e1 e2 e3
   go_in
   go_wp2_with fail
   refine HNm.out.mono ?_
   rintro r w1 ⟨rfl, rfl⟩
   go_wp2_with fail
   refine HF.out.mono ?_
   rintro r w1 ⟨rfl, rfl⟩
   go_wp2_with fail
   go_ret
   exact ⟨rfl, iW.refl H.out (aB.refl [] _)⟩
  | none =>
   have e1 : fQ now L = -1 := by simp [fQ, hi]
   rw [e1] at HF
   obtain ⟨na, nc, rfl⟩ := h.now.slice
   obtain ⟨n, hn⟩ : ∃ n, n = now.length := ⟨_, rfl⟩
   have c1 := aD h.box 1
   have f1 := aZ h.box 1
   simp only [bA, bB, bS] at c1
   obtain ⟨-, hnc, hncm⟩ := rI h.now
   rw [← hn] at c1 hnc hl
   have HN := aA hn
   have hrl := aH h.box
   by_cases h64 : 64 ≤ n
   ·have h64' : (64 : Int) ≤ (n : Int) := by omega
    have e2 : oJ now L = 83 := by simp [oJ, h1, hi, ← hn, h64]
    have e3 : qA now L = now := by simp [qA, e2]
    rw [e2, e3]
    clear h h1 hi e1 e2 e3 hn
    go_in
    go_wp2_with fail
    refine HNm.out.mono ?_
    rintro r w1 ⟨rfl, rfl⟩
    go_wp2_with fail
    refine HF.out.mono ?_
    rintro r w1 ⟨rfl, rfl⟩
    go_wp2_with fail
    go_ret
    exact ⟨rfl, iW.refl H.out (aB.refl [] _)⟩
   have h64' : ¬ (64 : Int) ≤ (n : Int) := by omega
   have e2 : oJ now L = 0 := by simp [oJ, h1, hi, ← hn, h64]
   have e3 : qA now L = now ++ [⟨L, [], 0⟩] := by simp [qA, e2]
   rw [e2, e3]
   have HO : Hid (∀ X : Obj, sK (w.alloc X) base (.slice na now.length nc) now) := aA fun X => (h.keep ((aB.refl [] w).alloc X)).now
   clear h h1 hi e1 e2 e3 hn
   go_in
   go_wp2_with fail
   refine HNm.out.mono ?_
   rintro r w1 ⟨rfl, rfl⟩
   go_wp2_with fail
   refine HF.out.mono ?_
   rintro r w1 ⟨rfl, rfl⟩
   go_wp2_with (first
    | (at_builtin; go_loud (refine fS TF rfl _ _ rfl (base := base) (l := now) (r := [⟨L, [], 0⟩]) (by rw [HN.out]; rfl) (HO.out _) rfl (iS TF (ty := 128) (by rw [HSE.out]; exact aX _ _)) (AH _) ?c1 ?c2 ?c3 ?_))
    | fail)
   case c1 => simp; rw [← HN.out]; omega
   case c2 => simp; rw [← HN.out]; omega
   case c3 => simp; omega
   intro v8 w8 ho8 hg8 hn8
   obtain ⟨a8, k8, m8, hm8, rfl⟩ := ho8.sliceM
   clear hm8
   have hua : aB [] w (w.alloc (.cells #[.string nm, .string ⟨#[]⟩, .int .i64 0] 128)) := (aB.refl [] w).alloc _
   have hu8 : aB (Value.slice na now.length nc).ownBlock.toList w w8 := (hua.mono (by simp)).trans (aB.of_grown hg8)
   have hrs : iW w base rp room (.slice na now.length nc) lv (now ++ [⟨L, [], 0⟩]) lst (w8.setCell ⟨rp, 1, none⟩ (.slice a8 m8 k8)) := H.out.putNow hu8 ho8 (hn8.imp id fun q g hg => by have := q g hg; omega)
   have hb8 : w8.heap[rp]? = some (yC room (.slice na now.length nc) lv) := (hu8.block rp hrl (fun q => H.out.n1 (by simpa using q))).trans H.out.box
   have f8 := aZ hb8 1
   have c8 := aD hb8 1
   simp only [bA, bB, bS] at c8
   have HRS := aA hrs
   clear hrs hu8 hg8 hn8 ho8 hb8 hua
   go_wp2_with fail
   go_ret
   exact ⟨rfl, HRS.out⟩
 have e2 : oJ now L = 82 := by simp [oJ, h1]
 have e3 : qA now L = now := by simp [qA, e2]
 rw [e2, e3]
 rw [decide_eq_false h1] at HNm
 clear h h1 e2 e3
 go_in
 go_wp2_with fail
 refine HNm.out.mono ?_
 rintro r w1 ⟨rfl, rfl⟩
 go_wp2_with fail
 go_ret
 exact ⟨rfl, iW.refl H.out (aB.refl [] _)⟩
end
def oK (x : RF) : RF := ⟨x.nm, x.data, bP x.data.length⟩
theorem Js {α : Type} (f : α → α) : ∀ (l : List α) (i : Nat) (h : i < l.length), ((l.take i).map f ++ l.drop i).set i (f l[i]) = (l.take (i + 1)).map f ++ l.drop (i + 1)
 | [], i, h => by simp at h
 | x :: l, 0, h => by simp
 | x :: l, i + 1, h => by
  have := Js f l i (by simpa using h)
  simp only [Kb, dR, List.cons_append, List.drop_succ_cons, aT, JW] at this ⊢
  rw [this]
theorem RU {α : Type} (f : α → α) (l : List α) (i : Nat) (h : i < l.length) : ∃ h' : i < ((l.take i).map f ++ l.drop i).length, ((l.take i).map f ++ l.drop i)[i] = l[i] := by
 have hl : ((l.take i).map f).length = i := by rw [dF, bX]; omega
 refine ⟨by rw [bD, hl, eD]; omega, ?_⟩
 rw [List.getElem_append_right (by omega)]
 have e : i - ((l.take i).map f).length = 0 := by omega
 simp only [e, List.getElem_drop, kU]
section
variable {w w' : World} {base rp room : Nat} {nv lv : Value} {now lst : List RF}
theorem dX.putOld {g n c : Nat} (h : dX w base rp room (.slice (some ⟨g, 0, none⟩) n c) lv now lst) {i j : Nat} (hi : i < now.length) (hj : j < 3) {x' : RF} {v : Value} (hx : cF x' = (cF now[i]).set j v) : dX (w.setCell ⟨g, i * 3 + j, none⟩ v) base rp room (.slice (some ⟨g, 0, none⟩) n c) lv (now.set i x') lst ∧ aB [g] w (w.setCell ⟨g, i * 3 + j, none⟩ v) := by
 have us : aB [g] w (w.setCell ⟨g, i * 3 + j, none⟩ v) := (aB.refl [g] w).setCell (by simp) _ _
 have hgr : g ≠ rp := fun e => h.n1 (by rw [e]; rfl)
 exact ⟨⟨(us.block rp (aH h.box) (by simp; exact fun e => hgr e.symm)).trans h.box, RS h.now hi hj hx, h.lst.upd us fun k hk e => h.n3 g rfl (by rw [aM.1 hk] at e; exact e), h.low, h.n1, h.n2, h.n3⟩, us⟩
theorem Jt (h : dX w base rp room nv lv now lst) (hb : base ≤ w.heap.size) (hl : now.length ≤ 1000) (hsm : ∀ x ∈ now, x.data.length ≤ 32768) :
  Calls Tryz.prog 27 #[.pointer (some ⟨rp, 0, none⟩)] w fun r w' => r = .returned (.tuple #[]) ∧ iW w base rp room nv lv (now.map oK) (now.map oK) w' := by
 obtain ⟨na, nc, rfl⟩ := h.now.slice
 obtain ⟨n, hn⟩ : ∃ n, n = now.length := ⟨_, rfl⟩
 obtain ⟨-, hnc, hncm⟩ := rI h.now
 rw [← hn] at hnc h hl ⊢
 have H : Hid (dX w base rp room (.slice na n nc) lv ((now.take 0).map oK ++ now.drop 0) lst) := aA (by simpa using h)
 have HN := aA hn
 have HSM := aA hsm
 clear h hn hsm
 go_in
 go_wp2_with fail
 go_loopg [2] n (fun gh v2 wr => ∃ i : Nat, v2 = .int .i64 i ∧ i ≤ n ∧ gh = n - i ∧ Hid (dX wr base rp room (.slice na n nc) lv ((now.take i).map oK ++ now.drop i) lst ∧ aB (kB rp (.slice na n nc) lv) w wr))
 case atStart => exact ⟨0, rfl, by omega, rfl, aA ⟨H.out, aB.refl _ _⟩⟩
 case round =>
  obtain ⟨i, rfl, hi, rfl, HS⟩ := hrel
  obtain ⟨W, hW⟩ : ∃ W, W = wr := ⟨_, rfl⟩
  subst hW
  have c1 := aD HS.out.1.box 1
  simp only [bA, bB, bS] at c1
  by_cases hin : i < n
  ·have hin' : (i : Int) < (n : Int) := by omega
   have hin2 : i < now.length := by rw [← HN.out]; exact hin
   obtain ⟨hil, hge⟩ := RU oK now i hin2
   obtain ⟨g, rfl, -, hfz, -, d1, d2⟩ := rH HS.out.1.now hil
   rw [dI, bL hil] at d1 d2
   simp only [tT] at d1 d2
   rw [hge] at d1 d2
   have e2 : W.drew.cell? ⟨g, i * 3 + 2, none⟩ = some (.int .i64 now[i].old) := d2
   have hdl := HSM.out now[i] (fX _)
   have hds := pZ now[i].data
   have hud : aB [] W W.drew := (aB.refl [] W).drew
   obtain ⟨hr1, hr2⟩ := (HS.out.1.keep hud).putOld hil (j := 2) (by omega) (x' := oK now[i]) (v := .int .i64 (bP now[i].data.length)) (by rw [hge]; rfl)
   rw [Js oK now i hin2] at hr1
   have HBK := aA fun X : World => AJ X now[i].data.length (by omega)
   have HR := aA (aC hr1 ((hud.mono (by simp)).trans hr2))
   have f2 := hfz (i * 3 + 2)
   have hgrp : g ≠ rp := fun e => HS.out.1.n1 (by rw [e]; rfl)
   have hSt : ∀ v, (W.drew.setCell ⟨g, i * 3 + 2, none⟩ v).cell? ⟨rp, 1, none⟩ = some (.slice (some ⟨g, 0, none⟩) n nc) ∧ (W.drew.setCell ⟨g, i * 3 + 2, none⟩ v).cell? ⟨g, i * 3 + 1, none⟩ = some (.string (bC now[i].data)) ∧ (W.drew.setCell ⟨g, i * 3 + 2, none⟩ v).frozen? ⟨g, i * 3 + 2, none⟩ = false := fun v =>
    ⟨(Ec _ _ _ _ (fun e => hgrp (bM Addr.block e))).trans c1, (Ec _ _ _ _ (fun e => by have := bM Addr.off e; simp at this)).trans d1, (Kl _ _ _ _).trans f2⟩
   have hS0 : W.drew.cell? ⟨rp, 1, none⟩ = some (.slice (some ⟨g, 0, none⟩) n nc) ∧ W.drew.cell? ⟨g, i * 3 + 1, none⟩ = some (.string (bC now[i].data)) ∧ W.drew.frozen? ⟨g, i * 3 + 2, none⟩ = false := ⟨c1, d1, f2⟩
   clear hr1 hr2 hge hfz
   generalize bC now[i].data = s1 at *
   generalize now[i].data.length = k at *
   generalize now[i].old = od at *
   go_wp2_with fail
   go_region_held3 (fun X => X.cell? ⟨rp, 1, none⟩ = some (.slice (some ⟨g, 0, none⟩) n nc) ∧ X.cell? ⟨g, i * 3 + 1, none⟩ = some (.string s1) ∧ X.frozen? ⟨g, i * 3 + 2, none⟩ = false)
    (first
     | (with_reducible exact hS0)
     | (exact hSt _))
    (first
     | (go_at_call 68; (with_reducible refine (HBK.out _).mono ?_); rintro e w6 ⟨rfl, rfl⟩))
   have H2 : Hid (dX ((W.setCell ⟨g, i * 3 + 2, none⟩ (.int .i64 (bP k))).drew) base rp room (.slice (some ⟨g, 0, none⟩) n nc) lv ((now.take (i + 1)).map oK ++ now.drop (i + 1)) lst ∧ aB (kB rp (.slice (some ⟨g, 0, none⟩) n nc) lv) w ((W.setCell ⟨g, i * 3 + 2, none⟩ (.int .i64 (bP k))).drew)) := aA (aC HR.out.1 (HS.out.2.next HR.out.2 fun k hk hlt => mB.2 (.inr (.inl (by rw [aM.1 hk]; rfl)))))
   clear hS0 hSt e2 d1 d2 c1 f2 HR HBK
   generalize (W.setCell ⟨g, i * 3 + 2, none⟩ (.int .i64 (bP k))).drew = W2 at *
   go_wp2_with fail
   go_roundg (n - (i + 1))
   case measure => omega
   case rel => exact ⟨i + 1, by go_num, by omega, rfl, H2⟩
  have hin' : ¬ (i : Int) < (n : Int) := by omega
  have hfin := HS.out.1
  rw [dY (by rw [← HN.out]; omega), List.drop_of_length_le (by rw [← HN.out]; omega), sN] at hfin
  obtain ⟨l2, hl2⟩ : ∃ l2, l2 = now.map oK := ⟨_, rfl⟩
  have hl2n : n = l2.length := by rw [hl2, dF, HN.out]
  rw [← hl2] at hfin
  have HLE := aA hl2
  clear hl2
  have HL2 := aA hl2n
  have HF := aA hfin
  have hua : aB [] W (W.alloc (.cells #[] 128)) := (aB.refl [] W).alloc _
  have HUA := aA hua
  have hrl := aH hfin.box
  have hbW := bG hb HS.out.2.size
  have f2 := aZ hfin.box 2
  clear hl2n hfin hua
  go_wp2_with (first
   | (at_builtin; refine fS TF rfl _ _ rfl (base := W.heap.size) (l := []) (r := l2) rfl (aK.empty TF (aX _ _) (aQ _)) (by rw [← HL2.out]; rfl) (aK.src TF (HF.out.keep HUA.out).now) (AH _) ?c1 ?c2 ?c3 ?_)
   | fail)
  case c1 => rw [← HL2.out]; omega
  case c2 => rw [← HL2.out]; omega
  intro v8 w8 ho8 hg8 hn8
  obtain ⟨a8, k8, m8, hm8, rfl⟩ := ho8.sliceM
  clear hm8
  have hu8 : aB [] W w8 := HUA.out.grown hg8 (fun g hg => by cases hg; exact aQ _)
  have hrs : iW W base rp room (.slice na n nc) lv l2 l2 (w8.setCell ⟨rp, 2, none⟩ (.slice a8 m8 k8)) := HF.out.putLst hu8 (ho8.base hbW) (fun g hg => (ho8.block g hg).1)
  have hb8 : w8.heap[rp]? = some (yC room (.slice na n nc) lv) := (hu8.block rp hrl (by simp)).trans HF.out.box
  have f8 := aZ hb8 2
  have c8 := aD hb8 2
  simp only [bA, bB, bS] at c8
  have HRS : Hid (iW w base rp room (.slice na n nc) lv l2 l2 (w8.setCell ⟨rp, 2, none⟩ (.slice a8 m8 k8))) := aA (by
   obtain ⟨nv', lv', q1, q2, q3⟩ := hrs
   exact ⟨nv', lv', q1, HS.out.2.trans q2, fun i hi => (q3 i hi).imp id (bG HS.out.2.size)⟩)
  clear hrs hu8 hg8 hn8 ho8 hb8 HUA
  go_wp2_with fail
  go_end0
  exact ⟨rfl, by rw [← HLE.out]; exact HRS.out⟩
theorem AK {l : List RF} {i : Nat} (hi : i < l.length) : l.take (i + 1) = l.take i ++ [l.getD i RF.nil] := by
 rw [iK, dI, bL hi]
 rfl
def eT (l : List RF) : Nat := (l.map fun x => bP x.data.length).sum
def jH (l : List RF) : Nat := (l.map (·.old)).sum
theorem Dy (l : List RF) (x : RF) : eT (l ++ [x]) = eT l + bP x.data.length := by
 unfold eT; rw [eZ, List.sum_append]; simp
theorem Ju (l : List RF) (x : RF) : jH (l ++ [x]) = jH l + x.old := by
 unfold jH; rw [eZ, List.sum_append]; simp
theorem AL {l : List RF} (hl : ∀ x ∈ l, x.data.length ≤ 32768) : eT l ≤ 64 * l.length := by
 induction l with
 | nil => simp [eT]
 | cons y l ih =>
  have h1 := ih fun z hz => hl z (iZ _ hz)
  have h2 := hl y (sO ..)
  simp only [eT, dR, sM, eG] at h1 ⊢
  have : bP y.data.length ≤ 64 := by unfold bP; omega
  omega
theorem Jv {l : List RF} (hl : ∀ x ∈ l, x.old ≤ 64) : jH l ≤ 64 * l.length := by
 induction l with
 | nil => simp [jH]
 | cons y l ih =>
  have h1 := ih fun z hz => hl z (iZ _ hz)
  have h2 := hl y (sO ..)
  simp only [jH, dR, sM, eG] at h1 ⊢
  omega
theorem Jw (h : dX w base rp room nv lv now lst) (hr : room ≤ 1000) (hl : now.length ≤ 100) (hll : lst.length ≤ 100) (hsm : ∀ x ∈ now, x.data.length ≤ 32768 ∧ x.old ≤ 64) (hsl : ∀ x ∈ lst, x.data.length ≤ 32768) :
  Calls Tryz.prog 69 #[.pointer (some ⟨rp, 0, none⟩)] w fun r w' => r = .returned (.int .i64 ((room : Int) - eT lst - eT now + jH now)) ∧ aB [] w w' := by
 obtain ⟨na, nc, rfl⟩ := h.now.slice
 obtain ⟨la, lc, rfl⟩ := h.lst.slice
 obtain ⟨n, hn⟩ : ∃ n, n = now.length := ⟨_, rfl⟩
 obtain ⟨m, hm⟩ : ∃ m, m = lst.length := ⟨_, rfl⟩
 obtain ⟨-, hnc, hncm⟩ := rI h.now
 obtain ⟨-, hlc, hlcm⟩ := rI h.lst
 rw [← hn] at hnc h hl
 rw [← hm] at hlc h hll
 have HC := aA fun i (hi : i < now.length) => rH h.now hi
 have HL := aA fun i (hi : i < lst.length) => rH h.lst hi
 rw [← hn] at HC
 rw [← hm] at HL
 have c0 := aD h.box 0
 have c1 := aD h.box 1
 have c2 := aD h.box 2
 simp only [bA, bB, bS] at c0 c1 c2
 have HN := aA (aC hn hm)
 have HSM := aA (aC hsm hsl)
 clear h hn hm hsm hsl
 go_in
 go_wp2_with fail
 go_loopg [3, 4] m (fun gh v3 v4 wr => ∃ i : Nat, v4 = .int .i64 i ∧ i ≤ m ∧ gh = m - i ∧ w = wr ∧ ∃ x : Int, v3 = .int .i64 x ∧ x = (room : Int) - eT (lst.take i) ∧ -6500 ≤ x ∧ x ≤ 1000)
 case atStart => exact ⟨0, rfl, by omega, rfl, rfl, room, rfl, by simp [eT], by omega, by omega⟩
 case round =>
  obtain ⟨i, rfl, hi, rfl, rfl, x, rfl, hx, hx1, hx2⟩ := hrel
  by_cases hin : i < m
  ·have hin' : (i : Int) < (m : Int) := by omega
   obtain ⟨g, rfl, -, -, -, d1, -⟩ := HL.out i hin
   have hll2 : i < lst.length := by rw [← HN.out.2]; exact hin
   have hsu : eT (lst.take (i + 1)) = eT (lst.take i) + bP (lst.getD i RF.nil).data.length := by
    rw [AK hll2, Dy]
   have hle : eT (lst.take (i + 1)) ≤ 64 * m := by
    refine bG (AL fun x hx => HSM.out.2 x (rM hx)) ?_
    rw [bX]
    omega
   have hdl : (lst.getD i RF.nil).data.length ≤ 32768 := by
    rw [dI, bL hll2]
    exact HSM.out.2 _ (fX _)
   have hds := pZ (lst.getD i RF.nil).data
   have HB := aA fun X : World => AJ X (lst.getD i RF.nil).data.length (by omega)
   have h1 := hle
   have hbk : bP (lst.getD i RF.nil).data.length ≤ 64 := by unfold bP; omega
   have hy : (room : Int) - eT (lst.take (i + 1)) = x - bP (lst.getD i RF.nil).data.length := by rw [hsu, hx]; omega
   have hy1 : -6500 ≤ x - (bP (lst.getD i RF.nil).data.length : Int) := by rw [← hy]; omega
   have HY := aA hy
   clear hx hsu hle h1 hy
   generalize bC (lst.getD i RF.nil).data = s1 at *
   generalize hbl : bP (lst.getD i RF.nil).data.length = bk at *
   generalize (lst.getD i RF.nil).data.length = k at *
   clear hbl
   go_wp2_with fail
   refine (HB.out _).mono ?_
   rintro r w2 ⟨rfl, rfl⟩
   go_wp2_with fail
   go_roundg (m - (i + 1))
   case measure => omega
   case rel => exact ⟨i + 1, by go_num, by omega, rfl, rfl, x - bk, by go_num, HY.out.symm, by omega, by omega⟩
  have hin' : ¬ (i : Int) < (m : Int) := by omega
  have hxx : x = (room : Int) - eT lst := by
   rw [dY (by rw [← HN.out.2]; omega)] at hx
   exact hx
  have HX := aA hxx
  clear hx hxx
  go_wp2_with fail
  go_loopg [3, 5] n (fun gh v3 v5 wr => ∃ i : Nat, v5 = .int .i64 i ∧ i ≤ n ∧ gh = n - i ∧ Hid (aB [] w wr) ∧ ∃ y : Int, v3 = .int .i64 y ∧ Hid (y = x - eT (now.take i) + jH (now.take i)) ∧ -13000 ≤ y ∧ y ≤ 7500)
  case atStart => exact ⟨0, rfl, by omega, rfl, aA (aB.refl [] w), x, rfl, aA (by simp [eT, jH]), by omega, by omega⟩
  case round =>
   obtain ⟨j, rfl, hj, rfl, HU, y, rfl, HY, hy1, hy2⟩ := hrel
   obtain ⟨W, hW⟩ : ∃ W, W = wr := ⟨_, rfl⟩
   subst hW
   have e1 := cN HU.out c1
   by_cases hjn : j < n
   ·have hjn' : (j : Int) < (n : Int) := by omega
    obtain ⟨g, rfl, -, -, -, d1, d2⟩ := HC.out j hjn
    have e2 := cN HU.out d1
    have e3 := cN HU.out d2
    have hll2 : j < now.length := by rw [← HN.out.1]; exact hjn
    have hsu : eT (now.take (j + 1)) = eT (now.take j) + bP (now.getD j RF.nil).data.length := by
     rw [AK hll2, Dy]
    have hso : jH (now.take (j + 1)) = jH (now.take j) + (now.getD j RF.nil).old := by
     rw [AK hll2, Ju]
    have hle : eT (now.take (j + 1)) ≤ 64 * n := by
     refine bG (AL fun x hx => (HSM.out.1 x (rM hx)).1) ?_
     rw [bX]
     omega
    have hlo : jH (now.take (j + 1)) ≤ 64 * n := by
     refine bG (Jv fun x hx => (HSM.out.1 x (rM hx)).2) ?_
     rw [bX]
     omega
    have hmem := HSM.out.1 now[j] (fX hll2)
    have hgd : now.getD j RF.nil = now[j] := by rw [dI, bL hll2]; rfl
    rw [← hgd] at hmem
    have hds := pZ (now.getD j RF.nil).data
    have HB := aA fun X : World => AJ X (now.getD j RF.nil).data.length (by omega)
    have hbk : bP (now.getD j RF.nil).data.length ≤ 64 := by have := hmem.1; unfold bP; omega
    have hy := HY.out
    have hz : x - eT (now.take (j + 1)) + jH (now.take (j + 1)) = y - (bP (now.getD j RF.nil).data.length : Int) + ((now.getD j RF.nil).old : Int) := by rw [hsu, hso, hy]; omega
    have hz1 : -13000 ≤ y - (bP (now.getD j RF.nil).data.length : Int) + ((now.getD j RF.nil).old : Int) := by rw [← hz]; omega
    have hz2 : y - (bP (now.getD j RF.nil).data.length : Int) + ((now.getD j RF.nil).old : Int) ≤ 7500 := by rw [← hz]; omega
    have HZ := aA hz
    have hol := hmem.2
    clear hy hsu hso hle hlo hz d1 d2 hmem hgd
    generalize bC (now.getD j RF.nil).data = s1 at *
    generalize hbl : bP (now.getD j RF.nil).data.length = bk at *
    generalize (now.getD j RF.nil).data.length = k at *
    generalize (now.getD j RF.nil).old = od at *
    clear hbl
    go_wp2_with fail
    go_quiet ((go_at_call 68; refine Calls.quiet_of_same ((HB.out _).mono fun r w' ⟨a, b⟩ => ⟨a, b.symm⟩)))
    have HU2 := aA (HU.out.drewN nq)
    clear e1 e2 e3
    generalize W.drewN nq = W2 at *
    go_wp2_with fail
    go_roundg (n - (j + 1))
    case measure => omega
    case rel => exact ⟨j + 1, by go_num, by omega, rfl, HU2, y - bk + od, by go_num, aA HZ.out.symm, hz1, hz2⟩
   have hjn' : ¬ (j : Int) < (n : Int) := by omega
   have hyy : y = (room : Int) - eT lst - eT now + jH now := by
    have h := HY.out
    rw [dY (by rw [← HN.out.1]; omega), HX.out] at h
    exact h
   have HYY := aA hyy
   clear hyy
   go_wp2_with fail
   go_ret
   exact ⟨by rw [← HYY.out]; rfl, HU.out⟩
end
end Go.Proofs.YtgpefiacbipfpaaGreatDoor
