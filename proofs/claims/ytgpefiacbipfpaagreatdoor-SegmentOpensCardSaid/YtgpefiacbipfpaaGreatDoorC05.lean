/- The codec's walks: Frame, where the length fits. -/
import Derived.Maps.OwnSet
import Derived.OwnWalk
import Derived.Maps.RangeWalk
import Derived.Maps.Ext
import Derived.Test.YtgpefiacbipfpaaGreatDoorC04
set_option maxRecDepth 100000
set_option maxHeartbeats 4000000
namespace Go.Proofs.YtgpefiacbipfpaaGreatDoor
open Go.RowKit
theorem pV {W : World} {B : Nat} {a0 b0 : Value} {T : TypeId} (h : W.heap[B]? = some (.cells #[a0, b0] T (0, 0))) (a b : Value) :
  ((W.setCell ⟨B, 0, none⟩ a).setCell ⟨B, 1, none⟩ b).heap[B]? = some (.cells #[a, b] T (0, 0)) := by
 rw [bJ, aF rfl, bJ, aF rfl, h]
 rfl
theorem LJ (w : World) {b off n c u k s1 s2 : Nat} (hc : n ≤ c) (hc2 : c ≤ 9223372036854775807) (hu : u ≤ 2000) (hk : k ≤ 10) (hk0 : 1 ≤ k) (hf : 5 + k + u ≤ n) (_hs1 : s1 < 4294967296) (_hs2 : s2 < 4294967296) (hne : s1 ≠ s2)
  (HU : ∀ V, aB [] w V → Calls Tryz.prog 130 #[.slice (some ⟨b, off + 5, none⟩) (n - 5) (c - 5)] V fun r w' => r = .returned (.tuple #[.int .u64 u, .int .i64 k, .int .i64 0]) ∧ w' = V)
  (H3 : ∀ V, aB [] w V → Calls Tryz.prog 153 #[.slice (some ⟨b, off, none⟩) n c] V fun r w' => r = .returned (.tuple #[.int .u32 s1, .int .i64 0]) ∧ aB [] V w')
  (HS : ∀ V, aB [] w V → Calls Tryz.prog 120 #[.slice (some ⟨b, off + 4, none⟩) (5 + k + u - 4) (c - 4)] V fun r w' => r = .returned (.int .u32 s2) ∧ aB [] V w') :
  Calls Tryz.prog 115 #[.slice (some ⟨b, off, none⟩) n c] w fun r w' => nZ w.heap.size w' r (0, [], 0, 11) ∧ aB [] w w' := by
 have HU := aA HU
 have H3 := aA H3
 have HS := aA HS
 have hlt : ¬ (n : Int) < 5 := by omega
 have hne5 : ¬ c = 5 := by omega
 have hne4 : ¬ c = 4 := by omega
 have h1' : ¬ (2000 : Int) < (u : Int) := by omega
 have h2' : ¬ (n : Int) - 5 - (k : Int) < (u : Int) := by omega
 have h3' : ¬ (s1 : Int) = (s2 : Int) := by omega
 go_in
 go_wp2_with fail
 refine (HU.out _ ((aB.refl [] w).alloc _)).mono ?_
 rintro r w1 ⟨rfl, rfl⟩
 go_wp2_with fail
 refine (H3.out _ ((aB.refl [] w).alloc _)).mono ?_
 rintro r w1 ⟨rfl, hU1⟩
 have HU1 : Hid (aB [] w w1) := aA (((aB.refl [] w).alloc _).trans hU1)
 have HB1 := aA ((hU1.block w.heap.size (by simp) (by simp)).trans (aX _ _))
 clear hU1
 go_wp2_with fail
 refine (HS.out _ HU1.out).mono ?_
 rintro r w2 ⟨rfl, hU2⟩
 have hB2 := (hU2.block w.heap.size (aH HB1.out) (by simp)).trans HB1.out
 have z0 := aD hB2 0
 have z1 := aD hB2 1
 have f0 := aZ hB2 0
 have f1 := aZ hB2 1
 have HU2 : Hid (aB [] w w2) := aA (HU1.out.trans hU2)
 have HB2 := aA hB2
 clear hU2 hB2
 go_wp2_with fail
 have hb3 := pV HB2.out (.int .u8 0) (.slice none 0 0)
 exact lR Tryz.results115 rfl (aD hb3 0) (aD hb3 1) rfl ⟨⟨_, rfl, Rd.nil _, mZ _⟩, (HU2.out.setCellNew (aQ _) _ _).setCellNew (aQ _) _ _⟩
theorem Ff (w : World) {b off n c u k s1 : Nat} {x : UInt8} {d : Bs} (hc : n ≤ c) (hc2 : c ≤ 9223372036854775807) (hu : u ≤ 2000) (hk : k ≤ 10) (hk0 : 1 ≤ k) (hf : 5 + k + u ≤ n) (_hs1 : s1 < 4294967296)
  (hx : w.cell? ⟨b, off + 4, none⟩ = some (.int .u8 x.toNat))
  (HU : ∀ V, aB [] w V → Calls Tryz.prog 130 #[.slice (some ⟨b, off + 5, none⟩) (n - 5) (c - 5)] V fun r w' => r = .returned (.tuple #[.int .u64 u, .int .i64 k, .int .i64 0]) ∧ w' = V)
  (H3 : ∀ V, aB [] w V → Calls Tryz.prog 153 #[.slice (some ⟨b, off, none⟩) n c] V fun r w' => r = .returned (.tuple #[.int .u32 s1, .int .i64 0]) ∧ aB [] V w')
  (HS : ∀ V, aB [] w V → Calls Tryz.prog 120 #[.slice (some ⟨b, off + 4, none⟩) (5 + k + u - 4) (c - 4)] V fun r w' => r = .returned (.int .u32 s1) ∧ aB [] V w')
  (A : Addr) (hsl : ∀ W, (Instr.slice 23 (.slice (some ⟨b, off, none⟩) n c) (some (.int .i64 (5 + (k : Int)))) (some (.int .i64 (5 + (k : Int) + (u : Int)))) none).run Tryz.prog W = .ok (.slice (some A) u (c - (5 + k))) W)
  (HD : ∀ V, aB [] w V → Calls Tryz.prog 92 #[.slice (some A) u u] V fun e w' => ∃ v', e = .returned v' ∧ Ow w' V.heap.size v' d ∧ aB [] V w') :
  Calls Tryz.prog 115 #[.slice (some ⟨b, off, none⟩) n c] w fun r w' => nZ w.heap.size w' r (x, d, 5 + k + u, 0) ∧ aB [] w w' := by
 have HU := aA HU
 have H3 := aA H3
 have HS := aA HS
 have hlt : ¬ (n : Int) < 5 := by omega
 have hne5 : ¬ c = 5 := by omega
 have hne4 : ¬ c = 4 := by omega
 have h1' : ¬ (2000 : Int) < (u : Int) := by omega
 have h2' : ¬ (n : Int) - 5 - (k : Int) < (u : Int) := by omega
 have hn4 : (4 : Int) < (n : Int) := by omega
 have HD := aA HD
 have hwr : IntKind.i64.wrap (5 + (k : Int)) = 5 + (k : Int) := fF _ (by omega)
 go_in
 go_wp2_with fail
 refine (HU.out _ ((aB.refl [] w).alloc _)).mono ?_
 rintro r w1 ⟨rfl, rfl⟩
 go_wp2_with fail
 refine (H3.out _ ((aB.refl [] w).alloc _)).mono ?_
 rintro r w1 ⟨rfl, hU1⟩
 have HU1 : Hid (aB [] w w1) := aA (((aB.refl [] w).alloc _).trans hU1)
 have HB1 := aA ((hU1.block w.heap.size (by simp) (by simp)).trans (aX _ _))
 clear hU1
 go_wp2_with fail
 refine (HS.out _ HU1.out).mono ?_
 rintro r w2 ⟨rfl, hU2⟩
 have hB2 := (hU2.block w.heap.size (aH HB1.out) (by simp)).trans HB1.out
 have HU2 : Hid (aB [] w w2) := aA (HU1.out.trans hU2)
 have HB2 := aA hB2
 have p0 := eQ HU2.out hx
 clear hU2 hB2
 go_wp2_with fail
 go_region_held3 (fun w' => w'.cell? ⟨b, off + 4, none⟩ = some (.int .u8 x.toNat))
  (first
   | (with_reducible exact cN HU2.out.drew hx)
   | (with_reducible exact cN hv6 hx)
   | (with_reducible exact cN ((hv6.setCellNew (aQ _) _ _).setCellNew (aQ _) _ _) hx))
  (first
   | (go_at_call 143; refine (BK _ (some A) u (c - (5 + k)) (by omega) (by omega) (fun q => by cases q)).mono ?_; rintro e w5 ⟨rfl, rfl⟩)
   | (go_at_call 92; (with_reducible refine (HD.out _ ?_).mono ?_); (exact HU2.out.drew); rintro e w6 ⟨v6, rfl, ho6, hu6⟩; obtain ⟨a6, c6, rfl⟩ := ho6.slice; have hv6 : aB [] w w6 := HU2.out.drew.trans hu6; have hB6 := (hu6.block w.heap.size (by exact aH HB2.out) (by simp)).trans HB2.out; have z0 := aD hB6 0; have z1 := aD hB6 1; have f0 := aZ hB6 0; have f1 := aZ hB6 1))
 go_wp2_with fail
 have hb3 := pV hB6 (.int .u8 x.toNat) (.slice a6 d.length c6)
 refine lR (v := .slice a6 d.length c6) Tryz.results115 rfl (aD hb3 0) (aD hb3 1) rfl ⟨⟨_, rfl, ?_, fun g hg => bG HU2.out.size (by have := (ho6.block g hg).1; exact this)⟩, (hv6.setCellNew (aQ _) _ _).setCellNew (aQ _) _ _⟩
 have hle : w.heap.size < w2.heap.size := aH HB2.out
 refine Ow.rd (base := w2.heap.size) (ho6.upd (((aB.refl [w.heap.size] w6).setCell (by simp) _ _).setCell (by simp) _ _) fun j hj q => ?_)
 have := (ho6.block j q).1
 simp at hj this
 omega
theorem Fg : ∀ (k i acc : Nat) (b : Bs), (dA k i acc b).2.1 ≤ i + k := by
 intro k
 induction k with
 | zero => intro i acc b; simp [dA]
 | succ k ih =>
  intro i acc b
  cases b with
  | nil => simp [dA]
  | cons c r =>
   simp only [dA]
   split
   ·have := ih (i + 1) ((acc ||| (c.toNat % 128) <<< (7 * i)) % 2 ^ 64) r; omega
   split
   ·simp
   simp
theorem rY : Tryz.prog.underlying 23 = some (.slice (Tryz.prog.elem 23)) := by kernel_rfl
theorem uH (w : World) : (sizeOf (Tryz.prog.elem 23)).run Tryz.prog w = .ok 1 w := by kernel_rfl
theorem zN (w : World) {v : Value} {l : Bs} (h : Rd w v l) (h5 : l.length ≠ 5) : Calls Tryz.prog 115 #[v] w fun e w' => nZ w.heap.size w' e (bU l) ∧ aB [] w w' := by
 by_cases hl : l.length < 5
 ·have hR : bU l = (0, [], 0, 10) := by unfold bU; rw [aF hl]
  rw [hR]
  exact LH w h hl
 obtain ⟨a, c, rfl, h1, h2, h3⟩ := h.slice
 obtain ⟨-, -, -, hcell⟩ := h.cell
 obtain ⟨b, off, rfl, hc⟩ := hcell (by omega)
 have hb := sR 10 0 0 (l.drop 5) (by decide)
 have hle := Fg 10 0 0 (l.drop 5)
 have hU := fun V (u : aB [] w V) => LI w h (by omega) V u
 unfold bU
 rw [aE hl]
 have hlen : (l.drop 5).length = l.length - 5 := eD
 unfold cX at hU ⊢
 generalize dA 10 0 0 (l.drop 5) = g at *
 obtain ⟨u, k, e⟩ := g
 dsimp only at hb hle hU ⊢
 obtain ⟨hb1, hb2, hb3, hb4⟩ := hb
 by_cases he : e = 0
 ·subst he
  obtain ⟨hk0, hk1⟩ := hb2 rfl
  rw [aE (by simp)]
  by_cases hu : 2000 < u
  ·rw [aF hu]
   exact BQ w (by omega) h1 h2 hb1 (by omega) (by omega) hU 12 (.inr (.inl ⟨rfl, hu, rfl⟩))
  rw [aE hu]
  by_cases hs : l.length - 5 - k < u
  ·rw [aF hs]
   exact BQ w (by omega) h1 h2 hb1 (by omega) (by omega) hU 10 (.inr (.inr ⟨rfl, by omega, by omega, rfl⟩))
  rw [aE hs]
  have hpart : ∀ V, aB [] w V → Rd V (.slice (some ⟨b, off + 4, none⟩) (5 + k + u - 4) (c - 4)) ((l.take (5 + k + u)).drop 4) := fun V hV => by
   have := (h.part 4 (5 + k + u - 4) (by omega) (c - 4) (by omega) (by omega)).keep hV
   rwa [yQ]
  have h3' : ∀ V, aB [] w V → Calls Tryz.prog 153 #[.slice (some ⟨b, off, none⟩) l.length c] V fun r w' => r = .returned (.tuple #[.int .u32 (lM l), .int .i64 0]) ∧ aB [] V w' := fun V hV => by
   have := Lu V (h.keep hV)
   rwa [aE (by omega), aE (by omega)] at this
  have hS : ∀ V, aB [] w V → Calls Tryz.prog 120 #[.slice (some ⟨b, off + 4, none⟩) (5 + k + u - 4) (c - 4)] V fun r w' => r = .returned (.int .u32 (jU ((l.take (5 + k + u)).drop 4))) ∧ aB [] V w' := fun V hV => BN V (hpart V hV)
  have hg32 : lM l < 4294967296 := by
   obtain ⟨y0, y1, y2, y3, g0, g1, g2, g3, -, -, -, -, hg⟩ := Fa l (by omega)
   rw [hg]
   have b1 : y1 <<< 8 < 2 ^ 32 := by rw [mO]; omega
   have b2 : y2 <<< 16 < 2 ^ 32 := by rw [mO]; omega
   have b3 : y3 <<< 24 < 2 ^ 32 := by rw [mO]; omega
   exact yO (n := 32) (yO (yO (by omega) b1) b2) b3
  by_cases hq : lM l = jU ((l.take (5 + k + u)).drop 4)
  ·rw [aE (by simpa using hq)]
   have h4 := hc 4 (by omega)
   have e4 : l.getD 4 0 = l[4] := by rw [dI, bL (by omega)]; rfl
   rw [e4]
   rw [← hq] at hS
   have hd : (l.take (5 + k + u)).drop (5 + k) = (l.drop (5 + k)).take u := by rw [yQ]; congr 1; omega
   rw [hd]
   by_cases hce : c = 5 + k
   ·refine Ff w h1 h2 (by omega) (by omega) (by omega) (by omega) hg32 h4 hU h3' hS ⟨b, off, none⟩ (fun W => ?_) (fun V hV => ?_)
    ·rw [Bi (w := W) 23 (some ⟨b, off, none⟩) l.length c rY .i64 .i64 _ _ (by omega) (by omega) (by omega), uH]
     simp only [Result.andThen, sliced]
     have e1 : (5 + (k : Int)).toNat = 5 + k := by omega
     have e2 : (5 + (k : Int) + (u : Int)).toNat = 5 + k + u := by omega
     rw [e1, e2, aF (by omega), show 5 + k + u - (5 + k) = u by omega]
    have hu0 : u = 0 := by omega
    subst hu0
    have hz : (l.drop (5 + k)).take 0 = [] := rfl
    rw [hz]
    have hr : eA c8 1 V (.slice (some ⟨b, off, none⟩) 0 0) [] := ⟨⟨some ⟨b, off, none⟩, 0, rfl, aQ _, by unfold maxLen; omega, fun i hi => absurd hi (by simp)⟩, fun n c e => by cases e⟩
    exact uG V hr (by simp)
   refine Ff w h1 h2 (by omega) (by omega) (by omega) (by omega) hg32 h4 hU h3' hS ⟨b, off + (5 + k), none⟩ (fun W => ?_) (fun V hV => ?_)
   ·rw [Bi (w := W) 23 (some ⟨b, off, none⟩) l.length c rY .i64 .i64 _ _ (by omega) (by omega) (by omega), uH]
    simp only [Result.andThen, sliced]
    have e1 : (5 + (k : Int)).toNat = 5 + k := by omega
    have e2 : (5 + (k : Int) + (u : Int)).toNat = 5 + k + u := by omega
    rw [e1, e2, aE (by omega), show 5 + k + u - (5 + k) = u by omega]
    simp only [Option.map, qN, jI]
   have hr := ((h.part (5 + k) u (by omega) u (aQ _) (by omega)).keep hV).g
   have hlu : ((l.drop (5 + k)).take u).length = u := by rw [bX, eD]; omega
   exact uG V hr (by omega)
  rw [aF (by simpa using hq)]
  exact LJ w h1 h2 (by omega) (by omega) (by omega) (by omega) hg32 (yZ _) hq hU h3' hS
 rw [aF he]
 exact BQ w (by omega) h1 h2 hb1 (by omega) (by omega) hU e (.inl ⟨he, rfl⟩)
open Go.Maps
def xD (b : Bs) : Bs := (b ++ List.replicate 512 0).take 512
theorem LK (b : Bs) : (xD b).length = 512 := by rw [xD, bX, bD, pN]; omega
theorem LM {b : Bs} (h : b.length = 512) : xD b = b := by unfold xD; rw [← h, List.take_left']; rfl
def cK (b : Bs) : List Value := (xD b).map fun x => .int .u8 x.toNat
theorem iU (b : Bs) : (cK b).length = 512 := by rw [cK, dF, LK]
theorem zO {b : Bs} (h : b.length = 512) : cK b = b.map fun x => .int .u8 x.toNat := by rw [cK, LM h]
theorem zP (l : List Bs) : ∀ x ∈ l, ∀ u ∈ cK x, u.oneCell' = true := by
 intro x _ u hu
 obtain ⟨y, -, rfl⟩ := cV.1 hu
 rfl
theorem zQ : (Tryz.prog.info? 121).map (fun i => (i.zero, i.size, i.bytes)) = some (some (.agg (Array.replicate 512 (.int .u8 0))), 512, 512) := by kernel_rfl
theorem LN : cK cH = List.replicate 512 (.int .u8 0) := by
 rw [zO rR, cH, List.map_replicate]; rfl
theorem TK : fA cK 512 512 116 121 where
 len := iU
 pos := by omega
 und := Tryz.underlying116
 info := by
  obtain ⟨i, h, h1, h2, h3⟩ := kD zQ
  exact ⟨i, _, h, h1, h2, h3, by show (Array.replicate 512 _).size = 512; rw [Array.size_replicate]⟩
def iN (v : Value) : Option (DataW Value × List MemPlace) := some (.held v, [])
def nA (L : List (Nat × Value)) : DataW Value := .map (L.map fun p => (.int .i64 p.1, .held p.2))
def kE (a b : Nat) : Bool := decide (a < b)
theorem sX : kY kE := ⟨fun a => by simp [kE], fun a b c h g => by simp [kE] at *; omega, fun a b => by simp only [kE, decide_eq_true_eq]; omega⟩
theorem zR : Keyed Tryz.prog 3 := int_keyed Tryz.underlying3
abbrev qP (sb n mb : Nat) (fuse : Int) (down : Bool) (ops : Int) : Obj := .cells #[.slice (some ⟨sb, 0, none⟩) n n, .map (some mb), .int .i64 fuse, .bool down, .int .i64 ops] 119 (0, 0)
def mI (D : aI) : List Bs := (List.range D.n).map fun i => (D.blk i).safe
abbrev gE (v : Value) : Nat := v.ownBlock.getD 0
abbrev dO (p sb mb : Nat) (L : List (Nat × Value)) : List Nat := p :: sb :: mb :: L.map fun x => gE x.2
structure gK (w : World) (p : Nat) (D : aI) (sb mb : Nat) (L : List (Nat × Value)) (ops : Int) : Prop where
 box : w.heap[p]? = some (qP sb D.n mb D.fuse D.down ops)
 safe : w.heap[sb]? = some (.cells (aP cK (mI D)).toArray 121 (0, 0))
 map : w.ownsMap (H := Value) Tryz.prog 3 iN mb L.length (nA L)
 srt : cP kE L
 row : ∀ x ∈ L, aK cK 121 512 w 0 x.2 (D.blk x.1).pend ∧ (D.blk x.1).pend ≠ [] ∧ x.1 < D.n
 rest : ∀ i, bF L i = none → (D.blk i).pend = []
 nodup : (dO p sb mb L).Nodup
 n1 : 64 ≤ D.n
 n2 : D.n ≤ 512
 f1 : -1 ≤ D.fuse
 f2 : D.fuse ≤ 9223372036854775807
 sized : iE D.blk
 cnt : ∀ i, (D.blk i).pend.length ≤ D.wr
def bN (w : World) (p : Nat) (D : aI) (F : List Nat) : Prop := ∃ sb mb L ops, gK w p D sb mb L ops ∧ F = dO p sb mb L
structure zS (w w' : World) (p sb n mb : Nat) (D : aI) (e : Nat) (fuse : Int) (down : Bool) (ops : Int) : Prop where
 box : w'.heap[p]? = some (qP sb n mb fuse down ops)
 upd : aB [p] w w'
 f1 : -1 ≤ fuse
 f2 : fuse ≤ 9223372036854775807
 out : (e = 0 ∧ D.down = false ∧ down = false ∧ (D.fuse < 0 → fuse < 0)) ∨ (e = 2 ∧ (D.down = false → 0 ≤ D.fuse) ∧ down = true)
theorem sY {W : World} {p sb n mb : Nat} {fuse ops : Int} {down : Bool} (h : W.heap[p]? = some (qP sb n mb fuse down ops)) :
  (∀ b, (W.setCell ⟨p, 3, none⟩ (.bool b)).heap[p]? = some (qP sb n mb fuse b ops)) ∧ (∀ f, (W.setCell ⟨p, 2, none⟩ (.int .i64 f)).heap[p]? = some (qP sb n mb f down ops)) ∧ (∀ o, (W.setCell ⟨p, 4, none⟩ (.int .i64 o)).heap[p]? = some (qP sb n mb fuse down o)) := by
 refine ⟨fun b => ?_, fun f => ?_, fun o => ?_⟩ <;> (rw [bJ, aF rfl, h]; rfl)
def LO (w : World) (p sb mb : Nat) (D : aI) (r : Ending) (w' : World) : Prop := ∃ (e : Nat) (fuse : Int) (down : Bool) (ops' : Int), r = .returned (.int .i64 e) ∧ zS w w' p sb D.n mb D e fuse down ops'
theorem BR (w : World) {p : Nat} {D : aI} {sb mb : Nat} {L : List (Nat × Value)} {ops : Int} (h : gK w p D sb mb L ops) (n : Nat) (hn : n < D.n) :
  Calls Tryz.prog 149 #[.pointer (some ⟨p, 0, none⟩), .int .i64 n, .int .i64 0] w (LO w p sb mb D) := by
 have c0 := aD h.box 0
 have c2 := aD h.box 2
 have c3 := aD h.box 3
 have c4 := aD h.box 4
 have fz2 := aZ h.box 2
 have fz3 := aZ h.box 3
 have fz4 := aZ h.box 4
 simp only [bA, bS, bB] at c0 c2 c3 c4
 have HB := aA h.box
 have hf1 := h.f1
 have hf2 := h.f2
 have hn2 := h.n2
 obtain ⟨N, blk, F, dn, wr⟩ := D
 dsimp only at *
 have l1 : ¬ (n : Int) < 0 := by omega
 have l2 : ¬ (N : Int) ≤ (n : Int) := by omega
 clear h
 cases dn with
 | true =>
  go_in
  go_wp2_with fail
  go_ret
  exact ⟨2, F, true, ops, rfl, HB.out, aB.refl _ _, hf1, hf2, .inr ⟨rfl, by simp, rfl⟩⟩
 | false =>
  by_cases h0 : F = 0
  ·subst h0
   go_in
   go_wp2_with fail
   go_ret
   exact ⟨2, 0, true, ops, rfl, (sY HB.out).1 _, (aB.refl _ _).setCell (by simp) _ _, hf1, hf2, .inr ⟨rfl, by simp, rfl⟩⟩
  by_cases h1 : 0 < F
  ·go_in
   go_wp2_with fail
   go_ret
   exact ⟨0, F - 1, false, _, rfl, (sY ((sY HB.out).2.1 (F - 1))).2.2 _, ((aB.refl _ _).setCell (by simp) _ _).setCell (by simp) _ _, by omega, by omega, .inl ⟨rfl, rfl, rfl, fun q => by dsimp only at q; omega⟩⟩
  go_in
  go_wp2_with fail
  go_ret
  exact ⟨0, F, false, _, rfl, (sY HB.out).2.2 _, (aB.refl _ _).setCell (by simp) _ _, hf1, hf2, .inl ⟨rfl, rfl, rfl, id⟩⟩
theorem BS (w : World) {p : Nat} {D : aI} {F : List Nat} (h : bN w p D F) : Calls Tryz.prog 125 #[.pointer (some ⟨p, 0, none⟩)] w fun r w' => r = .returned (.int .i64 D.n) ∧ w' = w := by
 obtain ⟨sb, mb, L, ops, h, -⟩ := h
 have c0 := aD h.box 0
 simp only [bA, bB] at c0
 have hn2 := h.n2
 generalize D.n = N at *
 clear h
 go_in
 go_wp2_with fail
 go_ret
 exact ⟨rfl, rfl⟩
theorem LP (w : World) {p : Nat} {D : aI} {F : List Nat} (h : bN w p D F) : Calls Tryz.prog 147 #[.pointer (some ⟨p, 0, none⟩)] w fun r w' => r = .returned (.bool D.down) ∧ w' = w := by
 obtain ⟨sb, mb, L, ops, h, -⟩ := h
 have c3 := aD h.box 3
 simp only [bA, bB, bS] at c3
 generalize D.down = b at *
 clear h
 go_in
 go_wp2_with fail
 go_ret
 exact ⟨rfl, rfl⟩
theorem gK.boxed {w w' : World} {p : Nat} {D : aI} {sb mb : Nat} {L : List (Nat × Value)} {ops : Int} (h : gK w p D sb mb L ops) {fuse : Int} {down : Bool} {ops' : Int}
  (hb : w'.heap[p]? = some (qP sb D.n mb fuse down ops')) (hu : aB [p] w w') (f1 : -1 ≤ fuse) (f2 : fuse ≤ 9223372036854775807) : gK w' p { D with fuse := fuse, down := down } sb mb L ops' := by
 have hnd := h.nodup
 simp only [dO, kC, aJ, not_or] at hnd
 refine ⟨hb, ?_, ?_, h.srt, fun x hx => ?_, h.rest, h.nodup, h.n1, h.n2, f1, f2, h.sized, h.cnt⟩
 ·exact (hu.block sb (aH h.safe) (by simp; exact fun q => hnd.1.1 q.symm)).trans h.safe
 ·obtain ⟨es, ck, hbm, r⟩ := h.map
  exact ⟨es, ck, (hu.block mb (aH hbm) (by simp; exact fun q => hnd.1.2.1 q.symm)).trans hbm, r⟩
 obtain ⟨h1, h2, h3⟩ := h.row x hx
 refine ⟨h1.upd hu fun j hj q => ?_, h2, h3⟩
 obtain rfl := aM.1 hj
 exact hnd.1.2.2 (cV.2 ⟨x, hx, by simp [gE, q]⟩)
theorem gK.ticked {w w' : World} {p : Nat} {D : aI} {sb mb : Nat} {L : List (Nat × Value)} {ops : Int} (h : gK w p D sb mb L ops) {e : Nat} {fuse : Int} {down : Bool} {ops' : Int} (t : zS w w' p sb D.n mb D e fuse down ops') :
  gK w' p { D with fuse := fuse, down := down } sb mb L ops' := h.boxed t.box t.upd t.f1 t.f2
theorem Fh (w : World) {p : Nat} {D : aI} {F : List Nat} (h : bN w p D F) (hd : D.down = false) (k : Int) (hk : -9223372036854775808 ≤ k) (hk2 : k ≤ 9223372036854775807) :
  Calls Tryz.prog 123 #[.pointer (some ⟨p, 0, none⟩), .int .i64 k] w fun r w' => r = .returned (.int .i64 0) ∧ bN w' p { D with fuse := max k (-1) } F ∧ aB [p] w w' := by
 obtain ⟨sb, mb, L, ops, h, rfl⟩ := h
 have c2 := aD h.box 2
 have c3 := aD h.box 3
 have fz2 := aZ h.box 2
 simp only [bA, bB, bS] at c2 c3
 rw [hd] at c3
 have HB := aA h.box
 have HD := aA (fun (w' : World) (h1 : w'.heap[p]? = some (qP sb D.n mb (max k (-1)) D.down ops)) (h2 : aB [p] w w') => h.boxed (fuse := max k (-1)) (down := D.down) (ops' := ops) h1 h2 (by omega) (by omega))
 rw [hd] at HB
 generalize hE : D.fuse = E at *
 generalize hN : D.n = N at *
 clear h hE
 go_in
 go_wp2_with fail
 ·go_ret
  have e : max k (-1) = -1 := by omega
  have hU : aB [p] w (w.setCell ⟨p, 2, none⟩ (.int .i64 (-1))) := (aB.refl _ _).setCell (by simp) _ _
  have := HD.out _ (by rw [e, hd]; exact (sY HB.out).2.1 _) hU
  rw [hd] at this
  exact ⟨rfl, ⟨sb, mb, L, ops, this, rfl⟩, hU⟩
 go_ret
 have e : max k (-1) = k := by omega
 have hU : aB [p] w (w.setCell ⟨p, 2, none⟩ (.int .i64 k)) := (aB.refl _ _).setCell (by simp) _ _
 have := HD.out _ (by rw [e, hd]; exact (sY HB.out).2.1 _) hU
 rw [hd] at this
 exact ⟨rfl, ⟨sb, mb, L, ops, this, rfl⟩, hU⟩
structure zT {κ : Type} [DecidableEq κ] (lt : κ → κ → Bool) (kl : κ → Lit) : Prop where
 ord : kY lt
 same : ∀ a b, (kl a).sameKey (kl b) = decide (a = b)
 before : ∀ a b, (kl a).before (kl b) = lt a b
section
variable {κ : Type} [DecidableEq κ] {lt : κ → κ → Bool} {kl : κ → Lit} (K : zT lt kl)
def gL (kl : κ → Lit) (L : List (κ × Value)) : DataW Value := .map (L.map fun p => (kl p.1, .held p.2))
include K
theorem Fj (L : List (κ × Value)) (k : κ) : Maps.has (gL kl L) (kl k) = (bF L k).isSome := by
 unfold gL
 rw [Maps.has_eq, List.any_map]
 induction L with
 | nil => rfl
 | cons x L ih =>
  rw [List.any_cons, ih, gD]
  show ((kl x.1).sameKey (kl k) || _) = _
  rw [K.same]
  by_cases h : x.1 = k <;> simp [h]
end
section
variable {κ : Type} {lt : κ → κ → Bool} {kl : κ → Lit}
theorem vN (L : List (κ × Value)) : Maps.size (gL kl L) = L.length := by
 unfold gL
 rw [Maps.size_eq, dF]
end
section
variable {κ : Type} [DecidableEq κ] {lt : κ → κ → Bool} {kl : κ → Lit}
variable (K : zT lt kl)
include K
theorem BT (L : List (κ × Value)) (k : κ) (z : DataW Value) : (gL kl L).atKey (kl k) z = match bF L k with | some v => .held v | none => z := by
 unfold gL DataW.atKey bF
 dsimp only
 rw [List.find?_map]
 have : ((fun p : Lit × DataW Value => p.1.sameKey (kl k)) ∘ fun p : κ × Value => (kl p.1, DataW.held p.2)) = fun p : κ × Value => decide (p.1 = k) := by
  funext x
  exact K.same _ _
 rw [this]
 cases L.find? (fun p => decide (p.1 = k)) <;> rfl
theorem Fk (L : List (κ × Value)) (k : κ) : (gL kl L).del (kl k) = gL kl (dJ L k) := by
 unfold gL DataW.del dJ
 dsimp only
 congr 1
 rw [List.filter_map]
 congr 1
 apply List.filter_congr
 intro x _
 show (!(kl x.1).sameKey (kl k)) = _
 rw [K.same]
theorem Fl {L : List (κ × Value)} (hs : cP lt L) (k : κ) (v : Value) : (gL kl L).put (kl k) (.held v) = gL kl (cQ lt L k v) := by
 have hd := Fk K L k
 unfold gL DataW.del at hd
 unfold gL DataW.put
 dsimp only at hd ⊢
 simp only [DataW.map.injEq] at hd
 rw [hd]
 clear hd
 congr 1
 induction L with
 | nil => rfl
 | cons x L ih =>
  have hdel : dJ (x :: L) k = if x.1 = k then dJ L k else x :: dJ L k := by
   unfold dJ
   rw [AV]
   by_cases h : x.1 = k <;> simp [h]
  have hall : (∀ p ∈ L, p.1 ≠ k) → dJ L k = L := fun hm => wN.2 fun p hp => by simp [hm p hp]
  rw [hdel]
  simp only [cQ]
  by_cases hx : lt x.1 k = true
  ·have hne := K.ord.ne hx
   rw [aF hx, aE hne, dR, dR, DataW.insert]
   show (if (kl k).before (kl x.1) = true then _ else _) = _
   rw [K.before, K.ord.asymm hx, aE (by simp), ih hs.tail]
  rw [aE hx]
  by_cases hk : x.1 = k
  ·rw [aF hk, aF hk, hall fun p hp => by have := K.ord.ne (hs.head p hp); rw [hk] at this; exact Ne.symm this]
   cases L with
   | nil => rfl
   | cons y L =>
    have h1 := hs.head y (by simp)
    rw [dR, DataW.insert]
    show (if (kl k).before (kl y.1) = true then _ else _) = _
    rw [K.before, ← hk, h1]
    simp
  have hkx : lt k x.1 = true := by
   rcases K.ord.total k x.1 with e | e | e
   ·exact absurd e.symm hk
   ·exact e
   exact absurd e hx
  rw [aE hk, aE hk, hall fun p hp => Ne.symm (K.ord.ne (K.ord.trans _ _ _ hkx (hs.head p hp))), dR, DataW.insert]
  show (if (kl k).before (kl x.1) = true then _ else _) = _
  rw [K.before, hkx]
  simp
end
theorem zU : zT kE fun n : Nat => Lit.int .i64 n where
 ord := sX
 same := fun a b => by
  show decide (_ ∧ _) = _
  simp only [true_and]
  exact decide_eq_decide.2 ⟨fun h => by omega, fun h => by rw [h]⟩
 before := fun a b => by
  show decide _ = decide _
  exact decide_eq_decide.2 ⟨fun h => by omega, fun h => by omega⟩
theorem xE : zT bQ Lit.string where
 ord := dD
 same := fun a b => by
  show (a == b) = _
  by_cases h : a = b
  ·subst h; simp
  simp [h]
 before := fun a b => by
  show bytesBefore _ _ = Op.bytesLess _ _
  induction a generalizing b with
  | nil => cases b <;> rfl
  | cons a x ih => cases b with
   | nil => rfl
   | cons b y => simp only [bytesBefore, Op.bytesLess, ih]
theorem xF (L : List (Nat × Value)) : nA L = gL (fun n : Nat => Lit.int .i64 n) L := rfl
theorem xG : Keyed Tryz.prog 9 := string_keyed Tryz.underlying9
abbrev lS (w : World) (mb : Nat) (L : List (Nat × Value)) : Prop := w.ownsMap (H := Value) Tryz.prog 3 iN mb L.length (nA L)
abbrev fO (w : World) (mb : Nat) (L : List (Bs × Value)) : Prop := w.ownsMap (H := Value) Tryz.prog 9 iN mb L.length (gL Lit.string L)
theorem Fm {H : Type} {P : Program} {k : TypeId} {R : Value → Option (DataW H × List MemPlace)} {w : World} {b n : Nat} {D : DataW H} (h : w.ownsMap P k R b n D) : w.ownsMap P k R b (Maps.size D) D := by
 obtain ⟨es, clock, hb, F, hs, rfl⟩ := h
 exact ⟨es, clock, hb, F, by rw [Maps.size_eq, length_sorted]; simp, rfl⟩
theorem lS.of {w : World} {mb n : Nat} {L : List (Nat × Value)} (h : w.ownsMap (H := Value) Tryz.prog 3 iN mb n (nA L)) : lS w mb L := by
 have := Fm h
 rwa [xF, vN] at this
theorem fO.of {w : World} {mb n : Nat} {L : List (Bs × Value)} (h : w.ownsMap (H := Value) Tryz.prog 9 iN mb n (gL Lit.string L)) : fO w mb L := by
 have := Fm h
 rwa [vN] at this
theorem mJ {H : Type} {P : Program} {k : TypeId} {R : Value → Option (DataW H × List MemPlace)} {w w' : World} {b n : Nat} {D : DataW H} (h : w.ownsMap P k R b n D) {F : List Nat} (u : aB F w w') (hF : b ∉ F) : w'.ownsMap P k R b n D := by
 have hlt := World.ownsMap.lt h
 obtain ⟨es, clock, hb, F', hs, hD⟩ := h
 exact ⟨es, clock, (u.block b hlt hF).trans hb, F', hs, hD⟩
theorem Fn {n : Nat} (h : n < 9223372036854775807) : (Lit.int .i64 (n : Int)).wf = true := by
 have e0 : IntKind.i64.min = -9223372036854775808 := rfl
 have e1 : IntKind.i64.max = 9223372036854775807 := rfl
 simp only [Lit.wf, Bool.and_eq_true, decide_eq_true_eq, e0, e1]
 omega
theorem lS.look {w : World} {mb : Nat} {L : List (Nat × Value)} (h : lS w mb L) {t e : TypeId} (ht : Tryz.prog.underlying t = some (.map 3 e)) {z : Value} (hz : (zeroValue e).run Tryz.prog w = .ok z w) (n : Nat) (hn : n < 9223372036854775807) :
  (Instr.lookup t (.map (some mb)) (.int .i64 n) false).run Tryz.prog w = .ok ((bF L n).getD z) w := by
 obtain ⟨v, ps, hrun, hv⟩ := World.ownsMap.lookup h zR ht hz (zd := .held z) (zp := []) rfl (keyOf_int_mk Tryz.underlying3 (a := (n : Int)) (Fn hn))
 rw [hrun]
 simp only [iN, fY, Prod.mk.injEq] at hv
 rw [xF, BT zU] at hv
 cases hg : bF L n with
 | none => rw [hg] at hv; cases hv.1; rfl
 | some u => rw [hg] at hv; cases hv.1; rfl
end Go.Proofs.YtgpefiacbipfpaaGreatDoor
