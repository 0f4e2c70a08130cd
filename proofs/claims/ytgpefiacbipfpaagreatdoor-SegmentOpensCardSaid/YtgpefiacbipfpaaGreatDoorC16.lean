/- The log's Commit. -/
import Derived.Deep.RegionLaw
import Derived.Deep.DeepCutAuto
import Derived.Test.YtgpefiacbipfpaaGreatDoorC15
set_option maxRecDepth 100000
set_option maxHeartbeats 4000000
namespace Go.Proofs.YtgpefiacbipfpaaGreatDoor
open Go.RowKit Go.Maps
theorem CD (w : World) (b o : Nat) (v : Value) (b' o' : Nat) : (w.setCell ⟨b, o, none⟩ v).cell? ⟨b', o', none⟩ = if b' = b ∧ o' = o then (w.cell? ⟨b', o', none⟩).map (fun _ => v) else w.cell? ⟨b', o', none⟩ := by
 by_cases hb : b' = b
 ·subst hb
  simp only [World.cell?, bJ, if_true]
  cases h : w.heap[b']? with
  | none => simp
  | some x =>
   cases x <;> simp [Obj.put]
   rename_i c e f
   rw [Array.getElem?_setIfInBounds]
   by_cases ho : o' = o
   ·subst ho
    simp
    by_cases hlt : o' < c.size
    ·simp [hlt]
    simp [hlt]
   simp [ho, Ne.symm ho]
 rw [aE (by simp [hb])]
 simp only [World.cell?, bJ, aE hb]
theorem GK {α : Type} {P : Nat → α → Prop} : ∀ (n : Nat), (∀ i, i < n → ∃ x, P i x) → ∃ L : List α, L.length = n ∧ ∀ i x, L[i]? = some x → P i x
 | 0, _ => ⟨[], rfl, by simp⟩
 | n + 1, h => by
  obtain ⟨L, h1, h2⟩ := GK n fun i hi => h i (by omega)
  obtain ⟨x, hx⟩ := h n (by omega)
  refine ⟨L ++ [x], by simp [h1], fun i y hy => ?_⟩
  by_cases hi : i < n
  ·rw [kQ (by omega)] at hy; exact h2 i y hy
  have hl := (eX.1 hy).1
  simp at hl
  obtain rfl : i = n := by omega
  rw [oN (by omega), h1] at hy
  simp at hy
  subst hy; exact hx
structure mN (w : World) (G : List Nat) (g c : Nat) (ws : List Wr) : Prop where
 blk : ∃ cs ty, w.heap[g]? = some (.cells cs ty (0, 0))
 cap : ws.length ≤ c
 max : c ≤ maxLen
 at_ : ∀ (i : Nat) (y : Wr), ws[i]? = some y → ∃ b off c2, w.cell? ⟨g, i * 2, none⟩ = some (.int .i64 y.1) ∧ w.cell? ⟨g, i * 2 + 1, none⟩ = some (.slice (some ⟨b, off, none⟩) 512 c2) ∧ Rd w (.slice (some ⟨b, off, none⟩) 512 c2) y.2 ∧ b ∉ G ∧ b < w.heap.size ∧ b ≠ g
 out : g ∉ G
 len : ∀ x ∈ ws, x.2.length = 512
 few : ws.length ≤ 512
theorem mN.lt {w : World} {G : List Nat} {g c : Nat} {ws : List Wr} (h : mN w G g c ws) : g < w.heap.size := by
 obtain ⟨cs, ty, hb⟩ := h.blk
 exact aH hb
theorem mN.upd {w w' : World} {G G' : List Nat} {g c : Nat} {ws : List Wr} (h : mN w G g c ws) (u : aB G' w w') (hG : ∀ k ∈ G', k ∈ G ∨ w.heap.size ≤ k) : mN w' G g c ws := by
 have hg : g ∉ G' := fun q => by
  rcases hG g q with q | q
  ·exact h.out q
  have := h.lt; omega
 refine ⟨?_, h.cap, h.max, fun i y hy => ?_, h.out, h.len, h.few⟩
 ·obtain ⟨cs, ty, hb⟩ := h.blk
  exact ⟨cs, ty, (u.block g h.lt hg).trans hb⟩
 obtain ⟨b, off, c2, h1, h2, h3, h4, h5, h6⟩ := h.at_ i y hy
 exact ⟨b, off, c2, eH u hg h1, eH u hg h2, h3.upd u (fun k hk q => by cases hk; rcases hG _ q with q | q; exact h4 q; dsimp only at q; omega), h4, dN h5 u.size, h6⟩
theorem mN.frozen {w : World} {G : List Nat} {g c : Nat} {ws : List Wr} (h : mN w G g c ws) (o : Nat) : w.frozen? ⟨g, o, none⟩ = false := by
 obtain ⟨cs, ty, hb⟩ := h.blk
 exact aZ hb o
theorem mN.set {w : World} {G : List Nat} {g c : Nat} {ws : List Wr} (h : mN w G g c ws) {i : Nat} {y : Wr} (hy : ws[i]? = some y) {b off c2 : Nat} (hr : Rd w (.slice (some ⟨b, off, none⟩) 512 c2) y.2) (hb : b ≠ g) (hbG : b ∉ G) (hbl : b < w.heap.size) :
  mN (w.setCell ⟨g, i * 2 + 1, none⟩ (.slice (some ⟨b, off, none⟩) 512 c2)) G g c ws := by
 have hu : aB [g] w (w.setCell ⟨g, i * 2 + 1, none⟩ (.slice (some ⟨b, off, none⟩) 512 c2)) := (aB.refl _ _).setCell (by simp) _ _
 have hs := hu.size
 have rdk : ∀ {b off c2 : Nat} {l : Bs}, b ≠ g → Rd w (.slice (some ⟨b, off, none⟩) 512 c2) l → Rd (w.setCell ⟨g, i * 2 + 1, none⟩ (.slice (some ⟨b, off, none⟩) 512 c2)) (.slice (some ⟨b, off, none⟩) 512 c2) l := fun hne hr => hr.upd ((aB.refl [g] w).setCell (by simp) _ _) (fun k hk q => by cases hk; exact hne (aM.1 q))
 refine ⟨?_, h.cap, h.max, fun i' y' hy' => ?_, h.out, h.len, h.few⟩
 ·obtain ⟨cs, ty, hb⟩ := h.blk
  exact ⟨_, ty, by rw [bJ, aF rfl, hb]; rfl⟩
 obtain ⟨b', off', c', h1, h2, h3, h4, h5, h6⟩ := h.at_ i' y' hy'
 have e1 : (w.setCell ⟨g, i * 2 + 1, none⟩ (.slice (some ⟨b, off, none⟩) 512 c2)).cell? ⟨g, i' * 2, none⟩ = some (.int .i64 y'.1) := by
  rw [CD, aE (by omega)]; exact h1
 by_cases e : i' = i
 ·subst e
  obtain rfl : y' = y := by rw [hy] at hy'; cases hy'; rfl
  refine ⟨b, off, c2, e1, ?_, hr.upd hu (fun k hk q => by cases hk; exact hb (aM.1 q)), hbG, by omega, hb⟩
  rw [CD, aF ⟨rfl, rfl⟩, h2]; rfl
 refine ⟨b', off', c', e1, ?_, h3.upd hu (fun k hk q => by cases hk; exact h6 (aM.1 q)), h4, by omega, h6⟩
 rw [CD, aE (by omega)]; exact h2
theorem mN.wrs {w : World} {G : List Nat} {g c : Nat} {ws : List Wr} (h : mN w G g c ws) : eR w G (.slice (some ⟨g, 0, none⟩) ws.length c) ws := by
 obtain ⟨L, h1, h2⟩ := GK (P := fun i (x : jM) => ∀ y, ws[i]? = some y → lP cW w g (i * 2) x ∧ x.at_ = y.1 ∧ Rd w (.slice x.a x.n x.c) y.2 ∧ ∀ k, (Value.slice x.a x.n x.c).ownBlock = some k → k ∉ G ∧ k < w.heap.size) ws.length (fun i hi => by
  obtain ⟨b, off, c2, q1, q2, q3, q4, q5, q6⟩ := h.at_ i ws[i] (bL hi)
  refine ⟨⟨ws[i].1, some ⟨b, off, none⟩, 512, c2⟩, fun y hy => ?_⟩
  obtain rfl : ws[i] = y := by rw [bL hi] at hy; cases hy; rfl
  refine ⟨fun j u hu => ?_, rfl, q3, fun k hk => by cases hk; exact ⟨q4, q5⟩⟩
  match j, hu with
  | 0, hu => cases hu; exact q1
  | 1, hu => cases hu; exact q2
  | j + 2, hu => simp [cW] at hu)
 refine ⟨⟨L, ⟨⟨some ⟨g, 0, none⟩, c, by rw [h1], by rw [h1]; exact h.cap, h.max, fun i hi => ⟨g, 0, rfl, ?_⟩⟩, fun n c e => by cases e⟩, h1, fun i x y hx hy => (h2 i x hx y hy).2⟩, fun k hk => by cases hk; exact ⟨h.out, h.lt⟩, h.len, h.few⟩
 have hi' : i < ws.length := by omega
 have := (h2 i L[i] (bL hi) ws[i] (bL hi')).1
 rwa [iJ]
theorem eR.cloned {w w' : World} {G : List Nat} {v v' : Value} {ws : List Wr} {base : Nat} (h : eR w G v ws) {L : List jM} (hL : ∀ (i : Nat) (x : jM) (y : Wr), L[i]? = some x → ws[i]? = some y → x.at_ = y.1 ∧ Rd w (.slice x.a x.n x.c) y.2 ∧ ∀ g, (Value.slice x.a x.n x.c).ownBlock = some g → g ∉ G ∧ g < w.heap.size) (hl : L.length = ws.length) (h0 : ws ≠ [])
  (ho : aK cW 168 2 w' base v' L) (hb : w.heap.size ≤ base) (u : aB [] w w') (hG : ∀ k ∈ G, k < w.heap.size) : ∃ g c, v' = .slice (some ⟨g, 0, none⟩) ws.length c ∧ base ≤ g ∧ mN w' G g c ws := by
 have hL0 : L ≠ [] := fun q => h0 (nT (by rw [← hl, q]; rfl))
 have hho := ho
 obtain ⟨_, hx⟩ := ho
 rcases hx with ⟨_, hn⟩ | ⟨g, cap, cur, hv, hg, hh, r1, r2, r3, r4⟩
 ·exact absurd (nT hn) hL0
 have hat := aK.at TW (a := some ⟨g, 0, none⟩) (n := L.length) (c := cap) (hv ▸ hho)
 refine ⟨g, cap, by rw [hv, hl], hg, ⟨_, _, hh⟩, by omega, hat.2.2.1, fun i y hy => ?_, fun q => by have := hG g q; omega, h.len, h.few⟩
 have hi : i < L.length := by rw [hl]; exact (eX.1 hy).1
 obtain ⟨g', hg', -, -, hc⟩ := hat.2.2.2 i hi
 cases hg'
 obtain ⟨q1, q2, q3⟩ := hL i L[i] y (bL hi) hy
 have hy5 := h.len y (fC hy)
 have k0 := hc 0 _ rfl
 have k1 := hc 1 _ rfl
 generalize L[i] = x at *
 obtain ⟨xa, x1, x2, x3⟩ := x
 dsimp only at q1 q2 q3 k0 k1
 subst q1
 obtain ⟨m1, m2, m3, m4⟩ := q2.cell
 have hx2 : x2 = 512 := by omega
 subst hx2
 obtain ⟨b2, off2, rfl, -⟩ := m4 (by omega)
 have hb2 := q3 b2 rfl
 exact ⟨b2, off2, x3, k0, k1, q2.upd u (by simp), hb2.1, dN hb2.2 u.size, by omega⟩
def WS (w : World) (G : List Nat) (a : Option Addr) (c : Nat) (ws : List Wr) : Prop := (ws = [] ∧ eR w G (.slice a ws.length c) ws) ∨ ∃ g, a = some ⟨g, 0, none⟩ ∧ mN w G g c ws
theorem WS.wrs {w : World} {G : List Nat} {a : Option Addr} {c : Nat} {ws : List Wr} (h : WS w G a c ws) : eR w G (.slice a ws.length c) ws := by
 rcases h with h | ⟨g, rfl, h⟩
 ·exact h.2
 exact h.wrs
theorem WS.upd {w w' : World} {G : List Nat} {a : Option Addr} {c : Nat} {ws : List Wr} (h : WS w G a c ws) {G' : List Nat} (u : aB G' w w') (hG : ∀ k ∈ G', k ∈ G ∨ w.heap.size ≤ k) : WS w' G a c ws := by
 rcases h with h | ⟨g, rfl, h⟩
 ·have h2 : eR w G' (.slice a ws.length c) ws := h.2.less hG
  refine .inl ⟨h.1, ⟨?_, fun k hk => ?_, h.2.len, h.2.few⟩⟩
  ·obtain ⟨L, q1, q2, q3⟩ := h.2.ex
   refine ⟨L, q1.upd TW u (fun g hg => (h2.own g hg).1), q2, fun i x y hx hy => ?_⟩
   rw [h.1] at hy; simp at hy
  have := h.2.own k hk; exact ⟨this.1, dN this.2 u.size⟩
 exact .inr ⟨g, rfl, h.upd u hG⟩
theorem eR.clonedS {w w' : World} {G : List Nat} {v v' : Value} {ws : List Wr} {base : Nat} (h : eR w G v ws) {L : List jM} (hL : ∀ (i : Nat) (x : jM) (y : Wr), L[i]? = some x → ws[i]? = some y → x.at_ = y.1 ∧ Rd w (.slice x.a x.n x.c) y.2 ∧ ∀ g, (Value.slice x.a x.n x.c).ownBlock = some g → g ∉ G ∧ g < w.heap.size) (hl : L.length = ws.length)
  (ho : aK cW 168 2 w' base v' L) (hb : w.heap.size ≤ base) (u : aB [] w w') (hG : ∀ k ∈ G, k < w.heap.size) : ∃ a c, v' = .slice a ws.length c ∧ WS w' G a c ws ∧ ∀ g, a = some ⟨g, 0, none⟩ → base ≤ g := by
 by_cases h0 : ws = []
 ·subst h0
  obtain ⟨a, c, hv⟩ := ho.slice
  have hl0 : L.length = 0 := hl
  rw [hl0] at hv
  subst hv
  have hbl : ∀ g, (Value.slice a 0 c).ownBlock = some g → base ≤ g ∧ g < w'.heap.size := fun g hg => ho.block g hg
  refine ⟨a, c, rfl, .inl ⟨rfl, ⟨⟨L, aK.rd TW ho, hl, fun i x y _ hy => by simp at hy⟩, fun g hg => ⟨fun q => ?_, (hbl g hg).2⟩, by simp, by simp⟩⟩, fun g hg => by subst hg; exact (hbl g rfl).1⟩
  have := hG g q; have := (hbl g hg).1; omega
 obtain ⟨g, c, rfl, hg, hr⟩ := h.cloned hL hl h0 ho hb u hG
 exact ⟨_, c, rfl, .inr ⟨g, rfl, hr⟩, fun g' hg' => by cases hg'; exact hg⟩
def GM (w : World) (j p n k : Nat) (D : aI) (F : List Nat) (T : List cE) (r : Ending) (w' : World) : Prop :=
 ∃ (e : Nat) (D' : aI) (F' : List Nat), r = .returned (.int .i64 e) ∧ bV T D e D' ∧ bN w' p D' F' ∧ bZ w' j p n (if e = 0 then k + 1 else k) (decide (e = 2)) ∧ aB (j :: F) w w' ∧ ∀ i ∈ F', i ∈ F ∨ w.heap.size ≤ i
theorem NT (w : World) {p : Nat} {D : aI} {F : List Nat} (h : bN w p D F) (hdn : D.down = false) {j n k : Nat} (hl : bZ w j p n k false) (hjF : j ∉ F) (hn : n ≤ 492) (hn0 : 1 ≤ n) {v : Value} {ws : List Wr} (hw : eR w (j :: F) v ws) (hok : gA ws) (hhi : ∀ x ∈ ws, x.1 < n)
  {T : List cE}
  (HST : ∀ (W : World) (B bl bf bw : Nat) (a : Option Addr) (c : Nat), aB [j] w W → bZ W j p n k false → eR W (j :: F) (.slice a ws.length c) ws → w.heap.size ≤ B → w.heap.size ≤ bl → w.heap.size ≤ bf → w.heap.size ≤ bw →
   W.cell? ⟨w.heap.size, 0, none⟩ = some (.pointer (some ⟨j, 0, none⟩)) → W.cell? ⟨w.heap.size + 1, 0, none⟩ = some (.slice a ws.length c) → W.cell? ⟨bl, 0, none⟩ = some (.pointer (some ⟨j, 0, none⟩)) → W.cell? ⟨bf, 0, none⟩ = some (.int .i64 3) → W.cell? ⟨bw, 0, none⟩ = some (.slice a ws.length c) →
   (∀ (i : Nat) (x : iA), [(⟨148, #[], #[.pointer (some ⟨bw, 0, none⟩), .pointer (some ⟨bf, 0, none⟩), .pointer (some ⟨bl, 0, none⟩)]⟩ : iA), ⟨105, #[.pointer (some ⟨p, 0, none⟩)], #[]⟩, ⟨106, #[], #[.pointer (some ⟨w.heap.size, 0, none⟩), .pointer (some ⟨w.heap.size + 1, 0, none⟩)]⟩,
    ⟨105, #[.pointer (some ⟨p, 0, none⟩)], #[]⟩, ⟨109, #[], #[.pointer (some ⟨w.heap.size, 0, none⟩), .pointer (some ⟨w.heap.size + 1, 0, none⟩)]⟩][i]? = some x → W.cell? ⟨B, i, none⟩ = some x.v) →
   Calls Tryz.prog 103 #[.slice (some ⟨B, 0, none⟩) 5 5] W (uM W p D F (j :: F) T (fun W' => bZ W' j p n (k + 1) false) (fun W' => bZ W' j p n k false))) :
  Calls Tryz.prog 50 #[.pointer (some ⟨j, 0, none⟩), v] w (GM w j p n k D F T) := by
 have HST := aA HST
 have HW := aA hw
 have HO := aA hok
 have HH := aA hhi
 have HD := aA h
 have HLg := aA hl
 have HFl := aA h.lt
 have hj := aH hl
 obtain ⟨a, c, rfl, hc1, hc2, -⟩ := hw.slice
 have hm16 := hok.many
 have HS : Hid (∀ i, i < ws.length → ∃ y, ws[i]? = some y) := aA fun i h => ⟨_, bL h⟩
 have HU : Hid (∀ (W : World) (x m : Nat) (a : Option Addr) (c : Nat) (b : Bool), bZ W j p n k false → aB [j] w W → x < n → (b = true → m = 512) → Calls Tryz.prog 100 #[.pointer (some ⟨j, 0, none⟩), .int .i64 x, .slice a m c, .bool b] W (Ab W j p n k false 0)) :=
  aA fun W x m a c b hl u hx hb => by
   have := Ac W hl (h.upd u (fun i hi q => hjF (by obtain rfl := aM.1 q; exact hi))) (by omega) (x : Int) a m c b
   have e : jD (false || D.down) (x : Int) n (b && decide (m ≠ 512)) = 0 := by
    rw [hdn]
    cases b with
    | false => simp [jD]; omega
    | true => rw [hb rfl]; simp [jD]; omega
   rw [e, hdn] at this
   exact this
 have HU0 : Hid (∀ (W : World), bZ W j p n k false → aB [j] w W → Calls Tryz.prog 100 #[.pointer (some ⟨j, 0, none⟩), .int .i64 0, .slice none 0 0, .bool false] W (Ab W j p n k false 0)) :=
  aA fun W hl u => HU.out W 0 0 none 0 false hl u (by omega) (by simp)
 generalize hL : ws.length = L at *
 have HLen := aA hL
 clear h hl hw hok hhi hL
 go_in
 go_wp2_with fail
 have hX0 : ((w.alloc (.cells #[.pointer (some ⟨j, 0, none⟩)] 77)).alloc (.cells #[.slice a L c] 101)).heap[w.heap.size]? = some (.cells #[.pointer (some ⟨j, 0, none⟩)] 77) := by
  rw [heap_alloc, aE (by simp), heap_alloc, aF rfl]
 have hX1 : ((w.alloc (.cells #[.pointer (some ⟨j, 0, none⟩)] 77)).alloc (.cells #[.slice a L c] 101)).heap[w.heap.size + 1]? = some (.cells #[.slice a L c] 101) := by
  rw [heap_alloc, aF (by simp)]
 have hu0 : aB [] w ((w.alloc (.cells #[.pointer (some ⟨j, 0, none⟩)] 77)).alloc (.cells #[.slice a L c] 101)) := ((aB.refl [] w).alloc _).alloc _
 have hsz : ((w.alloc (.cells #[.pointer (some ⟨j, 0, none⟩)] 77)).alloc (.cells #[.slice a L c] 101)).heap.size = w.heap.size + 2 := by simp
 generalize ((w.alloc (.cells #[.pointer (some ⟨j, 0, none⟩)] 77)).alloc (.cells #[.slice a L c] 101)) = w0 at *
 have HX0 := aA hX0
 have HX1 := aA hX1
 have HU00 := aA hu0
 have HSZ := aA hsz
 have hjn : w.heap.size ∉ [j] := by simp; omega
 have hjn1 : w.heap.size + 1 ∉ [j] := by simp; omega
 have hl0 := HLg.out.upd hu0 (by simp)
 have HW0 : Hid (eR w0 ((w.heap.size + 1) :: w.heap.size :: j :: F) (.slice a L c) ws) := aA (HW.out.upd (hu0.mono (by simp)) (fun q hq => by
  simp only [aJ] at hq ⊢
  rcases hq with rfl | rfl | rfl | hq
  ·exact .inr (by omega)
  ·exact .inr (by omega)
  ·exact .inl (.inl rfl)
  exact .inl (.inr hq)))
 have HL0 := aA hl0
 clear hX0 hX1 hu0 hsz
 refine (HU0.out w0 HL0.out (HU00.out.mono (by simp))).mono ?_
 rintro r w1 ⟨rfl, hl1, hu1⟩
 have HLU := aA (aC hl1 hu1)
 have b1 : w1.cell? ⟨w.heap.size + 1, 0, none⟩ = some (.slice a L c) := eH hu1 hjn1 (aD HX1.out 0)
 clear hl1 hu1 hl0 HU0
 go_wp2_with fail
 clear b1
 go_loopg [20] L (fun gh v wr => ∃ i : Nat, v = .int .i64 i ∧ i ≤ L ∧ gh = L - i ∧ Hid (bZ wr j p n k false ∧ aB [j] w0 wr))
 case atStart => exact ⟨0, rfl, by omega, rfl, HLU⟩
 case round =>
  clear HLU
  obtain ⟨i, rfl, hi, rfl, H4⟩ := hrel
  by_cases hil : i < L
  ·have hlt : (i : Int) < (L : Int) := by omega
   obtain ⟨y, hy⟩ := HS.out i hil
   obtain ⟨a', c', hv, -, -, hat⟩ := (HW0.out.upd (H4.out.2.mono (G := (w.heap.size + 1) :: w.heap.size :: j :: F) (by simp)) (fun q hq => .inl hq)).slice
   simp only [fG] at hv
   obtain ⟨rfl, -, rfl⟩ := hv
   obtain ⟨b, off, b2, off2, e2, rfl, hb1, hb2, k0, k1, hr, hb3, hb4⟩ := hat i y hy
   have hyn := HH.out y (fC hy)
   have hyl := HO.out.len y (fC hy)
   obtain ⟨ya, yb⟩ := y
   dsimp only at k0 k1 hr hyn hyl
   clear hat hr hy
   have hb0 : ∀ X : Obj, (wr.alloc X).cell? ⟨w.heap.size, 0, none⟩ = some (.pointer (some ⟨j, 0, none⟩)) := fun X => eQ ((aB.refl [] wr).alloc X) (eH H4.out.2 hjn (aD HX0.out 0))
   go_wp2_with fail
   generalize hW1 : wr.alloc _ = W1
   have hu1 : aB [] wr W1 := by rw [← hW1]; exact (aB.refl [] wr).alloc _
   clear hW1 k0 k1 hb0
   have hl1 := H4.out.1.upd hu1 (by simp)
   refine (HU.out W1 ya 512 (some ⟨b2, off2, none⟩) e2 true hl1 (((HU00.out.mono (by simp)).trans H4.out.2).trans (hu1.mono (by simp))) hyn (fun _ => rfl)).mono ?_
   rintro r w5 ⟨rfl, hl5, hu5⟩
   have H5 := aA (aC hl5 ((H4.out.2.trans (hu1.mono (by simp))).trans hu5))
   clear hl5 hu5 hl1 hu1
   go_wp2_with fail
   go_roundg (L - (i + 1))
   case rel => exact ⟨i + 1, by go_num, by omega, rfl, aA H5.out⟩
   case measure => omega
  have hlt : ¬ (i : Int) < (L : Int) := by omega
  obtain rfl : i = L := by omega
  have hb1 : wr.cell? ⟨w.heap.size + 1, 0, none⟩ = some (.slice a i c) := eH H4.out.2 hjn1 (aD HX1.out 0)
  have fb1 : wr.frozen? ⟨w.heap.size + 1, 0, none⟩ = false := aZ ((H4.out.2.block _ (aH HX1.out) hjn1).trans HX1.out) 0
  have HWr := aA (HW0.out.upd (H4.out.2.mono (G := (w.heap.size + 1) :: w.heap.size :: j :: F) (by simp)) (fun q hq => .inl hq))
  obtain ⟨Lw, hLw1, hLw2, hLw3⟩ := HWr.out.ex
  have hszr := H4.out.2.size
  have HC := aA (LE wr hLw1 (by rw [hLw2, HLen.out]; omega))
  go_wp2_with fail
  refine HC.out.mono ?_
  rintro r w6 ⟨v6, rfl, ho6, hu6⟩
  obtain ⟨a6, c6, hv6, hws6, hg6⟩ := HWr.out.clonedS hLw3 hLw2 ho6 (aQ _) hu6 (fun q hq => by
   have h1 := HSZ.out
   simp only [aJ] at hq
   rcases hq with rfl | rfl | rfl | hq
   ·omega
   ·omega
   ·omega
   have := HFl.out q hq; omega)
  rewrite [HLen.out] at hv6
  subst hv6
  have HWS := aA hws6
  have H6 := aA hu6
  have hb1 := eH hu6 (by simp) hb1
  have fb1 : w6.frozen? ⟨w.heap.size + 1, 0, none⟩ = false := aZ ((hu6.block _ (dN (aH HX1.out) hszr) (by simp)).trans ((H4.out.2.block _ (aH HX1.out) hjn1).trans HX1.out)) 0
  clear ho6 hu6 hws6 hLw1 hLw2 hLw3 HC
  go_wp2_with fail
  have hu7 : aB [w.heap.size + 1] w6 (w6.setCell ⟨w.heap.size + 1, 0, none⟩ (.slice a6 i c6)) := (aB.refl _ _).setCell (by simp) _ _
  have hX7 : (w6.setCell ⟨w.heap.size + 1, 0, none⟩ (.slice a6 i c6)).heap[w.heap.size + 1]? = some (.cells #[.slice a6 i c6] 101) := by
   rw [bJ, aF rfl, H6.out.block _ (dN (aH HX1.out) hszr) (by simp), H4.out.2.block _ (aH HX1.out) hjn1, HX1.out]; rfl
  generalize (w6.setCell ⟨w.heap.size + 1, 0, none⟩ (.slice a6 i c6)) = w7 at *
  have hws7 := HWS.out.upd hu7 (fun q hq => .inl (by obtain rfl := aM.1 hq; simp))
  have hu07 : aB [w.heap.size + 1, j] w0 w7 := ((H4.out.2.trans (H6.out.mono (by simp))).mono (by simp)).trans (hu7.mono (by simp))
  have hjw : j ∉ [w.heap.size + 1] := by simp; omega
  have hbb : w.heap.size ∉ [w.heap.size + 1] := by simp
  have hl7 : bZ w7 j p n k false := (H4.out.1.upd H6.out (by simp)).upd hu7 hjw
  have hc0 : w7.cell? ⟨w.heap.size, 0, none⟩ = some (.pointer (some ⟨j, 0, none⟩)) := eH hu7 hbb (eH H6.out (by simp) (eH H4.out.2 hjn (aD HX0.out 0)))
  have hc1 : w7.cell? ⟨w.heap.size + 1, 0, none⟩ = some (.slice a6 i c6) := aD hX7 0
  have H7 := aA (aC hu07 (aC hl7 (aC hc0 (aC hc1 hws7))))
  have hg7 : ∀ g, a6 = some ⟨g, 0, none⟩ → w0.heap.size ≤ g := fun g hg => bG hszr (hg6 g hg)
  clear hu07 hl7 hc0 hws7 hX7 hu7 HWS hb1 fb1 hc1 H4 HWr H6
  go_loopg [38] i (fun gh v wr => ∃ t : Nat, v = .int .i64 t ∧ t ≤ i ∧ gh = i - t ∧ Hid (aB [w.heap.size + 1, j] w0 wr ∧ bZ wr j p n k false ∧ wr.cell? ⟨w.heap.size, 0, none⟩ = some (.pointer (some ⟨j, 0, none⟩)) ∧ wr.cell? ⟨w.heap.size + 1, 0, none⟩ = some (.slice a6 i c6) ∧ WS wr ((w.heap.size + 1) :: w.heap.size :: j :: F) a6 c6 ws))
  case atStart => exact ⟨0, by trivial, by omega, by omega, H7⟩
  case round =>
   obtain ⟨t, rfl, ht, rfl, H8⟩ := hrel
   by_cases htl : t < i
   ·have hlt : (t : Int) < (i : Int) := by omega
    obtain ⟨y, hy⟩ := HS.out t htl
    obtain ⟨hU8, hL8, c0, c1, hw8⟩ := H8.out
    have hw8' : ∃ g, a6 = some ⟨g, 0, none⟩ ∧ mN wr ((w.heap.size + 1) :: w.heap.size :: j :: F) g c6 ws := by
     rcases hw8 with q | q
     ·rw [q.1] at hy; simp at hy
     exact q
    obtain ⟨g, rfl, hrow⟩ := hw8'
    have hg0 := hg7 g rfl
    obtain ⟨b, off, e2, k0, k1, hr, hb1, hb2, hb3⟩ := hrow.at_ t y hy
    have hyl := HO.out.len y (fC hy)
    have hcap := hrow.cap
    have hfz := hrow.frozen (t * 2 + 1)
    have HROW := aA hrow
    have HY := aA hy
    have hbwg : w.heap.size + 1 ≠ g := fun q => hrow.out (by simp [q])
    have hbwg2 : ¬ w.heap.size + 1 = g := hbwg
    have hg1 : g < wr.heap.size := hrow.lt
    obtain ⟨ya, yb⟩ := y
    dsimp only at k0 hr hyl
    have HC := aA fun (W : World) (u : aB [] wr W) => uG W ((hr.keep u).g) (by omega)
    have k1' : wr.drew.cell? ⟨g, t * 2 + 1, none⟩ = some (.slice (some ⟨b, off, none⟩) 512 e2) := k1
    have hfz' : wr.drew.frozen? ⟨g, t * 2 + 1, none⟩ = false := hfz
    have cD : wr.drew.cell? ⟨w.heap.size + 1, 0, none⟩ = some (.slice (some ⟨g, 0, none⟩) i c6) := c1
    have hic : (i : Int) ≤ (c6 : Int) := by rw [HLen.out] at hcap; omega
    clear hrow hr hy k0 k1 hfz hU8 hL8 c0 c1 hw8 hcap
    go_wp2_with fail
    go_region_with
     (first
      | (go_at_call 92; (with_reducible refine (HC.out _ ?_).mono ?_); (exact (aB.refl [] wr).drew); rintro e w9 ⟨v9, rfl, ho9, hu6⟩; obtain ⟨a9, c9, m9, hm9, rfl⟩ := ho9.sliceM; have HO9 := aA ho9; have k1' := eQ hu6 k1'; have cD0 := eQ hu6 cD; have hfz' : w9.frozen? ⟨g, t * 2 + 1, none⟩ = false := (HROW.out.upd (G' := []) ((aB.refl [] wr).drew.trans hu6) (by simp)).frozen _; clear ho9 hm9; have hD9 : (w9.setCell ⟨g, t * 2 + 1, none⟩ (.slice a9 m9 c9)).cell? ⟨w.heap.size + 1, 0, none⟩ = some (.slice (some ⟨g, 0, none⟩) i c6) := eH (G := [g]) ((aB.refl _ _).setCell (by simp) _ _) (by simp; exact hbwg) (eQ hu6 cD)))
    all_goals
     obtain ⟨gb, cb, hvb, hgb1, hgb2⟩ := HO9.out.headG (by intro q; rw [q] at hyl; simp at hyl)
     rewrite [hyl] at hvb
     simp only [fG] at hvb
     obtain ⟨rfl, rfl, rfl⟩ := hvb
     have hu69 : aB [] wr w9 := (aB.refl [] wr).drew.trans hu6
     have hs69 := hu69.size
     have hgb1' : wr.heap.size ≤ gb := hgb1
     have hrow9 := (HROW.out.upd hu69 (by simp)).set HY.out (aK.rd T8 HO9.out).b (by omega) (by
      intro q
      have h1 := HSZ.out
      have h2 := H8.out.1.size
      simp only [aJ] at q
      rcases q with q | q | q | q
      ·omega
      ·omega
      ·omega
      have := HFl.out gb q; omega) hgb2
     have hus : aB [g] w9 (w9.setCell ⟨g, t * 2 + 1, none⟩ (.slice (some ⟨gb, 0, none⟩) 512 c9)) := (aB.refl _ _).setCell (by simp) _ _
     have hjg : j ∉ [g] := by have := HSZ.out; simp; omega
     have hblg : w.heap.size ∉ [g] := by have := HSZ.out; simp; omega
     have H9 : Hid (aB [w.heap.size + 1, j] w0 (w9.setCell ⟨g, t * 2 + 1, none⟩ (.slice (some ⟨gb, 0, none⟩) 512 c9)) ∧ bZ (w9.setCell ⟨g, t * 2 + 1, none⟩ (.slice (some ⟨gb, 0, none⟩) 512 c9)) j p n k false ∧ (w9.setCell ⟨g, t * 2 + 1, none⟩ (.slice (some ⟨gb, 0, none⟩) 512 c9)).cell? ⟨w.heap.size, 0, none⟩ = some (.pointer (some ⟨j, 0, none⟩)) ∧ (w9.setCell ⟨g, t * 2 + 1, none⟩ (.slice (some ⟨gb, 0, none⟩) 512 c9)).cell? ⟨w.heap.size + 1, 0, none⟩ = some (.slice (some ⟨g, 0, none⟩) i c6) ∧ WS (w9.setCell ⟨g, t * 2 + 1, none⟩ (.slice (some ⟨gb, 0, none⟩) 512 c9)) ((w.heap.size + 1) :: w.heap.size :: j :: F) (some ⟨g, 0, none⟩) c6 ws) :=
      aA ⟨(H8.out.1.trans (hu69.mono (by simp))).setCellNew hg0 _ _, (H8.out.2.1.upd hu69 (by simp)).upd hus hjg, eH hus hblg (eQ hu69 H8.out.2.2.1), hD9, .inr ⟨g, rfl, hrow9⟩⟩
     clear hrow9 hus hu69 hD9 cD HC k1' hfz' hu6
     generalize w9.setCell ⟨g, t * 2 + 1, none⟩ (.slice (some ⟨gb, 0, none⟩) 512 c9) = w10 at *
     go_wp2_with fail
     go_roundg (i - (t + 1))
     case rel => exact ⟨t + 1, by go_num, by omega, rfl, H9⟩
     case measure => omega
   have hlt : ¬ (t : Int) < (i : Int) := by omega
   obtain rfl : t = i := by omega
   obtain ⟨hU8, hL8, c0, c1, hw8⟩ := H8.out
   have c2 : wr.cell? ⟨j, 0, none⟩ = some (.pointer (some ⟨p, 0, none⟩)) := aD hL8 0
   have cD : wr.drew.cell? ⟨w.heap.size, 0, none⟩ = some (.pointer (some ⟨j, 0, none⟩)) ∧ wr.drew.cell? ⟨w.heap.size + 1, 0, none⟩ = some (.slice a6 t c6) ∧ wr.drew.cell? ⟨j, 0, none⟩ = some (.pointer (some ⟨p, 0, none⟩)) := ⟨c0, c1, c2⟩
   have hUw : aB [j] w wr := (HU00.out.mono (by simp)).next hU8 (fun q hq hlt => by
    simp only [aJ, cA, cG] at hq ⊢
    omega)
   have HUw := aA hUw
   have HL8 := aA hL8
   have HWS8 := aA hw8
   have hj8 : j < wr.heap.size := aH hL8
   have hs8 := hUw.size
   have HW3 : Hid (∀ W : World, Calls Tryz.prog 104 #[.pointer (some ⟨j, 0, none⟩), .int .i64 3, .slice a6 t c6] W fun e w' => ∃ bl bf bw, e = .returned (.func (.func 148) #[] #[.pointer (some ⟨bw, 0, none⟩), .pointer (some ⟨bf, 0, none⟩), .pointer (some ⟨bl, 0, none⟩)]) ∧ aB [] W w' ∧
     W.heap.size ≤ bl ∧ W.heap.size ≤ bf ∧ W.heap.size ≤ bw ∧ w'.cell? ⟨bl, 0, none⟩ = some (.pointer (some ⟨j, 0, none⟩)) ∧ w'.cell? ⟨bf, 0, none⟩ = some (.int .i64 3) ∧ w'.cell? ⟨bw, 0, none⟩ = some (.slice a6 t c6)) := aA fun W => by
    have := GD W j 3 (.slice a6 t c6) ⟨_, _, _, rfl⟩
    exact this
   clear hU8 hL8 c0 c1 c2 hw8 hUw H8 H7
   go_wp2_with fail
   refine wp_region_noPanic ?_
   refine wp_region_held_drew (S := fun w' => w'.cell? ⟨w.heap.size, 0, none⟩ = some (.pointer (some ⟨j, 0, none⟩)) ∧ w'.cell? ⟨w.heap.size + 1, 0, none⟩ = some (.slice a6 t c6) ∧ w'.cell? ⟨j, 0, none⟩ = some (.pointer (some ⟨p, 0, none⟩))) (by kernel_rfl) cD (fun hHeld => ?_)
   refine wpAnyH_take (i := 0) (oi := ⟨some 52, _, _, _, _, _⟩) (v := .pointer (some ⟨j, 0, none⟩)) rfl (by kernel_rfl) (by kernel_rfl) (by kernel_rfl) (fun _ _ _ h => h) (Or.inl ⟨by rfl, by (intro W hSW; obtain ⟨hS1, hS2, hS3⟩ := hSW; go_simp)⟩) hHeld ?_
   simp only [Act.put, aW, aU, aT]
   refine wpAnyH_take (i := 1) (oi := ⟨some 53, _, _, _, _, _⟩) (v := .pointer (some ⟨j, 0, none⟩)) rfl (by kernel_rfl) (by kernel_rfl) (by kernel_rfl) (fun _ _ _ h => h) (Or.inl ⟨by rfl, by (intro W hSW; obtain ⟨hS1, hS2, hS3⟩ := hSW; go_simp)⟩) hHeld ?_
   simp only [Act.put, aW, aU, aT]
   refine wpAnyH_take (i := 2) (oi := ⟨some 54, _, _, _, _, _⟩) (v := .slice a6 t c6) rfl (by kernel_rfl) (by kernel_rfl) (by kernel_rfl) (fun _ _ _ h => h) (Or.inl ⟨by rfl, by (intro W hSW; obtain ⟨hS1, hS2, hS3⟩ := hSW; go_simp)⟩) hHeld ?_
   simp only [Act.put, aW, aU, aT]
   refine wpAnyH_take (i := 4) (oi := ⟨some 56, _, _, _, _, _⟩) (v := .pointer (some ⟨j, 0, none⟩)) rfl (by kernel_rfl) (by kernel_rfl) (by kernel_rfl) (fun _ _ _ h => h) (Or.inl ⟨by rfl, by (intro W hSW; obtain ⟨hS1, hS2, hS3⟩ := hSW; go_simp)⟩) hHeld ?_
   simp only [Act.put, aW, aU, aT]
   refine wpAnyH_take (i := 5) (oi := ⟨some 57, _, _, _, _, _⟩) (v := .pointer (some ⟨j, 0, none⟩)) rfl (by kernel_rfl) (by kernel_rfl) (by kernel_rfl) (fun _ _ _ h => h) (Or.inl ⟨by rfl, by (intro W hSW; obtain ⟨hS1, hS2, hS3⟩ := hSW; go_simp)⟩) hHeld ?_
   simp only [Act.put, aW, aU, aT]
   refine wpAnyH_take (i := 6) (oi := ⟨some 58, _, _, _, _, _⟩) (v := .pointer (some ⟨j, 0, none⟩)) rfl (by kernel_rfl) (by kernel_rfl) (by kernel_rfl) (fun _ _ _ h => h) (Or.inl ⟨by rfl, by (intro W hSW; obtain ⟨hS1, hS2, hS3⟩ := hSW; go_simp)⟩) hHeld ?_
   simp only [Act.put, aW, aU, aT]
   refine wpAnyH_take (i := 7) (oi := ⟨some 59, _, _, _, _, _⟩) (v := .pointer (some ⟨p, 0, none⟩)) rfl (by kernel_rfl) (by kernel_rfl) (by kernel_rfl) (fun _ _ _ h => h) (Or.inl ⟨by rfl, by (intro W hSW; obtain ⟨hS1, hS2, hS3⟩ := hSW; go_simp)⟩) hHeld ?_
   simp only [Act.put, aW, aU, aT]
   refine wpAnyH_take (i := 8) (oi := ⟨some 60, _, _, _, _, _⟩) (v := .func (.func 105) #[.pointer (some ⟨p, 0, none⟩)] #[]) rfl (by kernel_rfl) (by kernel_rfl) (by kernel_rfl) (fun _ _ _ h => h) (Or.inl ⟨by rfl, by (intro W hSW; obtain ⟨hS1, hS2, hS3⟩ := hSW; go_simp)⟩) hHeld ?_
   simp only [Act.put, aW, aU, aT]
   refine wpAnyH_take (i := 9) (oi := ⟨some 61, _, _, _, _, _⟩) (v := .func (.func 106) #[] #[.pointer (some ⟨w.heap.size, 0, none⟩), .pointer (some ⟨w.heap.size + 1, 0, none⟩)]) rfl (by kernel_rfl) (by kernel_rfl) (by kernel_rfl) (fun _ _ _ h => h) (Or.inl ⟨by rfl, by (intro W hSW; obtain ⟨hS1, hS2, hS3⟩ := hSW; go_simp)⟩) hHeld ?_
   simp only [Act.put, aW, aU, aT]
   refine wpAnyH_take (i := 10) (oi := ⟨some 62, _, _, _, _, _⟩) (v := .pointer (some ⟨j, 0, none⟩)) rfl (by kernel_rfl) (by kernel_rfl) (by kernel_rfl) (fun _ _ _ h => h) (Or.inl ⟨by rfl, by (intro W hSW; obtain ⟨hS1, hS2, hS3⟩ := hSW; go_simp)⟩) hHeld ?_
   simp only [Act.put, aW, aU, aT]
   refine wpAnyH_take (i := 11) (oi := ⟨some 63, _, _, _, _, _⟩) (v := .pointer (some ⟨j, 0, none⟩)) rfl (by kernel_rfl) (by kernel_rfl) (by kernel_rfl) (fun _ _ _ h => h) (Or.inl ⟨by rfl, by (intro W hSW; obtain ⟨hS1, hS2, hS3⟩ := hSW; go_simp)⟩) hHeld ?_
   simp only [Act.put, aW, aU, aT]
   refine wpAnyH_take (i := 12) (oi := ⟨some 64, _, _, _, _, _⟩) (v := .pointer (some ⟨j, 0, none⟩)) rfl (by kernel_rfl) (by kernel_rfl) (by kernel_rfl) (fun _ _ _ h => h) (Or.inl ⟨by rfl, by (intro W hSW; obtain ⟨hS1, hS2, hS3⟩ := hSW; go_simp)⟩) hHeld ?_
   simp only [Act.put, aW, aU, aT]
   refine wpAnyH_take (i := 13) (oi := ⟨some 65, _, _, _, _, _⟩) (v := .pointer (some ⟨p, 0, none⟩)) rfl (by kernel_rfl) (by kernel_rfl) (by kernel_rfl) (fun _ _ _ h => h) (Or.inl ⟨by rfl, by (intro W hSW; obtain ⟨hS1, hS2, hS3⟩ := hSW; go_simp)⟩) hHeld ?_
   simp only [Act.put, aW, aU, aT]
   refine wpAnyH_take (i := 14) (oi := ⟨some 66, _, _, _, _, _⟩) (v := .func (.func 105) #[.pointer (some ⟨p, 0, none⟩)] #[]) rfl (by kernel_rfl) (by kernel_rfl) (by kernel_rfl) (fun _ _ _ h => h) (Or.inl ⟨by rfl, by (intro W hSW; obtain ⟨hS1, hS2, hS3⟩ := hSW; go_simp)⟩) hHeld ?_
   simp only [Act.put, aW, aU, aT]
   refine wpAnyH_take (i := 15) (oi := ⟨some 67, _, _, _, _, _⟩) (v := .func (.func 109) #[] #[.pointer (some ⟨w.heap.size, 0, none⟩), .pointer (some ⟨w.heap.size + 1, 0, none⟩)]) rfl (by kernel_rfl) (by kernel_rfl) (by kernel_rfl) (fun _ _ _ h => h) (Or.inl ⟨by rfl, by (intro W hSW; obtain ⟨hS1, hS2, hS3⟩ := hSW; go_simp)⟩) hHeld ?_
   simp only [Act.put, aW, aU, aT]
   refine wpAnyH_ready (rs := [3]) (by kernel_rfl) (by simp) ?_
   refine AllReadyH.cons (o := ⟨some 55, _, _, _, _, _⟩) rfl (fun K hK => ?_) AllReadyH.nil
   go_simp
   refine (HW3.out _).mono ?_
   rintro e w6 ⟨bl, bf, bw, rfl, hu6, hb1, hb2, hb3, hc1, hc2, hc3⟩
   refine hK.out _ _ (vV hu6 (by simp) (by simp) (by simp) cD) (fun _ => ?_)
   clear hK K
   try simp only [Act.put, aW, aU, aT]
   refine wpAnyH_ready (rs := [16]) (by kernel_rfl) (by simp) ?_
   refine AllReadyH.cons (o := ⟨some 68, _, _, _, _, _⟩) rfl (fun K hK => ?_) AllReadyH.nil
   go_simp
   have hX7 := aX w6 (.cells ([(⟨148, #[], #[.pointer (some ⟨bw, 0, none⟩), .pointer (some ⟨bf, 0, none⟩), .pointer (some ⟨bl, 0, none⟩)]⟩ : iA), ⟨105, #[.pointer (some ⟨p, 0, none⟩)], #[]⟩, ⟨106, #[], #[.pointer (some ⟨w.heap.size, 0, none⟩), .pointer (some ⟨w.heap.size + 1, 0, none⟩)]⟩,
    ⟨105, #[.pointer (some ⟨p, 0, none⟩)], #[]⟩, ⟨109, #[], #[.pointer (some ⟨w.heap.size, 0, none⟩), .pointer (some ⟨w.heap.size + 1, 0, none⟩)]⟩].map iA.v).toArray 39)
   have hu7 : aB [] wr (w6.alloc (.cells ([(⟨148, #[], #[.pointer (some ⟨bw, 0, none⟩), .pointer (some ⟨bf, 0, none⟩), .pointer (some ⟨bl, 0, none⟩)]⟩ : iA), ⟨105, #[.pointer (some ⟨p, 0, none⟩)], #[]⟩, ⟨106, #[], #[.pointer (some ⟨w.heap.size, 0, none⟩), .pointer (some ⟨w.heap.size + 1, 0, none⟩)]⟩,
    ⟨105, #[.pointer (some ⟨p, 0, none⟩)], #[]⟩, ⟨109, #[], #[.pointer (some ⟨w.heap.size, 0, none⟩), .pointer (some ⟨w.heap.size + 1, 0, none⟩)]⟩].map iA.v).toArray 39)) := ((aB.refl [] wr).drew.trans hu6).alloc _
   have hs6 : wr.heap.size ≤ w6.heap.size := hu6.size
   have hcl := GI hX7
   have hk1 : ∀ {b o : Nat} {x : Value}, w6.cell? ⟨b, o, none⟩ = some x → (w6.alloc (.cells ([(⟨148, #[], #[.pointer (some ⟨bw, 0, none⟩), .pointer (some ⟨bf, 0, none⟩), .pointer (some ⟨bl, 0, none⟩)]⟩ : iA), ⟨105, #[.pointer (some ⟨p, 0, none⟩)], #[]⟩, ⟨106, #[], #[.pointer (some ⟨w.heap.size, 0, none⟩), .pointer (some ⟨w.heap.size + 1, 0, none⟩)]⟩,
    ⟨105, #[.pointer (some ⟨p, 0, none⟩)], #[]⟩, ⟨109, #[], #[.pointer (some ⟨w.heap.size, 0, none⟩), .pointer (some ⟨w.heap.size + 1, 0, none⟩)]⟩].map iA.v).toArray 39)).cell? ⟨b, o, none⟩ = some x := fun hc => eQ ((aB.refl [] w6).alloc _) hc
   have hc1 := hk1 hc1
   have hc2 := hk1 hc2
   have hc3 := hk1 hc3
   clear hk1 hX7
   simp only [dR, kT, iA.v] at hu7 hc1 hc2 hc3 hcl
   generalize w6.alloc _ = w7 at *
   have hcD7 := vV (w := wr.drew) (w' := w7) (G := []) ⟨hu7.os, hu7.output, hu7.size, hu7.block⟩ (by simp) (by simp) (by simp) cD
   refine hK.out _ _ hcD7 (fun _ => ?_)
   clear hK K
   try simp only [Act.put, aW, aU, aT]
   refine wpAnyH_ready (rs := [17]) (by kernel_rfl) (by simp) ?_
   refine AllReadyH.cons (o := ⟨some 69, _, _, _, _, _⟩) rfl (fun K hK => ?_) AllReadyH.nil
   go_simp
   have hblF : w.heap.size ∉ j :: F := by
    simp only [aJ, not_or]
    exact ⟨by omega, fun q => Be _ (HFl.out _ q)⟩
   have hbwF : w.heap.size + 1 ∉ j :: F := by
    simp only [aJ, not_or]
    exact ⟨by omega, fun q => by have := HFl.out _ q; omega⟩
   have hws7 : eR w7 (j :: F) (.slice a6 t c6) ws := by
    have := ((HWS8.out.upd hu7 (by simp)).wrs).less (G' := j :: F) (fun q hq => .inl (by simp only [aJ] at hq ⊢; exact .inr (.inr hq)))
    rw [HLen.out] at this
    exact this
   have hb1' : w.heap.size ≤ bl := bG hs8 hb1
   have hb2' : w.heap.size ≤ bf := bG hs8 hb2
   have hb3' : w.heap.size ≤ bw := bG hs8 hb3
   refine (HST.out w7 w6.heap.size bl bf bw a6 c6 (HUw.out.trans (hu7.mono (by simp))) (HL8.out.upd hu7 (by simp)) hws7 (by omega) hb1' hb2' hb3' hcD7.1 hcD7.2.1 hc1 hc2 hc3 hcl).mono ?_
   rintro e w8 ⟨e8, D8, F8, rfl, hE8, hD8, hU8, hF8, hr8, hr8'⟩
   have hl8 : bZ w8 j p n (if e8 = 0 then k + 1 else k) false := by
    by_cases he : e8 = 0
    ·rw [aF he]; exact hr8 he
    rw [aE he]; exact hr8' he
   have hcD8 : w8.cell? ⟨w.heap.size, 0, none⟩ = some (.pointer (some ⟨j, 0, none⟩)) ∧ w8.cell? ⟨w.heap.size + 1, 0, none⟩ = some (.slice a6 t c6) ∧ w8.cell? ⟨j, 0, none⟩ = some (.pointer (some ⟨p, 0, none⟩)) := ⟨eH hU8 hblF hcD7.1, eH hU8 hbwF hcD7.2.1, aD hl8 0⟩
   have H8 := aA (aC hE8 (aC hD8 (aC ((HUw.out.trans (hu7.mono (by simp))).mono (G := j :: F) (by simp) |>.trans hU8) (aC (fun (q : Nat) (hq : q ∈ F8) => (hF8 q hq).imp id (fun r => bG (bG hs8 hu7.size) r)) hl8))))
   clear hE8 hD8 hU8 hF8 hr8 hr8' hws7 hcl hc1 hc2 hc3
   refine hK.out _ _ hcD8 (fun _ => ?_)
   clear hK K
   try simp only [Act.put, aW, aU, aT]
   refine wpAnyH_ready (rs := [18]) (by kernel_rfl) (by simp) ?_
   refine AllReadyH.cons (o := ⟨some 70, _, _, _, _, _⟩) rfl (fun K hK => ?_) AllReadyH.nil
   go_simp
   refine (Ci w8 hl8 e8).mono ?_
   rintro e w9 ⟨rfl, hl9, hu9⟩
   rw [Bool.false_or] at hl9
   have hcD9 : w9.cell? ⟨w.heap.size, 0, none⟩ = some (.pointer (some ⟨j, 0, none⟩)) ∧ w9.cell? ⟨w.heap.size + 1, 0, none⟩ = some (.slice a6 t c6) ∧ w9.cell? ⟨j, 0, none⟩ = some (.pointer (some ⟨p, 0, none⟩)) := ⟨eH hu9 hjn hcD8.1, eH hu9 hjn1 hcD8.2.1, aD hl9 0⟩
   refine hK.out _ _ hcD9 (fun _ => ?_)
   clear hK K
   try simp only [Act.put, aW, aU, aT]
   refine wpAnyH_ready (rs := [19]) (by kernel_rfl) (by simp) ?_
   refine AllReadyH.cons (o := ⟨some 4, _, _, _, _, _⟩) rfl (fun K hK => ?_) AllReadyH.nil
   go_simp
   refine hK.out _ _ hcD9 (fun _ => ?_)
   clear hK K
   try simp only [Act.put, aW, aU, aT]
   refine wpAnyH_done (by kernel_rfl) ?_ _
   refine NoPanic.normal ?_
   go_wp2_with fail
   go_ret
   have hjF8 : j ∉ F8 := fun q => by
    rcases H8.out.2.2.2.1 j q with q | q
    ·exact hjF q
    omega
   exact ⟨e8, D8, F8, rfl, H8.out.1, H8.out.2.1.upd hu9 (fun q hq hq2 => by obtain rfl := aM.1 hq2; exact hjF8 hq), hl9, H8.out.2.2.1.trans (hu9.mono (by simp)), H8.out.2.2.2.1⟩
theorem CE {w w' : World} {G : List Nat} (u : aB G w w') {b0 o0 b1 o1 b2 o2 b3 o3 : Nat} {v0 v1 v2 v3 : Value} (h0 : b0 ∉ G) (h1 : b1 ∉ G) (h2 : b2 ∉ G) (h3 : b3 ∉ G) (h : w.cell? ⟨b0, o0, none⟩ = some v0 ∧ w.cell? ⟨b1, o1, none⟩ = some v1 ∧ w.cell? ⟨b2, o2, none⟩ = some v2 ∧ w.cell? ⟨b3, o3, none⟩ = some v3) :
  w'.cell? ⟨b0, o0, none⟩ = some v0 ∧ w'.cell? ⟨b1, o1, none⟩ = some v1 ∧ w'.cell? ⟨b2, o2, none⟩ = some v2 ∧ w'.cell? ⟨b3, o3, none⟩ = some v3 := ⟨eH u h0 h.1, eH u h1 h.2.1, eH u h2 h.2.2.1, eH u h3 h.2.2.2⟩
theorem NU (w : World) {p : Nat} {D : aI} {F : List Nat} (h : bN w p D F) (hwr : D.wr ≤ 137438953000) {j n k : Nat} {dead : Bool} (hl : bZ w j p n k dead) (hjF : j ∉ F) {bl bw : Nat} {v : Value} (cl : w.cell? ⟨bl, 0, none⟩ = some (.pointer (some ⟨j, 0, none⟩))) (cw : w.cell? ⟨bw, 0, none⟩ = some v) (hbl : bl ∉ F) (hbw : bw ∉ F)
  {G : List Nat} {ws : List Wr} (hw : eR w G v ws) (hok : gA ws) (hk : k < 2 ^ 61) :
  Calls Tryz.prog 106 #[.pointer (some ⟨bl, 0, none⟩), .pointer (some ⟨bw, 0, none⟩)] w (dE w p D F [.write 2 (gY (k + 1) ws)]) := by
 have HD := aA h
 have hbn := h.bounds
 have hFl := aA h.lt
 obtain ⟨a, c, rfl, -⟩ := hw.slice
 have HHd : Hid (∀ W : World, aB [] w W → Calls Tryz.prog 108 #[.int .u64 ((k : Int) + 1), .slice a ws.length c] W fun e w' => ∃ g c', e = .returned (.slice (some ⟨g, 0, none⟩) 512 c') ∧ Ow w' W.heap.size (.slice (some ⟨g, 0, none⟩) 512 c') (gY (k + 1) ws) ∧ aB [] W w') := aA fun W u => by
  have := GF W (k + 1) (by omega) ((hw.less (G' := []) (by simp)).upd u (G' := []) (by simp)) hok
  have e1 : ((k + 1 : Nat) : Int) = (k : Int) + 1 := by omega
  rw [e1] at this
  refine this.mono ?_
  rintro e w' ⟨v', rfl, ho, hu⟩
  have h5 := Bt (n := k + 1) (w := ws) (by omega) hok
  obtain ⟨g, c', rfl, -, -⟩ := ho.headG (by intro q; rw [q] at h5; simp at h5)
  rw [h5] at *
  exact ⟨g, c', rfl, ho, hu⟩
 have HWt : Hid (∀ (W : World) (g c' : Nat), aB [] w W → Ow W w.heap.size (.slice (some ⟨g, 0, none⟩) 512 c') (gY (k + 1) ws) → Calls Tryz.prog 107 #[.pointer (some ⟨p, 0, none⟩), .int .i64 2, .slice (some ⟨g, 0, none⟩) 512 c'] W (dE W p D F [.write 2 (gY (k + 1) ws)])) :=
  aA fun W g c' u ho => by
   have := vO W (h.upd u (by simp)) 2 (by omega) (by omega) (Ow.rd ho) (Bt (by omega) hok) (fun q => by have := hFl.out g q; have := (ho.block g rfl).1; omega)
   exact this
 have hwk : IntKind.u64.wrap ((k : Int) + 1) = (k : Int) + 1 := by rw [nU]; omega
 have cD : w.drew.cell? ⟨bl, 0, none⟩ = some (.pointer (some ⟨j, 0, none⟩)) ∧ w.drew.cell? ⟨bw, 0, none⟩ = some (.slice a ws.length c) ∧ w.drew.cell? ⟨j, 0, none⟩ = some (.pointer (some ⟨p, 0, none⟩)) ∧ w.drew.cell? ⟨j, 2, none⟩ = some (.int .u64 k) := ⟨cl, cw, aD hl 0, aD hl 2⟩
 generalize ws.length = L at *
 clear h hl hw hok cl cw
 go_in
 go_wp2_with fail
 go_region_held3 (fun w' => w'.cell? ⟨bl, 0, none⟩ = some (.pointer (some ⟨j, 0, none⟩)) ∧ w'.cell? ⟨bw, 0, none⟩ = some (.slice a L c) ∧ w'.cell? ⟨j, 0, none⟩ = some (.pointer (some ⟨p, 0, none⟩)) ∧ w'.cell? ⟨j, 2, none⟩ = some (.int .u64 k))
  (first
   | (with_reducible exact cD)
   | (with_reducible exact CE hu6 (by simp) (by simp) (by simp) (by simp) cD)
   | (with_reducible exact CE hU7 hbl hbw hjF hjF (CE hu6 (by simp) (by simp) (by simp) (by simp) cD)))
  (first
   | (go_at_call 108; (with_reducible refine (HHd.out _ ?_).mono ?_); (exact (aB.refl [] w).drew); rintro e w6 ⟨g6, c6, rfl, ho6, hu6⟩; have HO6 := aA ho6; clear ho6)
   | (go_at_call 107; (with_reducible refine (HWt.out _ _ _ ?_ ?_).mono ?_); (exact (aB.refl [] w).drew.trans hu6); (exact HO6.out); rintro e w7 ⟨e7, D7, F7, rfl, hE7, hD7, hU7, hF7⟩; have H7 := aA (aC hE7 (aC hD7 hF7)); clear hE7 hD7 hF7))
 go_wp2_with fail
 go_ret
 exact dE.from ((aB.refl [] w).drew.trans hu6) ⟨e7, D7, F7, rfl, H7.out.1, H7.out.2.1, hU7, H7.out.2.2⟩
theorem NV (w : World) {j bl bw : Nat} {v : Value} (cl : w.cell? ⟨bl, 0, none⟩ = some (.pointer (some ⟨j, 0, none⟩))) (cw : w.cell? ⟨bw, 0, none⟩ = some v) {R : Ending → World → Prop}
  (h : Calls Tryz.prog 110 #[.pointer (some ⟨j, 0, none⟩), v] w fun r w' => (∃ e : Nat, r = .returned (.int .i64 e)) ∧ R r w') (hv : ∃ a m c, v = .slice a m c) :
  Calls Tryz.prog 109 #[.pointer (some ⟨bl, 0, none⟩), .pointer (some ⟨bw, 0, none⟩)] w R := by
 obtain ⟨a, m, c, rfl⟩ := hv
 go_in
 go_wp2_with fail
 refine h.mono ?_
 rintro r w1 ⟨⟨e, rfl⟩, hr⟩
 go_wp2_with fail
 exact hr
theorem eO.parts {l : Nat → aL} {k s : Nat} (h : eO l k s) {ws : List Wr} : eO (exec (gI ws 3) l) k s := by
 have key : ∀ (t : List cE) (l : Nat → aL), (∀ o ∈ t, ∃ n b, o = .write n b ∧ 2 ≤ n) → eO l k s → eO (exec t l) k s := by
  intro t
  induction t with
  | nil => intro l _ h; exact h
  | cons o t ih =>
   intro l ho h
   obtain ⟨n, b, rfl, hn⟩ := ho o (by simp)
   exact ih _ (fun x hx => ho x (by simp [hx])) (h.write b hn)
 refine key _ _ (fun o ho => ?_) h
 simp only [gI, cV, yL] at ho
 obtain ⟨i, -, rfl⟩ := ho
 exact ⟨_, _, rfl, by omega⟩
theorem GN (w : World) {p : Nat} {D : aI} {F : List Nat} (h : bN w p D F) (hdn : D.down = false) (hwr : D.wr ≤ 137438950000) {j n k : Nat} (hl : bZ w j p n k false) (hjF : j ∉ F) (hnD : n + 20 = D.n) (hk : k < 2 ^ 61) {s : Nat} (hs : eO D.blk k s)
  {v : Value} {ws : List Wr} (hw : eR w (j :: F) v ws) (hok : gA ws) (hhi : ∀ x ∈ ws, x.1 < n) :
  Calls Tryz.prog 50 #[.pointer (some ⟨j, 0, none⟩), v] w (GM w j p n k D F (jK (k + 1) s ws)) := by
 have hFl := h.lt
 have hbn := h.bounds
 have hm := hok.many
 have hj := aH hl
 have hs2 := hs.two
 refine NT w h hdn hl hjF (by omega) (by omega) hw hok hhi ?_
 intro W B bl bf bw a c u hlW hwW hB hb1 hb2 hb3 c0 c1 c2 c3 c4 hcell
 have nG : ∀ {b}, w.heap.size ≤ b → b ∉ j :: F := fun hb q => by
  simp only [aJ] at q
  rcases q with q | q
  ·omega
  have := hFl _ q; omega
 have hjj : ∀ i ∈ F, i ∉ [j] := fun i hi q => hjF (by obtain rfl := aM.1 q; exact hi)
 refine (GG W (h.upd u hjj) hdn (G := j :: F) (nG hB) _ [gI ws 3, [.flush], [.write 2 (gY (k + 1) ws)], [.flush], eL ws ++ fR (k + 1) s] rfl (by simp) (fun i W' => bZ W' j p n (if i = 5 then k + 1 else k) false) (fun W' => bZ W' j p n k false) hcell ?_ hlW ?_).mono ?_
 ·intro i x hx args W'
  match i, hx with
  | 0, hx => cases hx; exact Tryz.call148 _ _
  | 1, hx => cases hx; exact Tryz.call105 _ _
  | 2, hx => cases hx; exact Tryz.call106 _ _
  | 3, hx => cases hx; exact Tryz.call105 _ _
  | 4, hx => cases hx; exact Tryz.call109 _ _
 ·intro i x t hx ht W' D1 F1 hE hD1 hU hF1 hR
  have hn1 := hE.n
  have hw1 := hE.wr
  have hWs : W.heap.size ≥ w.heap.size := u.size
  have hjF1 : j ∉ F1 := fun q => by
   rcases hF1 _ q with q | q
   ·exact hjF q
   omega
  have nF1 : ∀ {b o : Nat} {x : Value}, w.heap.size ≤ b → W.cell? ⟨b, o, none⟩ = some x → b ∉ F1 := fun hb hc q => by
   rcases hF1 _ q with q | q
   ·exact nG hb (iZ _ q)
   have := CB hc; omega
  have hd0 := hE.up.2.1
  have hwl : (ts : List cE) → True := fun _ => trivial
  have hwW' : eR W' (j :: F1) (.slice a ws.length c) ws := hwW.upd hU (fun q hq => by
   simp only [aJ] at hq ⊢
   rcases hq with rfl | hq
   ·exact .inl (.inl rfl)
   rcases hF1 _ hq with q | q
   ·exact .inl (.inr q)
   exact .inr q)
  have hG1 : ∀ b ∈ F1, b ∈ j :: F ∨ W.heap.size ≤ b := fun b hb => (hF1 b hb).imp (iZ _) id
  have hGo : ∀ (hi4 : i ≠ 4) (r : Ending) (W2 : World), dE W' p D1 F1 t r W2 → uM W' p D1 F1 F1 t (fun W2 => bZ W2 j p n (if i + 1 = 5 then k + 1 else k) false) (fun W2 => bZ W2 j p n k false) r W2 := by
   rintro hi4 r W2 ⟨e, D2, F2, q1, q2, q3, q4, q5⟩
   have hi5 : i < 5 := by have := (eX.1 hx).1; simpa using this
   rw [aE (by omega)] at hR
   exact ⟨e, D2, F2, q1, q2, q3, q4, q5, fun _ => by rw [aE (by omega)]; exact hR.upd q4 hjF1, fun _ => hR.upd q4 hjF1⟩
  have c0' := eH hU (nG (aQ _)) c0
  have c1' := eH hU (nG (by omega)) c1
  match i, hx, ht with
  | 0, hx, ht =>
   cases hx; cases ht
   have hlk : bZ W' j p n k false := hR
   refine ⟨F1, hG1, Calls.mono (Gz W' hD1 hd0 (by simp at hw1; omega) hlk hjF1 (from_ := 3) (by omega) (eH hU (nG hb3) c4) (eH hU (nG hb2) c3) (eH hU (nG hb1) c2) (nF1 hb2 c3) (nF1 hb1 c2) (hwW'.less (fun q hq => .inl (iZ _ hq))) (gI ws 3) (xP ws 3) fun i y hy => ⟨NR hy 3 (by omega), ?_⟩) (hGo (by omega))⟩
   have := (eX.1 hy).1
   rw [hn1]; unfold qX; rw [aE (by omega)]; omega
  | 1, hx, ht =>
   cases hx; cases ht
   exact ⟨F1, hG1, (vP W' hD1 (by simp [xP] at hw1; omega)).mono (hGo (by omega))⟩
  | 2, hx, ht =>
   cases hx; cases ht
   have hlk : bZ W' j p n k false := hR
   exact ⟨F1, hG1, (NU W' hD1 (by simp [xP] at hw1; omega) hlk hjF1 c0' c1' (nF1 (aQ _) c0) (nF1 (by omega) c1) hwW' hok hk).mono (hGo (by omega))⟩
  | 3, hx, ht =>
   cases hx; cases ht
   exact ⟨F1, hG1, (vP W' hD1 (by simp [xP] at hw1; omega)).mono (hGo (by omega))⟩
  | 4, hx, ht =>
   cases hx; cases ht
   have hlk : bZ W' j p n k false := hR
   have hsl : eO D1.blk k s := by
    have := hE.up.2.2.2
    rw [this]
    have e : (([gI ws 3, [.flush], [.write 2 (gY (k + 1) ws)], [.flush], eL ws ++ fR (k + 1) s] : List (List cE)).take 4).flatten = gI ws 3 ++ [.flush, .write 2 (gY (k + 1) ws), .flush] := by simp
    rw [e, lN]
    exact ((hs.parts.flush).write _ (aQ _)).flush
   refine ⟨j :: F1, fun b hb => ?_, ?_⟩
   ·rcases aJ.1 hb with rfl | hb
    ·exact .inl (by simp)
    exact hG1 b hb
   refine NV W' c0' c1' (Calls.mono (GJ W' hD1 hd0 (by simp [xP] at hw1; omega) hlk hjF1 hk hsl (hwW'.less (fun q hq => .inl (iZ _ hq))) hok fun x hx => by rw [hn1, ← hnD]; have := hhi x hx; omega) ?_) ⟨_, _, _, rfl⟩
   rintro r W2 ⟨e, D2, F2, rfl, q2, q3, q4, q5, q6⟩
   refine ⟨⟨e, rfl⟩, e, D2, F2, rfl, q2, q3, q5, q6, fun he => ?_, fun he => ?_⟩
   ·rw [aF he] at q4; rw [aF rfl]; exact q4
   rw [aE he] at q4; exact q4
 rintro r W2 ⟨e, D2, F2, q1, q2, q3, q4, q5, q6, q7⟩
 have e1 : ([gI ws 3, [.flush], [.write 2 (gY (k + 1) ws)], [.flush], eL ws ++ fR (k + 1) s] : List (List cE)).flatten = jK (k + 1) s ws := by simp [jK]
 rw [e1] at q2
 exact ⟨e, D2, F2, q1, q2, q3, q4, q5, fun he => q6 he, q7⟩
theorem NW (b : Bs) (h : (bU b).2.2.2 ≠ 0) : (bU b).2.1 = [] := by
 unfold bU at h ⊢
 split
 ·rfl
 rename_i h1
 rw [aE h1] at h
 dsimp only at h ⊢
 split
 ·rfl
 rename_i h2
 rw [aE h2] at h
 split
 ·rfl
 rename_i h3
 rw [aE h3] at h
 split
 ·rfl
 rename_i h4
 rw [aE h4] at h
 split
 ·rfl
 rename_i h5
 rw [aE h5] at h
 exact absurd rfl h
theorem CG (m : Nat) (ws : List Wr) : mG m ws = jW ++ (aN m ++ (aN ws.length ++ ((ws.flatMap fun x => aN x.1) ++ fD (jU (fD 0 ++ (ws.flatMap fun x => x.2) ++ rS m ws))))) := by
 simp [mG, rS, dS, eJ]
def GO (X : Bs) (k : Nat) : Prop := X = cH ∨ ∃ m ws, m < 2 ^ 64 ∧ m ≠ k + 1 ∧ gA ws ∧ X = gY m ws
def Al (w : World) (p : Nat) (D : aI) (F : List Nat) (R : World → Value → Prop) (r : Ending) (w' : World) : Prop :=
 ∃ (e : Nat) (D' : aI) (v : Value), r = .returned (.tuple #[v, .int .i64 e]) ∧ bV [] D e D' ∧ bN w' p D' F ∧ aB [p] w w' ∧ (e = 0 → R w' v) ∧ (e ≠ 0 → v = .slice none 0 0)
theorem NX (w : World) {p : Nat} {D : aI} {F : List Nat} (h : bN w p D F) (hwr : D.wr ≤ 137438953000) {j n k : Nat} {dead : Bool} (hl : bZ w j p n k dead) (hjF : j ∉ F) (hk : k < 2 ^ 61) (hX : GO (D.blk 2).view k) :
  Calls Tryz.prog 131 #[.pointer (some ⟨j, 0, none⟩)] w (Al w p D F fun _ v => v = .slice none 0 0) := by
 have HD := aA h
 have hbn := h.bounds
 have hjp : j ∉ [p] := fun q => hjF (by obtain rfl := aM.1 q; exact h.p_mem)
 have HRd := aA (xJ w h 2 (by omega) (by omega))
 have hvl : (D.blk 2).view.length = 512 := h.sized.view 2
 have HL := aA hl
 have c0 : w.cell? ⟨j, 0, none⟩ = some (.pointer (some ⟨p, 0, none⟩)) := aD hl 0
 have hcv := fun W : World => Go.Lib.run_convert_bytes_const W 23 5 #[.int .u8 99, .int .u8 97, .int .u8 114, .int .u8 116, .int .u8 117, .int .u8 108, .int .u8 97, .int .u8 114, .int .u8 121] 9 9 T8.und Tryz.underlying5
 clear h hl
 go_in
 go_wp2_with fail
 refine HRd.out.mono ?_
 rintro r w1 ⟨e, D1, v, rfl, hE, hD1, hU1, hv, hv'⟩
 have H1 := aA (aC hE (aC hD1 hU1))
 clear hE hD1 hU1 HRd c0
 by_cases he : e = 0
 ·subst he
  obtain ⟨hr1, hr2⟩ := (hv rfl).rd hvl
  obtain ⟨B, hv1, hB, -⟩ := hv rfl
  subst hv1
  have HF := aA (zN w1 hr1 (by omega))
  clear hv hv' hr1 hr2
  go_wp2_with fail
  refine HF.out.mono ?_
  rintro r w2 ⟨⟨v', rfl, hr, hn'⟩, hU2⟩
  have H2 := aA hU2
  obtain ⟨a', c', m', hm', hmc, hc63, rfl⟩ := hr.sliceM
  have HR := aA hr
  clear hU2 HF hr hn' hm'
  generalize hG : bU (D.blk 2).view = g at *
  have HG := aA hG
  clear hG
  obtain ⟨x, d, kk, e⟩ := g
  dsimp only at HR ⊢
  go_upto_region 5 with (fail)
  generalize hW3 : w2.alloc _ = w3
  have hu3 : aB [] w2 w3 := by rw [← hW3]; exact (aB.refl [] w2).alloc _
  have hX3 : w3.heap[w2.heap.size]? = some (.cells #[.int .u8 x.toNat, .slice a' m' c'] 25) := by rw [← hW3]; exact aX _ _
  have y1 : w3.cell? ⟨w2.heap.size, 1, none⟩ = some (.slice a' m' c') := aD hX3 1
  have y1' := fun X : Obj => eQ ((aB.refl [] w3).alloc X) y1
  have H3 := aA (H2.out.trans hu3)
  have HR3 := aA (HR.out.keep hu3)
  clear hW3 hX3 hu3
  have hcv3 := hcv w3
  have HMg : Hid (∀ X : Obj, X = .cells #[.int .u8 99, .int .u8 97, .int .u8 114, .int .u8 116, .int .u8 117, .int .u8 108, .int .u8 97, .int .u8 114, .int .u8 121] 5 (9, 10) → Rd (w3.alloc X) (.slice (some ⟨w3.heap.size, 0, none⟩) 9 9) jW) := aA fun X hX => by subst hX; exact tC (l := jW) (aX _ _) (by decide)
  go_wp2_with fail
  generalize hX4 : Obj.cells _ _ _ = X4
  have hmg4 := HMg.out X4 hX4.symm
  have hr4 := HR3.out.keep ((aB.refl [] w3).alloc X4)
  have H4 := aA (H3.out.alloc X4)
  generalize w3.alloc X4 = w4 at *
  clear hX4 y1' y1 hcv3 HMg
  have c2 : w4.cell? ⟨j, 2, none⟩ = some (.int .u64 k) := eH H4.out (by simp) (eH H1.out.2.2 hjp (aD HL.out 2))
  have hU4 : aB [p] w w4 := H1.out.2.2.trans (H4.out.mono (by simp))
  have HPo : Hid (Al w p D F (fun _ v => v = .slice none 0 0) (.returned (.tuple #[.slice none 0 0, .int .i64 (0 : Nat)])) w4) := aA ⟨0, D1, _, rfl, H1.out.1, H1.out.2.1.upd H4.out (by simp), hU4, fun _ => rfl, fun _ => rfl⟩
  rcases hX with hX | ⟨m, ws, hm64, hmk, hok, hX⟩
  ·have hg := HG.out
   rw [hX] at hg
   have h11 : e = 11 := by have := Ej; rw [show List.replicate 512 (0 : UInt8) = cH from rfl, hg] at this; exact this
   have hd : d = [] := by have := NW cH (by rw [hg]; dsimp only; omega); rw [hg] at this; exact this
   subst h11 hd
   clear hg hX
   refine (Fe w4 hr4 hmg4 (by simp [jW])).mono ?_
   rintro r w5 ⟨rfl, rfl⟩
   go_wp2_with fail
   go_ret2
   exact HPo.out
  have hg := HG.out
  obtain ⟨kk2, hgf⟩ := Es hm64 hok
  rw [hX, hgf] at hg
  simp only [Prod.mk.injEq] at hg
  obtain ⟨rfl, rfl, -, rfl⟩ := hg
  have hbl := CG m ws
  refine (zM w4 hr4 hmg4 (by rw [hbl]; exact yU _ _) (by rw [hbl]; simp [jW]; have := sQ m; omega)).mono ?_
  rintro r w5 ⟨v5, rfl, hr5, rfl, hb5⟩
  have hu5 := pC w5 hr5
  rw [hbl, show jW.length = jW.length from rfl, kV, pR hm64] at hu5
  dsimp only at hu5
  obtain ⟨a5, k5, m5, -, -, -, rfl⟩ := hr5.sliceM
  clear hbl hX hgf hr5 hb5 hr4 hmg4
  have hmk' : ¬ (m : Int) = (k : Int) + 1 := by omega
  have hwk : IntKind.u64.wrap ((k : Int) + 1) = (k : Int) + 1 := by rw [nU]; omega
  go_wp2_with fail
  refine hu5.mono ?_
  rintro r w6 ⟨rfl, rfl⟩
  go_wp2_with fail
  go_ret2
  exact HPo.out
 have he' : ¬ (e : Int) = 0 := by omega
 obtain rfl := hv' he
 go_wp2_with fail
 go_ret2
 exact ⟨e, D1, _, rfl, H1.out.1, H1.out.2.1, H1.out.2.2, fun q => absurd q he, fun _ => rfl⟩
theorem Rd.own_lt {w : World} {v : Value} {l : Bs} (h : Rd w v l) (hne : l ≠ []) : ∀ g, v.ownBlock = some g → g < w.heap.size := by
 intro g hg
 obtain ⟨a, c, rfl, -⟩ := h.slice
 obtain ⟨-, -, -, hc⟩ := h.cell
 have hl : 0 < l.length := oO.2 hne
 obtain ⟨b, off, rfl, hcell⟩ := hc hl
 cases hg
 exact CB (hcell 0 hl)
def lY (ws : List Wr) (tl : Bs) (i : Nat) : Bs := ((ws.drop i).flatMap fun x => aN x.1) ++ tl
theorem NY (tl : Bs) {ws : List Wr} {i : Nat} {y : Wr} (h : ws[i]? = some y) : lY ws tl i = aN y.1 ++ lY ws tl (i + 1) := by
 obtain ⟨hi, rfl⟩ := eX.1 h
 unfold lY
 rw [pP hi, jT, eJ]
structure qY (w : World) (base : Nat) (v : Value) (ws : List Wr) (L : List jM) : Prop where
 own : aK cW 168 2 w base v L
 at_ : ∀ (i : Nat) (x : jM), L[i]? = some x → ∃ y, ws[i]? = some y ∧ x.at_ = y.1 ∧ Rd w (.slice x.a x.n x.c) y.2 ∧ ∀ g, (Value.slice x.a x.n x.c).ownBlock = some g → base ≤ g ∧ g < w.heap.size ∧ v.ownBlock ≠ some g
theorem qY.upd {w w' : World} {base : Nat} {v : Value} {ws : List Wr} {L : List jM} (h : qY w base v ws L) {G : List Nat} (u : aB G w w') (hG : ∀ k ∈ G, k < base) : qY w' base v ws L := by
 refine ⟨h.own.upd u fun k hk q => by have := (h.own.block k q).1; have := hG k hk; omega, fun i x hx => ?_⟩
 obtain ⟨y, q1, q2, q3, q4⟩ := h.at_ i x hx
 refine ⟨y, q1, q2, q3.upd u (fun g hg q => by have := (q4 g hg).1; have := hG g q; omega), fun g hg => ?_⟩
 obtain ⟨a, b, c⟩ := q4 g hg
 exact ⟨a, dN b u.size, c⟩
theorem qY.wrs {w : World} {base : Nat} {v : Value} {ws : List Wr} {L : List jM} (h : qY w base v ws L) (hl : L.length = ws.length) {G : List Nat} (hG : ∀ k ∈ G, k < base) (hok : gA ws) : eR w G v ws := by
 refine ⟨⟨L, aK.rd TW h.own, hl, fun i x y hx hy => ?_⟩, fun g hg => ?_, hok.len, by have := hok.many; omega⟩
 ·obtain ⟨y', q1, q2, q3, q4⟩ := h.at_ i x hx
  rw [hy] at q1
  cases q1
  exact ⟨q2, q3, fun g hg => ⟨fun q => by have := hG g q; have := (q4 g hg).1; omega, (q4 g hg).2.1⟩⟩
 have := h.own.block g hg
 exact ⟨fun q => by have := hG g q; omega, this.2⟩
theorem tI {w w' : World} {row : Option Nat} (h : w.grownBy w' row) : aB row.toList w w' := ⟨h.os, h.output, h.size, fun k hk hn => h.block k hk (fun q => hn (by simp [q]))⟩
theorem qY.push {w W w11 : World} {base : Nat} {v v' : Value} {ws : List Wr} {L : List jM} (h : qY w base v ws L) {p : Nat} (u : aB [p] w W) (hp : p < base) {x : jM} {y : Wr} (hy : ws[L.length]? = some y) (hx1 : x.at_ = y.1) (hx2 : Rd W (.slice x.a x.n x.c) y.2) (hx3 : ∀ g, (Value.slice x.a x.n x.c).ownBlock = some g → w.heap.size ≤ g ∧ g < W.heap.size) (hbw : base ≤ w.heap.size)
  (ho : aK cW 168 2 w11 base v' (L ++ [x])) (hg : W.grownBy w11 v.ownBlock) (hn : v'.ownBlock = v.ownBlock ∨ ∀ g, v'.ownBlock = some g → W.heap.size ≤ g) : qY w11 base v' ws (L ++ [x]) := by
 have h1 := h.upd u (by simp; omega)
 have hs := hg.size
 refine ⟨ho, fun i x' hx' => ?_⟩
 by_cases hi : i < L.length
 ·rw [kQ hi] at hx'
  obtain ⟨y', q1, q2, q3, q4⟩ := h1.at_ i x' hx'
  refine ⟨y', q1, q2, q3.upd (tI hg) (fun g hg2 q => (q4 g hg2).2.2 (by simpa using q)), fun g hg2 => ?_⟩
  obtain ⟨a, b, c⟩ := q4 g hg2
  refine ⟨a, by omega, fun q => ?_⟩
  rcases hn with e | e
  ·exact c (e ▸ q)
  have := e g q; omega
 have hl := (eX.1 hx').1
 simp at hl
 obtain rfl : i = L.length := by omega
 rw [oN (by omega)] at hx'
 simp at hx'
 subst hx'
 refine ⟨y, hy, hx1, hx2.upd (tI hg) (fun g hg2 q => ?_), fun g hg2 => ?_⟩
 ·have e : v.ownBlock = some g := by simpa using q
  have := (h.own.block g e).2
  have := hx3 g hg2
  omega
 have h3 := hx3 g hg2
 refine ⟨by omega, by omega, fun q => ?_⟩
 rcases hn with e | e
 ·have := (h.own.block g (e ▸ q)).2; omega
 have := e g q; omega
theorem NZ (w : World) {p : Nat} {D : aI} {F : List Nat} (h : bN w p D F) (hwr : D.wr ≤ 137438953000) {j n k : Nat} {dead : Bool} (hl : bZ w j p n k dead) (hjF : j ∉ F) (hk : k < 2 ^ 61) {ws : List Wr} (hok : gA ws) (hX : (D.blk 2).view = gY (k + 1) ws) (hparts : ∀ (i : Nat) (y : Wr), ws[i]? = some y → (D.blk (3 + i)).view = y.2) (hm0 : 0 < 1) :
  Calls Tryz.prog 131 #[.pointer (some ⟨j, 0, none⟩)] w (Al w p D F fun w' v => eR w' F v ws ∧ ∃ g c, v = .slice (some g) ws.length c) := by
 have HD := aA h
 have hbn := h.bounds
 have hjp : j ∉ [p] := fun q => hjF (by obtain rfl := aM.1 q; exact h.p_mem)
 have HRd := aA (xJ w h 2 (by omega) (by omega))
 have hvl : (D.blk 2).view.length = 512 := h.sized.view 2
 have HL := aA hl
 have c0 : w.cell? ⟨j, 0, none⟩ = some (.pointer (some ⟨p, 0, none⟩)) := aD hl 0
 have hcv := fun W : World => Go.Lib.run_convert_bytes_const W 23 5 #[.int .u8 99, .int .u8 97, .int .u8 114, .int .u8 116, .int .u8 117, .int .u8 108, .int .u8 97, .int .u8 114, .int .u8 121] 9 9 T8.und Tryz.underlying5
 clear h hl
 go_in
 go_wp2_with fail
 refine HRd.out.mono ?_
 rintro r w1 ⟨e, D1, v, rfl, hE, hD1, hU1, hv, hv'⟩
 have H1 := aA (aC hE (aC hD1 hU1))
 clear hE hD1 hU1 HRd c0
 by_cases he : e = 0
 ·subst he
  obtain ⟨hr1, hr2⟩ := (hv rfl).rd hvl
  obtain ⟨B, hv1, hB, -⟩ := hv rfl
  subst hv1
  have HF := aA (zN w1 hr1 (by omega))
  have HB1 := aA hr1
  clear hv hv' hr1 hr2
  go_wp2_with fail
  refine HF.out.mono ?_
  rintro r w2 ⟨⟨v', rfl, hr, hn'⟩, hU2⟩
  have H2 := aA hU2
  obtain ⟨a', c', m', hm', hmc, hc63, rfl⟩ := hr.sliceM
  have HR := aA hr
  have HN := aA hn'
  clear hU2 HF hr hn' hm'
  generalize hG : bU (D.blk 2).view = g at *
  have HG := aA hG
  clear hG
  obtain ⟨x, d, kk, e⟩ := g
  dsimp only at HR ⊢
  go_upto_region 5 with (fail)
  generalize hW3 : w2.alloc _ = w3
  have hu3 : aB [] w2 w3 := by rw [← hW3]; exact (aB.refl [] w2).alloc _
  have hX3 : w3.heap[w2.heap.size]? = some (.cells #[.int .u8 x.toNat, .slice a' m' c'] 25) := by rw [← hW3]; exact aX _ _
  have y1 : w3.cell? ⟨w2.heap.size, 1, none⟩ = some (.slice a' m' c') := aD hX3 1
  have y1' := fun X : Obj => eQ ((aB.refl [] w3).alloc X) y1
  have H3 := aA (H2.out.trans hu3)
  have HR3 := aA (HR.out.keep hu3)
  clear hW3 hX3 hu3
  have hcv3 := hcv w3
  have HMg : Hid (∀ X : Obj, X = .cells #[.int .u8 99, .int .u8 97, .int .u8 114, .int .u8 116, .int .u8 117, .int .u8 108, .int .u8 97, .int .u8 114, .int .u8 121] 5 (9, 10) → Rd (w3.alloc X) (.slice (some ⟨w3.heap.size, 0, none⟩) 9 9) jW) := aA fun X hX => by subst hX; exact tC (l := jW) (aX _ _) (by decide)
  go_wp2_with fail
  generalize hX4 : Obj.cells _ _ _ = X4
  have HW34 : w3.heap.size ≤ (w3.alloc X4).heap.size := by simp
  have hmg4 := HMg.out X4 hX4.symm
  have hr4 := HR3.out.keep ((aB.refl [] w3).alloc X4)
  have H4 := aA (H3.out.alloc X4)
  generalize w3.alloc X4 = w4 at *
  clear hX4 y1' y1 hcv3 HMg
  have c2 : w4.cell? ⟨j, 2, none⟩ = some (.int .u64 k) := eH H4.out (by simp) (eH H1.out.2.2 hjp (aD HL.out 2))
  have hU4 : aB [p] w w4 := H1.out.2.2.trans (H4.out.mono (by simp))
  have hbl := CG (k + 1) ws
  obtain ⟨kk2, hgf⟩ := Es (n := k + 1) (w := ws) (by omega) hok
  have hg := HG.out
  rw [hX, hgf] at hg
  simp only [Prod.mk.injEq] at hg
  obtain ⟨rfl, rfl, -, rfl⟩ := hg
  refine (zM w4 hr4 hmg4 (by rw [hbl]; exact yU _ _) (by rw [hbl]; simp [jW]; have := sQ (k + 1); omega)).mono ?_
  rintro r w5 ⟨v5, rfl, hr5, rfl, hb5⟩
  rw [hbl, kV] at hr5
  have hu5 := pC w5 hr5
  rw [pR (by omega)] at hu5
  dsimp only at hu5
  obtain ⟨tl, htl⟩ : ∃ tl, tl = fD (jU (fD 0 ++ (ws.flatMap fun x => x.2) ++ rS (k + 1) ws)) := ⟨_, rfl⟩
  have hr0 : ((ws.flatMap fun x => aN x.1) ++ tl) = lY ws tl 0 := rfl
  rw [← htl, hr0] at hr5
  obtain ⟨a5, k5, m5, -, -, -, rfl⟩ := hr5.sliceM
  clear hbl hgf hr4 hmg4
  have e1 : ((k + 1 : Nat) : Int) = (k : Int) + 1 := by omega
  rewrite [e1] at hu5
  have hwk : IntKind.u64.wrap ((k : Int) + 1) = (k : Int) + 1 := by rw [nU]; omega
  have hl1 : (aN (k + 1)).length ≤ (aN (k + 1) ++ (aN ws.length ++ lY ws tl 0)).length := by simp
  have hpl := gX (n := k + 1) (by omega)
  go_wp2_with fail
  refine hu5.mono ?_
  rintro r w6 ⟨rfl, rfl⟩
  clear hu5
  generalize hpk : (aN (k + 1)).length = pk at *
  have hd0 : (aN (k + 1) ++ (aN ws.length ++ lY ws tl 0)).drop pk = aN ws.length ++ lY ws tl 0 := by rw [← hpk, kV]
  have hm16 := hok.many
  have hpw1 : (aN ws.length).length ≤ 1 := mE 0 _ (by omega)
  have hpw2 := sQ ws.length
  have hd1 : (aN (k + 1) ++ (aN ws.length ++ lY ws tl 0)).drop (pk + (aN ws.length).length) = lY ws tl 0 := by rw [← rN, hd0, kV]
  have hl2 : pk + (aN ws.length).length ≤ (aN (k + 1) ++ (aN ws.length ++ lY ws tl 0)).length := by rw [bD, bD, hpk]; omega
  generalize hpw : (aN ws.length).length = pw at *
  have HR5 := aA hr5
  have HD1 := aA hd1
  clear hr5 hpk hd1
  go_wp2_with (first
   | (refine sZ rfl _ _ rfl HR5.out hl1 rfl rfl ?_; intro a7 c7 m7 hm7 hr7 hb7; rw [hd0] at hr7; have HR7 := aA hr7; clear hm7 hr7 hb7)
   | fail)
  have hu7 := pC w6 HR7.out
  rw [pR (by omega), hpw] at hu7
  dsimp only at hu7
  clear hd0 hpw hl1
  refine hu7.mono ?_
  rintro r w7 ⟨rfl, rfl⟩
  clear hu7
  go_wp2_with (first
   | (refine sZ rfl _ _ rfl HR5.out hl2 rfl (by first | rfl | (simp; done)) ?_; intro a8 c8 m8 hm8 hr8 hb8; rw [HD1.out] at hr8; have HR8 := aA hr8; have HB8 := aA hb8; clear hm8 hr8 hb8)
   | fail)
  have hX8 := aX w7 (.cells #[] 168)
  have hu8 : aB [] w7 (w7.alloc (.cells #[] 168)) := (aB.refl [] w7).alloc _
  have hsz8 : w7.heap.size < (w7.alloc (.cells #[] 168)).heap.size := by simp
  have HG0 : Hid (qY (w7.alloc (.cells #[] 168)) w.heap.size (.slice (some ⟨w7.heap.size, 0, none⟩) 0 0) ws []) := aA ⟨aK.empty TW hX8 hU4.size, fun i x hx => by simp at hx⟩
  generalize w7.alloc (.cells #[] 168) = w8 at *
  have HU8 := aA (H4.out.trans hu8)
  have hs17 := H4.out.size
  have HR9 := aA (HR8.out.keep hu8)
  have hs1 := H1.out.2.2.size
  have HB9 : Hid (∀ g, (Value.slice a8 m8 c8).ownBlock = some g → w.heap.size ≤ g ∧ g ≠ w7.heap.size) := aA fun g hg => by
   have h1 := HB8.out g hg
   rw [hb5] at h1
   have h2 := HN.out g h1
   have h3 := HR3.out.own_lt (by rw [CG]; simp [jW]) g h1
   have h4 := HW34
   omega
  have HE8 : Hid (bV [] D 0 D1 ∧ bN w8 p D1 F ∧ aB [p] w w8) := aA ⟨H1.out.1, H1.out.2.1.upd HU8.out (by simp), hU4.trans (hu8.mono (by simp))⟩
  have HS : Hid (∀ i, i < ws.length → ∃ y, ws[i]? = some y) := aA fun i h => ⟨_, bL h⟩
  have HOK := aA hok
  have HX := aA hX
  have HPt := aA hparts
  generalize hL : ws.length = L at *
  have HLen := aA hL
  clear hX8 hu8 H4 c2 hU4 HR7 HR8 HB8 hr0 hok hX hparts hL hcv
  go_loopg [8, 15, 87] L (fun gh v8 v15 v87 wr => ∃ (i : Nat) (b8 : Option Addr) (n8 d8 : Nat) (b15 : Addr) (d15 : Nat) (Lw : List jM) (D2 : aI), v8 = .slice b8 n8 d8 ∧ v15 = .slice (some b15) i d15 ∧ v87 = .int .i64 i ∧ i ≤ L ∧ gh = L - i ∧
   Hid (Rd wr (.slice b8 n8 d8) (lY ws tl i) ∧ (∀ g, (Value.slice b8 n8 d8).ownBlock = some g → w.heap.size ≤ g ∧ (Value.slice (some b15) i d15).ownBlock ≠ some g) ∧ qY wr w.heap.size (.slice (some b15) i d15) ws Lw ∧ Lw.length = i ∧ bV [] D 0 D2 ∧ bN wr p D2 F ∧ aB [p] w wr ∧ Rd wr (.slice (some ⟨B, 0, none⟩) 512 512) (D.blk 2).view ∧ (Value.slice (some b15) i d15).ownBlock ≠ some B))
  case atStart =>
   exact ⟨0, a8, _, _, _, _, [], D1, rfl, rfl, rfl, by omega, rfl, aA ⟨HR9.out, fun g hg => ⟨(HB9.out g hg).1, fun q => (HB9.out g hg).2 (by simp only [Value.ownBlock, fY] at q; exact q.symm)⟩, HG0.out, rfl, HE8.out.1, HE8.out.2.1, HE8.out.2.2, HB1.out.keep HU8.out, fun q => by
    have h1 := HB1.out.own_lt (by intro q2; rw [q2] at hvl; simp at hvl) B rfl
    have h2 := hs17
    simp only [Value.ownBlock, fY] at q
    omega⟩⟩
  case round =>
   obtain ⟨i, b8, n8, d8, b15, d15, Lw, D2, rfl, rfl, rfl, hi, rfl, H5⟩ := hrel
   by_cases hil : i < L
   ·have hlt : (i : Int) < (L : Int) := by omega
    obtain ⟨y, hy⟩ := HS.out i hil
    have hyat := HOK.out.at_ y (fC hy)
    have hyl := HOK.out.len y (fC hy)
    have hstep := NY tl hy
    have hu := pC wr H5.out.1
    rw [hstep, pR (by omega)] at hu
    dsimp only at hu
    have hr5 := H5.out.1
    rw [hstep] at hr5
    have hpd : (aN y.1 ++ lY ws tl (i + 1)).drop (aN y.1).length = lY ws tl (i + 1) := kV ..
    have hpl : (aN y.1).length ≤ (aN y.1 ++ lY ws tl (i + 1)).length := by simp
    have hpl2 := gX (n := y.1) (by omega)
    generalize (aN y.1).length = py at *
    have hprt := HPt.out i y hy
    have HY := aA hy
    have HRi := aA hr5
    clear hstep hr5 hy
    go_wp2_with fail
    refine hu.mono ?_
    rintro r w9 ⟨rfl, rfl⟩
    clear hu
    have hjw : w9.cell? ⟨j, 0, none⟩ = some (.pointer (some ⟨p, 0, none⟩)) := eH H5.out.2.2.2.2.2.2.1 hjp (aD HL.out 0)
    go_wp2_with (first
     | (refine sZ rfl _ _ rfl HRi.out hpl rfl rfl ?_; intro a10 c10 m10 hm10 hr10 hb10; rw [hpd] at hr10; have HR10 := aA hr10; have HB10 := aA hb10; clear hm10 hr10 hb10)
     | fail)
    have hE2 := H5.out.2.2.2.2.1
    have hn2 := hE2.n
    have hw2 := hE2.wr
    have hd2 := hE2.up.2.1
    have hb2 : D2.blk = D.blk := hE2.up.2.2.2
    have HRk := aA (xJ w9 H5.out.2.2.2.2.2.1 (3 + i) (by omega) (by simp at hw2; omega))
    have e3 : ((3 + i : Nat) : Int) = 3 + (i : Int) := by omega
    rewrite [e3] at HRk
    have hvy : (D2.blk (3 + i)).view = y.2 := by rw [hb2]; exact hprt
    have HVY := aA hvy
    clear hE2 hn2 hw2 hd2 hb2 hjw e3 hprt hvy
    refine HRk.out.mono ?_
    rintro r w10 ⟨e10, D3, v10, rfl, hE3, hD3, hU3, hv3, hv3'⟩
    have H10 := aA (aC (bV.next H5.out.2.2.2.2.1 hE3) (aC hD3 (aC (H5.out.2.2.2.2.2.2.1.trans hU3) hU3)))
    clear hE3 hD3 hU3 HRk
    by_cases he10 : e10 = 0
    ·subst he10
     obtain ⟨hr11, hn11⟩ := (hv3 rfl).rd (by rw [HVY.out]; exact hyl)
     rw [HVY.out] at hr11
     obtain ⟨B10, hvB, hB10, -⟩ := hv3 rfl
     subst hvB
     have HR11 := aA hr11
     clear hv3 hv3' hr11 hn11
     have hlt10 : B10 < w10.heap.size := HR11.out.own_lt (by intro q; rw [q] at hyl; simp at hyl) B10 rfl
     have hyat' : y.1 ≤ 511 := by omega
     have hLl : Lw.length = i := H5.out.2.2.2.1
     have HLl := aA hLl
     have hgot := H5.out.2.2.1
     have hpb : p < w.heap.size := HD.out.lt p HD.out.p_mem
     have hsw := H5.out.2.2.2.2.2.2.1.size
     have hs910 := H10.out.2.2.2.size
     have hi16 : i ≤ 15 := by omega
     have HO10 : Hid (∀ X : Obj, aK cW 168 2 (w10.alloc X) w.heap.size (.slice (some b15) i d15) Lw) := aA fun X => (hgot.upd (G := [p]) (H10.out.2.2.2.alloc X) (by simp; omega)).own
     clear hLl hgot
     obtain ⟨ya, yb⟩ := y
     dsimp only at *
     go_wp2_with (first
      | (at_builtin; refine fS TW rfl _ _ rfl (base := w.heap.size) (l := Lw) (r := [⟨ya, some ⟨B10, 0, none⟩, 512, 512⟩]) rfl (HO10.out _) rfl (iS TW (ty := 168) (aX _ _)) (BP _) ?c1 ?c2 ?c3 ?_)
      | fail)
     case c1 => simp [HLl.out]; omega
     case c2 => simp [HLl.out]; omega
     case c3 => simp; omega
     intro v15 w11 ho11 hg11 hn11
     have HG11 := aA (H5.out.2.2.1.push (H10.out.2.2.2.alloc _) hpb (by rw [HLl.out]; exact HY.out) rfl (HR11.out.keep ((aB.refl [] w10).alloc _)) (fun g hg => by cases hg; exact ⟨hB10, by simp; omega⟩) hsw ho11 hg11 (hn11.imp id fun q g hg => by have := q g hg; simp; omega))
     have hub : aB ((Value.slice (some b15) i d15).ownBlock.toList) w10 w11 := (aB.refl _ _).trans (by
      have := tI hg11
      exact ⟨this.os, this.output, bG (by simp) this.size, fun k hk hn => by rw [this.block k (by simp; omega) hn, heap_alloc, aE (by omega)]⟩)
     have hob := H5.out.2.2.1.own.block
     have hub2 : aB [p] w w11 := H10.out.2.2.1.next hub (fun g hg hlt => by
      have e : (Value.slice (some b15) i d15).ownBlock = some g := by simpa using hg
      have := (hob g e).1; omega)
     have hFn : ∀ g ∈ F, g ∉ (Value.slice (some b15) i d15).ownBlock.toList := fun g hg q => by
      have e : (Value.slice (some b15) i d15).ownBlock = some g := by simpa using q
      have := (hob g e).1
      have := HD.out.lt g hg
      omega
     have hrd : ∀ {v : Value} {l : Bs}, Rd w9 v l → l ≠ [] → (∀ g, v.ownBlock = some g → w.heap.size ≤ g ∧ (Value.slice (some b15) i d15).ownBlock ≠ some g) → Rd w11 v l ∧ ∀ g, v.ownBlock = some g → w.heap.size ≤ g ∧ v15.ownBlock ≠ some g := fun {v l} hr hl hv => by
      refine ⟨(hr.upd H10.out.2.2.2 (fun g hg q => by have := (hv g hg).1; obtain rfl := aM.1 q; omega)).upd hub (fun g hg q => (hv g hg).2 (by simpa using q)), fun g hg => ⟨(hv g hg).1, fun q => ?_⟩⟩
      have h9 := hr.own_lt hl g hg
      rcases hn11 with e | e
      ·exact (hv g hg).2 (e ▸ q)
      have := e g q; omega
     have hn8 : lY ws tl (i + 1) ≠ [] := by rw [htl]; simp [lY, fD]
     have hvne : (D.blk 2).view ≠ [] := by intro q; rw [q] at hvl; simp at hvl
     have q8 := hrd HR10.out hn8 (fun g hg => H5.out.2.1 g (HB10.out g hg))
     have q2 := hrd H5.out.2.2.2.2.2.2.2.1 hvne (fun g hg => by cases hg; exact ⟨hB, H5.out.2.2.2.2.2.2.2.2⟩)
     have HF11 : Hid (bN w11 p D3 F) := aA (H10.out.2.1.upd hub hFn)
     obtain ⟨g15, d15', hv15, hg15, hg15'⟩ := ho11.headG (by simp)
     rw [bD, HLl.out] at hv15
     subst hv15
     have e1i : i + [(⟨ya, some ⟨B10, 0, none⟩, 512, 512⟩ : jM)].length = i + 1 := rfl
     rw [e1i] at *
     have HREL := aA (aC q8.1 (aC q8.2 (aC HG11.out (aC (show (Lw ++ [(⟨ya, some ⟨B10, 0, none⟩, 512, 512⟩ : jM)]).length = i + 1 by rw [bD, HLl.out]; rfl) (aC H10.out.1 (aC HF11.out (aC hub2 (aC q2.1 (q2.2 B rfl).2))))))))
     clear q8 q2 hrd hub hub2 ho11 hg11 hn11 hn8 hvne hob hFn HG11 HF11
     go_wp2_with fail
     go_roundg (L - (i + 1))
     case rel => exact ⟨i + 1, a10, _, _, _, _, _, D3, rfl, rfl, by go_num, by omega, rfl, HREL⟩
     case measure => omega
    have he10' : ¬ (e10 : Int) = 0 := by omega
    go_wp2_with fail
    go_ret2
    exact ⟨e10, D3, _, rfl, H10.out.1, H10.out.2.1, H10.out.2.2.1, fun q => absurd q he10, fun _ => rfl⟩
   have hlt : ¬ (i : Int) < (L : Int) := by omega
   obtain rfl : i = L := by omega
   have hFw := HD.out.lt
   have hwrs := H5.out.2.2.1.wrs (by rw [H5.out.2.2.2.1, HLen.out]) (G := F) hFw HOK.out
   have HHd := aA (GF wr (k + 1) (by omega) hwrs HOK.out)
   rewrite [e1] at HHd
   have HWRS := aA hwrs
   clear hwrs hFw
   go_wp2_with fail
   refine HHd.out.mono ?_
   rintro r w12 ⟨v12, rfl, ho12, hu12⟩
   have HEq := aA (xC w12 (Ow.rd ho12) (H5.out.2.2.2.2.2.2.2.1.keep hu12))
   rw [HX.out] at HEq
   have hdt : decide (gY (k + 1) ws = gY (k + 1) ws) = true := by simp
   rw [hdt] at HEq
   have H12 := aA hu12
   obtain ⟨a12, c12, m12, -, rfl⟩ := ho12.sliceM
   clear ho12 hu12 hdt HHd
   go_wp2_with fail
   refine HEq.out.mono ?_
   rintro r w13 ⟨rfl, rfl⟩
   go_wp2_with fail
   go_ret2
   refine ⟨0, D2, _, rfl, H5.out.2.2.2.2.1, H5.out.2.2.2.2.2.1.upd H12.out (by simp), H5.out.2.2.2.2.2.2.1.trans (H12.out.mono (by simp)), fun _ => ⟨HWRS.out.upd (H12.out.mono (by simp)) (fun q hq => .inl hq), b15, d15, by rw [HLen.out]; rfl⟩, fun q => absurd rfl q⟩
 have he' : ¬ (e : Int) = 0 := by omega
 obtain rfl := hv' he
 go_wp2_with fail
 go_ret2
 exact ⟨e, D1, _, rfl, H1.out.1, H1.out.2.1, H1.out.2.2, fun q => absurd q he, fun _ => rfl⟩
end Go.Proofs.YtgpefiacbipfpaaGreatDoor
