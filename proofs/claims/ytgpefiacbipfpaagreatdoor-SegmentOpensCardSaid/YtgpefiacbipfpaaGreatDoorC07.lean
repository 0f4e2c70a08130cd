/- The device's Crash. -/
import Derived.Lib.AppendZerosOnto
import Derived.Test.YtgpefiacbipfpaaGreatDoorC06
set_option maxRecDepth 100000
set_option maxHeartbeats 4000000
namespace Go.Proofs.YtgpefiacbipfpaaGreatDoor
open Go.RowKit Go.Maps
def cZ (x : Int) : List Value := [.int .i64 x]
abbrev Cb (w : World) (base : Nat) (v : Value) (l : List Int) : Prop := aK cZ 3 1 w base v l
abbrev uJ (w : World) (v : Value) (l : List Int) : Prop := eA cZ 1 w v l
theorem FE (l : List Int) : aP cZ l = l.map fun x => Value.int .i64 x := by
 induction l with
 | nil => rfl
 | cons x l ih => rw [dR, ← ih]; rfl
theorem Mb (l : List Int) (i : Nat) (hi : i < l.length) : (aP cZ l)[i]? = some (.int .i64 l[i]) := by
 rw [FE, lL, bL hi]
 rfl
theorem aK.cellZ {w : World} {base : Nat} {v : Value} {l : List Int} (h : Cb w base v l) : ∃ a c, v = .slice a l.length c ∧ ∀ i (hi : i < l.length), ∃ g, a = some ⟨g, 0, none⟩ ∧ base ≤ g ∧ g < w.heap.size ∧ w.cell? ⟨g, i, none⟩ = some (.int .i64 l[i]) := by
 obtain ⟨h0, h2⟩ := h
 rcases h2 with ⟨rfl, hn⟩ | ⟨g, cap, cur, rfl, hg, hh, r1, r2, r3, r4⟩
 ·exact ⟨none, 0, by rw [hn], fun i hi => by omega⟩
 refine ⟨_, _, rfl, fun i hi => ⟨g, rfl, hg, aH hh, ?_⟩⟩
 rw [aD hh]
 have := Mb l i hi
 rw [← r4, wL] at this
 split at this
 ·simpa using this
 cases this
theorem eA.cellZ {w : World} {v : Value} {l : List Int} (h : uJ w v l) : ∃ a c, v = .slice a l.length c ∧ ∀ i (hi : i < l.length), ∃ b o, a = some ⟨b, o, none⟩ ∧ w.cell? ⟨b, o + i, none⟩ = some (.int .i64 l[i]) := by
 obtain ⟨⟨a, c, rfl, h1, h2, h3⟩, -⟩ := h
 refine ⟨a, c, rfl, fun i hi => ?_⟩
 obtain ⟨b, o, rfl, hc⟩ := h3 i hi
 refine ⟨b, o, rfl, ?_⟩
 have := hc 0 (.int .i64 l[i]) rfl
 simpa using this
theorem aK.rowK {w : World} {base : Nat} {v : Value} {l : List Bs} (h : aK cK 121 512 w base v l) (hl : l ≠ []) : ∃ g c, v = .slice (some ⟨g, 0, none⟩) l.length c ∧ ∀ i (hi : i < l.length), w.rangeAt g (i * 512) (cK l[i]) := by
 have hpos := oO.2 hl
 obtain ⟨h0, h2⟩ := h
 rcases h2 with ⟨rfl, hn⟩ | ⟨g, cap, cur, rfl, hg, hh, r1, r2, r3, r4⟩
 ·omega
 exact ⟨g, cap, rfl, fun i hi => BX (X := cur.toList) (l := l) (m := l.length * 512) (by simpa using hh) r4 i hi⟩
theorem gK.len {w : World} {p : Nat} {D : aI} {sb mb : Nat} {L : List (Nat × Value)} {ops : Int} (h : gK w p D sb mb L ops) : L.length ≤ D.n := by
 have h1 : (L.map (·.1)).Nodup := by
  have := h.srt
  unfold cP at this
  rw [List.nodup_iff_pairwise_ne, wP]
  exact this.imp fun h => sX.ne h
 have h2 := BF h1 (n := D.n) fun x hx => by
  obtain ⟨y, hy, rfl⟩ := cV.1 hx
  exact (h.row y hy).2.2
 rwa [dF] at h2
def FF (w : World) (l : List Int) (r : Ending) (w' : World) : Prop := ∃ v, r = .returned v ∧ Cb w' w.heap.size v l ∧ aB [] w w'
def mK (L : List (Nat × Value)) : List Int := L.map fun x => (x.1 : Int)
def aI.after (D : aI) (S : List Bs) : aI := ⟨D.n, fun i => ⟨S[i]?.getD (D.blk i).safe, []⟩, -1, false, 0⟩
theorem FG {D : aI} {S : List Bs} (hS : ∀ j (hj : j < S.length), S[j] ∈ (D.blk j).poss) : vG D (D.after S) := by
 refine ⟨rfl, rfl, rfl, fun i => rfl, fun i => ?_⟩
 show S[i]?.getD (D.blk i).safe ∈ _
 rcases kP i S.length with h | h
 ·rw [bL h]; exact hS i h
 rw [gG h]; simp [aL.poss]
theorem gK.crashed {w w' : World} {p : Nat} {D : aI} {sb mb : Nat} {L : List (Nat × Value)} {ops : Int} (h : gK w p D sb mb L ops) {S : List Bs} (hl : S.length = D.n) (hS : ∀ j (hj : j < S.length), S[j] ∈ (D.blk j).poss)
  (hb : w'.heap[p]? = some (qP sb D.n mb (-1) false ops)) (hs : w'.heap[sb]? = some (.cells (aP cK S).toArray 121 (0, 0))) (hm : w'.ownsMap (H := Value) Tryz.prog 3 iN mb 0 (.map [])) :
  gK w' p (D.after S) sb mb [] ops := by
 have hnd := h.nodup
 simp only [dO, kC, aJ, not_or] at hnd
 obtain ⟨⟨a1, a2, -⟩, ⟨a4, -⟩, -⟩ := hnd
 have hsl : mI (D.after S) = S := by
  apply List.ext_getElem (by rw [zV, hl]; rfl)
  intro i h1 h2
  rw [BY]
  show S[i]?.getD (D.blk i).safe = _
  rw [bL h2]
  rfl
 refine ⟨hb, by rw [hsl]; exact hs, hm, DJ, by simp, fun i _ => rfl, ?_, h.n1, h.n2, Ba _, by simp [aI.after], (FG hS).sized h.sized, fun i => dH _⟩
 simp only [dO, kT, kC, aJ, cA, cG, not_or, not_false_eq_true, List.nodup_nil, and_true]
 exact ⟨⟨a1, a2⟩, a4⟩
def FH (w : World) (p : Nat) (D : aI) (F : List Nat) (r : Ending) (w' : World) : Prop := ∃ (D' : aI) (F' : List Nat), r = .returned (.tuple #[]) ∧ vG D D' ∧ D'.wr = 0 ∧ bN w' p D' F' ∧ aB F w w' ∧ ∀ k ∈ F', k ∈ F
theorem Mc (HPD : ∀ (w : World) (p : Nat) (D : aI) (sb mb : Nat) (L : List (Nat × Value)) (ops : Int), gK w p D sb mb L ops → Calls Tryz.prog 64 #[.pointer (some ⟨p, 0, none⟩)] w (FF w (mK L)))
  (w : World) {p : Nat} {D : aI} {F : List Nat} (h : bN w p D F) (hwr : D.wr ≤ 137438953472) {pv : Value} {picks : List Int} (hp : uJ w pv picks) (hpk : ∀ x ∈ picks, -9223372036854775808 ≤ x ∧ x ≤ 9223372036854775807) (hpF : picks ≠ [] → ∀ b, pv.ownBlock = some b → b ∉ F) :
  Calls Tryz.prog 22 #[.pointer (some ⟨p, 0, none⟩), pv] w (FH w p D F) := by
 obtain ⟨sb, mb, L, ops, h, rfl⟩ := h
 have HP := aA (HPD w p D sb mb L ops h)
 have HD := aA h
 have hn2 := h.n2
 have hLn := h.len
 obtain ⟨ap, cp, rfl, hcp⟩ := hp.cellZ
 have HCP := aA hcp
 have HPK := aA hpk
 clear h HPD hp hcp hpk
 go_in
 go_wp2_with fail
 refine HP.out.mono ?_
 rintro r w1 ⟨v, rfl, hv, hu1⟩
 have HR := aA (HD.out.upd hu1 (by simp))
 have HU1 := aA hu1
 obtain ⟨av, cv, rfl, hcv⟩ := hv.cellZ
 have hkl : (mK L).length = L.length := by simp [mK]
 have HCV := aA hcv
 rewrite [hkl]
 clear hu1 hv hcv
 go_wp2_with fail
 go_loopg [14] L.length (fun k v wr => ∃ (i : Nat) (S : List Bs), v = .int .i64 i ∧ i ≤ L.length ∧ k = L.length - i ∧ Hid (S.length = D.n ∧ wr.heap[sb]? = some (.cells (aP cK S).toArray 121 (0, 0)) ∧ ∀ j (hj : j < S.length), S[j] ∈ (D.blk j).poss) ∧ Hid (aB [sb] w1 wr))
 case atStart =>
  exact ⟨0, mI D, rfl, by omega, rfl, aA ⟨zV D, HR.out.safe, fun j hj => by rw [BY]; simp [aL.poss]⟩, aA (aB.refl _ _)⟩
 case round =>
  obtain ⟨i, S, rfl, hi, rfl, HS, HU⟩ := hrel
  have hfoot := HR.out.nodup
  simp only [dO, kC, aJ, not_or] at hfoot
  have hsb := aH HR.out.safe
  have c0' := aD HR.out.box 0
  have c1' := aD HR.out.box 1
  simp only [bA, bB, bS] at c0' c1'
  have c0 : wr.cell? ⟨p, 0, none⟩ = some (.slice (some ⟨sb, 0, none⟩) D.n D.n) := (iD (HU.out.block p (aH HR.out.box) (by simp; exact hfoot.1.1))).trans c0'
  have c1 : wr.cell? ⟨p, 1, none⟩ = some (.map (some mb)) := (iD (HU.out.block p (aH HR.out.box) (by simp; exact hfoot.1.1))).trans c1'
  by_cases hil : i < L.length
  ·have hlt : (i : Int) < (L.length : Int) := by omega
   obtain ⟨gv, rfl, hgv1, hgv2, hcell⟩ := HCV.out i (by rw [hkl]; exact hil)
   have hkey : (mK L)[i]'(by rw [hkl]; exact hil) = (L[i].1 : Int) := by simp [mK]
   rw [hkey] at hcell
   have hmem : L[i] ∈ L := fX hil
   have hgk := mW sX HR.out.srt hmem
   obtain ⟨hown, hne, hkn⟩ := HR.out.row _ hmem
   generalize hx : L[i] = x at *
   obtain ⟨n, u⟩ := x
   dsimp only at hown hne hkn hgk hcell
   obtain ⟨g, c, rfl, hrows⟩ := hown.rowK hne
   have hsb0 := aH HD.out.safe
   have hgb := (hown.block g rfl).2
   have hgsb : g ≠ sb := fun e => hfoot.2.1.2 (cV.2 ⟨(n, _), hmem, by simp [gE, Value.ownBlock, e]⟩)
   have cv1 : wr.cell? ⟨gv, i, none⟩ = some (.int .i64 n) := (iD (HU.out.block gv hgv2 (by simp; omega))).trans hcell
   have HL := aA (lS.look (mJ HR.out.map HU.out (by simp; exact fun e => hfoot.2.1.1 e.symm)) Tryz.underlying117 (z := .slice none 0 0) (by kernel_rfl) n (by omega))
   rewrite [hgk] at HL
   have hcap : (D.blk n).pend.length ≤ 137438953472 := bG (HD.out.cnt n) hwr
   have hpos : 0 < (D.blk n).pend.length := oO.2 hne
   have HROW : Hid (∀ i, i < (D.blk n).pend.length → ∃ lst, lst ∈ (D.blk n).pend ∧ wr.rangeAt g (i * 512) (cK lst)) := aA fun i hi => ⟨_, fX hi, xI (hrows i hi) (HU.out.block g hgb (by simp; exact hgsb))⟩
   have hu105 := Tryz.underlying121
   have l2 : (n : Int) < (D.n : Int) := by omega
   clear hrows hown hne
   generalize hpe : (D.blk n).pend = pe at *
   generalize hme : pe.length = m at *
   have hwm : IntKind.i64.wrap ((m : Int) + 1) = (m : Int) + 1 := fF _ (by omega)
   have HC : (¬ (i : Int) < (picks.length : Int)) ∨ (∃ (b o y : Nat) (x : Int), (i : Int) < (picks.length : Int) ∧ ap = some ⟨b, o, none⟩ ∧ wr.cell? ⟨b, o + i, none⟩ = some (.int .i64 x) ∧ y < 9223372036854775808 ∧ ((0 ≤ x ∧ x = (y : Int)) ∨ (x < 0 ∧ IntKind.i64.wrap (x + 1) = x + 1 ∧ IntKind.i64.wrap (-(x + 1)) = (y : Int)))) := by
    by_cases hj : i < picks.length
    ·obtain ⟨b, o, rfl, hc⟩ := HCP.out i hj
     have hbF := hpF (JY (by omega)) b rfl
     have hblt := kX _ _ hc
     have hc2 : wr.cell? ⟨b, o + i, none⟩ = some (.int .i64 picks[i]) := ((iD (HU.out.block b (dN hblt HU1.out.size) (by simp; intro e; exact hbF (by rw [e]; simp [dO])))).trans (iD (HU1.out.block b hblt (by simp)))).trans hc
     have hr := HPK.out _ (fX hj)
     rcases Int.lt_or_le picks[i] 0 with h | h
     ·exact .inr ⟨b, o, (-(picks[i] + 1)).toNat, _, by omega, rfl, hc2, by omega, .inr ⟨h, fF _ (by omega), by rw [fF _ (by omega)]; omega⟩⟩
     exact .inr ⟨b, o, picks[i].toNat, _, by omega, rfl, hc2, by omega, .inl ⟨h, by omega⟩⟩
    exact .inl (by omega)
   rcases HC with h | ⟨b, o, y, x, h1, rfl, hcx, hy, ⟨h2, rfl⟩ | ⟨h2, h3, h4⟩⟩
   ·go_wp2_with (first
     | (at_lookup; refine xH rfl _ _ 117 rfl rfl rfl HL.out ?_)
     | fail)
    go_roundg (L.length - (i + 1))
    case rel => exact ⟨i + 1, S, by go_num, by omega, rfl, HS, HU⟩
    case measure => omega
   all_goals
    obtain ⟨r, hr⟩ : ∃ r : Nat, r = y % (m + 1) := ⟨_, rfl⟩
    have hrm : r < m + 1 := by rw [hr]; exact mP _ (by omega)
    have hr1 : (y : Int) % ((m : Int) + 1) = (r : Int) := by rw [hr]; rfl
    have hr2 : (y : Int).tmod ((m : Int) + 1) = (r : Int) := by rw [IntWalk.rem_in _ _ (by omega)]; exact hr1
    clear hr
    rcases Bb r with hr0 | hr0
    ·subst hr0
     go_wp2_with (first
      | (at_lookup; refine xH rfl _ _ 117 rfl rfl rfl HL.out ?_)
      | fail)
     go_roundg (L.length - (i + 1))
     case rel => exact ⟨i + 1, S, by go_num, by omega, rfl, HS, HU⟩
     case measure => omega
    obtain ⟨r1, rfl⟩ : ∃ r1, r = r1 + 1 := ⟨r - 1, by omega⟩
    obtain ⟨lst, hlm, hrg3⟩ := HROW.out r1 (by omega)
    have hi105 : (Tryz.prog.info? 121).map (·.size) = some (cK lst).length := by rw [iU]; exact uI
    have hcK : 0 < (cK lst).length := by rw [iU]; omega
    have hu3 : aB [sb] wr (wr.drew.setRow sb (aP cK (S.set n lst)).toArray) := FD _ _ _
    have hw2 : IntKind.i64.wrap (r1 : Int) = (r1 : Int) := fF _ (by omega)
    have l4 : (r1 : Int) < (m : Int) := by omega
    go_wp2_with (first
     | (at_lookup; refine xH rfl _ _ 117 rfl rfl rfl HL.out ?_)
     | fail)
    refine wp_region_noPanic ?_
    refine wp_region_held_drew (S := fun w' => w'.cell? ⟨p, 0, none⟩ = some (.slice (some ⟨sb, 0, none⟩) D.n D.n) ∧ w'.rangeAt g (r1 * 512) (cK lst)) (by kernel_rfl) (qQ (aB.refl [] wr).drew (by simp) (by simp) hcK ⟨c0, hrg3⟩) (fun hHeld => ?_)
    refine wpAnyH_take (i := 0) (oi := ⟨some 45, _, _, _, _, _⟩) (v := .pointer (some ⟨p, 0, none⟩)) rfl (by kernel_rfl) (by kernel_rfl) (by kernel_rfl) (fun _ _ _ h => h) (Or.inl ⟨by rfl, by (intro W hSW; obtain ⟨hS1, hS2⟩ := hSW; go_simp)⟩) hHeld ?_
    simp only [Act.put, aW, aU, aT]
    refine wpAnyH_take (i := 1) (oi := ⟨some 46, _, _, _, _, _⟩) (v := .pointer (some ⟨p, 0, none⟩)) rfl (by kernel_rfl) (by kernel_rfl) (by kernel_rfl) (fun _ _ _ h => h) (Or.inl ⟨by rfl, by (intro W hSW; obtain ⟨hS1, hS2⟩ := hSW; go_simp)⟩) hHeld ?_
    simp only [Act.put, aW, aU, aT]
    refine wpAnyH_take (i := 2) (oi := ⟨some 47, _, _, _, _, _⟩) (v := .pointer (some ⟨p, 0, none⟩)) rfl (by kernel_rfl) (by kernel_rfl) (by kernel_rfl) (fun _ _ _ h => h) (Or.inl ⟨by rfl, by (intro W hSW; obtain ⟨hS1, hS2⟩ := hSW; go_simp)⟩) hHeld ?_
    simp only [Act.put, aW, aU, aT]
    refine wpAnyH_take (i := 3) (oi := ⟨some 48, _, _, _, _, _⟩) (v := .slice (some ⟨sb, 0, none⟩) D.n D.n) rfl (by kernel_rfl) (by kernel_rfl) (by kernel_rfl) (fun _ _ _ h => h) (Or.inl ⟨by rfl, by (intro W hSW; obtain ⟨hS1, hS2⟩ := hSW; go_simp)⟩) hHeld ?_
    simp only [Act.put, aW, aU, aT]
    refine wpAnyH_take (i := 4) (oi := ⟨some 49, _, _, _, _, _⟩) (v := .int .i64 n) rfl (by kernel_rfl) (by kernel_rfl) (by kernel_rfl) (fun _ _ _ h => h) (Or.inl ⟨by rfl, by (intro W hSW; obtain ⟨hS1, hS2⟩ := hSW; go_simp)⟩) hHeld ?_
    simp only [Act.put, aW, aU, aT]
    refine wpAnyH_take (i := 5) (oi := ⟨some 50, _, _, _, _, _⟩) (v := .slice (some ⟨g, 0, none⟩) m c) rfl (by kernel_rfl) (by kernel_rfl) (by kernel_rfl) (fun _ _ _ h => h) (Or.inl ⟨by rfl, by (intro W hSW; obtain ⟨hS1, hS2⟩ := hSW; go_simp)⟩) hHeld ?_
    simp only [Act.put, aW, aU, aT]
    refine wpAnyH_take (i := 6) (oi := ⟨some 51, _, _, _, _, _⟩) (v := .int .i64 ((r1 + 1 : Nat) : Int)) rfl (by kernel_rfl) (by kernel_rfl) (by kernel_rfl) (fun _ _ _ h => h) (Or.inl ⟨by rfl, by (intro W hSW; obtain ⟨hS1, hS2⟩ := hSW; go_simp)⟩) hHeld ?_
    simp only [Act.put, aW, aU, aT]
    refine wpAnyH_take (i := 7) (oi := ⟨some 52, _, _, _, _, _⟩) (v := .int .i64 r1) rfl (by kernel_rfl) (by kernel_rfl) (by kernel_rfl) (fun _ _ _ h => h) (Or.inl ⟨by rfl, by (intro W hSW; obtain ⟨hS1, hS2⟩ := hSW; go_simp)⟩) hHeld ?_
    simp only [Act.put, aW, aU, aT]
    refine wpAnyH_take (i := 8) (oi := ⟨some 53, _, _, _, _, _⟩) (v := .pointer (some ⟨g, r1 * 512, none⟩)) rfl (by kernel_rfl) (by kernel_rfl) (by kernel_rfl) (fun _ _ _ h => h) (Or.inl ⟨by rfl, by (intro W hSW; obtain ⟨hS1, hS2⟩ := hSW; go_simp)⟩) hHeld ?_
    simp only [Act.put, aW, aU, aT]
    refine' wpAnyH_take (i := 9) (oi := ⟨some 54, _, _, _, _, _⟩) (v := _) rfl (by kernel_rfl) (by kernel_rfl) (by kernel_rfl) (fun _ _ _ h => h) (yieldsIf_load_mid (by rfl) _ _ rfl g (r1 * 512) rfl (cK lst) _ (fun W hW => hW.2) hu105 rfl hi105) hHeld ?_
    simp only [Act.put, aW, aU, aT]
    refine wpAnyH_take (i := 10) (oi := ⟨some 55, _, _, _, _, _⟩) (v := .pointer (some ⟨sb, n * 512, none⟩)) rfl (by kernel_rfl) (by kernel_rfl) (by kernel_rfl) (fun _ _ _ h => h) (Or.inl ⟨by rfl, by (intro W hSW; obtain ⟨hS1, hS2⟩ := hSW; go_simp)⟩) hHeld ?_
    simp only [Act.put, aW, aU, aT]
    refine wpAnyH_ready (rs := [11]) (by kernel_rfl) (by simp) ?_
    refine AllReadyH.cons (o := ⟨none, _, _, _, _, _⟩) rfl (fun K hK => ?_) AllReadyH.nil
    refine FB (by rfl) _ _ (by rfl) (B := sb) (n := n) (l := S) (b := lst) (by rfl) (by rfl) HS.out.2.1 (by rw [HS.out.1]; exact hkn) ?_
    refine hK.out _ _ (qQ hu3 (by simp; exact hfoot.1.1) (by simp; exact hgsb) hcK ⟨c0, hrg3⟩) (fun _ => ?_)
    clear hK K
    refine wpAnyH_done (by kernel_rfl) ?_ _
    refine NoPanic.normal ?_
    simp only [Act.put]
    go_wp2_with fail
    go_roundg (L.length - (i + 1))
    case rel =>
     refine ⟨i + 1, S.set n lst, by go_num, by omega, rfl, aA ⟨by rw [tU]; exact HS.out.1, Bh _ _ _ _ _ _ HS.out.2.1, fun j hj => ?_⟩, aA (HU.out.trans hu3)⟩
     rw [List.getElem_set]
     split
     ·rename_i e; subst e; exact by rw [aL.poss, hpe]; exact iZ _ hlm
     exact HS.out.2.2 j (by simpa using hj)
    case measure => omega
  have hlt : ¬ (i : Int) < (L.length : Int) := by omega
  have hown := mJ HR.out.map HU.out (by simp; exact fun e => hfoot.2.1.1 e.symm)
  go_wp2_with (first
   | (refine Fz (o := ⟨none, _, _, _, _, _⟩) rfl _ 117 rfl Tryz.underlying117 rfl hown ?_; intro w3 hm3 hu3; have b3 : w3.heap[p]? = some (qP sb D.n mb D.fuse D.down ops) := (hu3.block p (dN (aH HR.out.box) HU.out.size) (by simp; exact hfoot.1.2.1)).trans ((HU.out.block p (aH HR.out.box) (by simp; exact hfoot.1.1)).trans HR.out.box); have d2 := aD b3 2; have d3 := aD b3 3; have f2 := aZ b3 2; have f3 := aZ b3 3; simp only [bA, bB, bS] at d2 d3; have B3 := aA b3; clear b3; have M3 := aA hm3; have U3 := aA hu3; clear hm3 hu3)
   | fail)
  go_end0
  have hU4 : aB [p] w3 ((w3.setCell ⟨p, 2, none⟩ (.int .i64 (-1))).setCell ⟨p, 3, none⟩ (.bool false)) := ((aB.refl _ _).setCell (by simp) _ _).setCell (by simp) _ _
  have hb4 := (sY ((sY B3.out).2.1 (-1))).1 false
  have hs3 := (U3.out.block sb (aH HS.out.2.1) (by simp; exact hfoot.2.1.1)).trans HS.out.2.1
  have hs4 := (hU4.block sb (aH hs3) (by simp; exact fun e => hfoot.1.1 e.symm)).trans hs3
  have hm4 := mJ M3.out hU4 (by simp; exact fun e => hfoot.1.2.1 e.symm)
  refine ⟨D.after S, _, rfl, FG HS.out.2.2, rfl, ⟨sb, mb, [], ops, HD.out.crashed HS.out.1 HS.out.2.2 hb4 hs4 hm4, rfl⟩, ?_, ?_⟩
  ·have q1 : aB (dO p sb mb L) w w1 := HU1.out.mono (by simp)
   have q2 : aB (dO p sb mb L) w1 wr := HU.out.mono fun k hk _ => by obtain rfl := aM.1 hk; simp [dO]
   have q3 : aB (dO p sb mb L) wr w3 := U3.out.mono fun k hk _ => by obtain rfl := aM.1 hk; simp [dO]
   have q4 := hU4.mono (G := dO p sb mb L) fun k hk _ => by obtain rfl := aM.1 hk; simp [dO]
   exact ((q1.trans q2).trans q3).trans q4
  intro k hk
  simp only [dO, kT, aJ, cA, cG] at hk ⊢
  rcases hk with rfl | rfl | rfl <;> simp
theorem Cc (k : Nat) : (Builtin.zeroCells (Value.int .u8 0).cells k).toList = aP c8 (List.replicate k 0) := by
 rw [uF, List.map_replicate]
 apply List.ext_getElem
 ·simp [Builtin.zeroCells]
  show k * 1 = k
  omega
 intro i h1 h2
 simp [Builtin.zeroCells, Value.cells]
 rw [Nat.mod_one]
 rfl
theorem Md {w : World} {base : Nat} {v : Value} {l : Bs} (hown : Ow w base v l) (h0 : l ≠ []) (k : Nat) (hk : l.length + k ≤ 1000000) (hbase : base ≤ w.heap.size) (ty : TypeId) :
  ∃ v' w', (Builtin.append_ #[23, 3] ty #[v, .int .i64 k]).run Tryz.prog w = .ok v' w' ∧ Ow w' base v' (l ++ List.replicate k 0) ∧ w.grownBy w' v.ownBlock ∧ (v'.ownBlock = v.ownBlock ∨ ∀ g, v'.ownBlock = some g → w.heap.size ≤ g) := by
 obtain ⟨i0, z, hi0, hz0, hz1, hz2, hz3⟩ := T8.info
 obtain ⟨i1, h1, h2, h3, h4⟩ := kD (show (Tryz.prog.info? 5).map (fun i => (i.zero, i.size, i.bytes)) = some (some (.int .u8 0), 1, 1) by kernel_rfl)
 rw [h1] at hi0
 cases hi0
 rw [h2] at hz0
 cases hz0
 have hpos := oO.2 h0
 have hlen : (aP c8 l).length = l.length := by rw [gJ T8]; omega
 have hzl : (aP c8 (List.replicate k 0)).length = k := by rw [gJ T8]; simp
 have hw : IntKind.i64.wrap (k : Int) = k := by rw [Bg]; omega
 have hneg : ¬ ((k : Int) < 0) := by omega
 have htn := Tryz.underlying3
 rcases hown.2 with ⟨rfl, hn⟩ | ⟨g, cap, cur, rfl, hbg, hg, hnc, hcm, hcs, htake⟩
 ·omega
 by_cases hroom : l.length + k ≤ cap
 ·have hfit : l.length + k ≤ cur.size := by rw [hcs]; omega
  have hst := run_storeCells_at Tryz.prog g l.length 5 (aP c8 (List.replicate k 0)) 0 cur w hg (by rw [hzl]; omega) (ET (lQ _))
  simp only [kU] at hst
  have h48 : ¬ (281474976710656 < (k : Int)) := by omega
  have hr : (Builtin.append_ #[23, 3] ty #[.slice (some ⟨g, 0, none⟩) l.length cap, .int .i64 k]).run Tryz.prog w = .ok (.slice (some ⟨g, 0, none⟩) (l.length + k) cap) (w.setRow g (cur.toList.take l.length ++ aP c8 (List.replicate k 0) ++ cur.toList.drop (l.length + (aP c8 (List.replicate k 0)).length)).toArray) := by
   rcases Bb k with hk0 | hk0
   ·subst hk0
    simp only [List.replicate_zero, aP, List.flatMap_nil] at hst ⊢
    simp [Builtin.append_, nV T8.und, nV htn, sizeOf, typeInfo, h1, h3, h4, asInt, asIntOf, hw, kU] at *
    simp [hnc, Addr.add_lit, hst]
   have hk1 : ¬ (k = 0) := by omega
   simp [Builtin.append_, nV T8.und, nV htn, sizeOf, typeInfo, zeroValue, h1, h2, h3, h4, asInt, asIntOf, hw, hneg, h48, hk1, hroom, Addr.add_lit, Cc, hst]
  refine ⟨_, _, hr, ⟨by rw [gJ T8], .inr ⟨g, cap, _, by simp, hbg, Bh w g cur _ _ _ hg, by simpa using hroom, hcm, ?_, ?_⟩⟩, ⟨rfl, rfl, rfl, by simp, fun j _ hj => setRow_other w g j _ (fun e => hj (by simp [Value.ownBlock, e]))⟩, .inl rfl⟩
  ·simp only [lI, bD, bX, eD, yR, hzl, hcs]
   omega
  have e : cur.toList.take l.length = aP c8 l := by have := htake; rwa [jI] at this
  rw [pU, e]
  have : (l ++ List.replicate k 0).length * 1 = (aP c8 l ++ aP c8 (List.replicate k 0)).length := by simp [hlen, hzl]
  rw [this]
  exact DL
 have hr := Go.Lib.run_append_grow_zeros (P := Tryz.prog) w 23 3 ty 5 i0 (.int .u8 0) .i64 .i64 T8.und htn h1 h2 (some ⟨g, 0, none⟩) l.length cap (aP c8 l) ?_ k (by omega) (by omega) (by omega) (by omega) (by rw [h4]; omega) (growslice_fits (by omega) (by rw [h4]; omega))
 ·have hge := grownCap_ge w (l.length + k) cap 5
  have hcm2 : grownCap w (l.length + k) cap 5 ≤ maxLen := Km w (l.length + k) cap 5 (by unfold maxLen; omega)
  refine ⟨_, _, hr, ⟨by rw [gJ T8], .inr ⟨w.heap.size, _, _, by simp, hbase, heap_alloc_new w.drew _, by simpa using hge, hcm2, ?_, ?_⟩⟩, ⟨rfl, rfl, rfl, by simp, fun j hj _ => by rw [heap_alloc, aE (show ¬ j = w.drew.heap.size from Nat.ne_of_lt hj)]; rfl⟩, .inr fun g' hg' => by cases hg'; exact aQ _⟩
  ·simp only [Array.size_append, lI, size_zeroCells, hlen]
   simp [Value.cells]
   omega
  simp only [Array.toList_append, eJ, Cc]
  rw [pU, ← eJ]
  have : (l ++ List.replicate k 0).length * 1 = (aP c8 l ++ aP c8 (List.replicate k 0)).length := by simp [hlen, hzl]
  rw [this]
  exact DL
 have hc := hown.cells (g := g) rfl
 exact run_firstCells_some (P := Tryz.prog) w.drew i0.size l.length ⟨g, 0, none⟩ l.length cap (aP c8 l) (by rw [hlen, h3]; omega) hc
theorem zX {w : World} {ops : Array Oper} {rest : List Oper} {o : Oper} {a : Act} {Q : Exit → Act → World → Prop} (hgd : o.guard = none) (s x : Operand)
  (ho : o.op = .call { callee := .builtin .append, args := #[s, x], argTypes := #[23, 3] }) {base : Nat} {v : Value} {l : Bs} (hs : a.eval s = v) (hown : Ow w base v l) (h0 : l ≠ []) {k : Nat}
  (hx : a.eval x = .int .i64 k) (hk : l.length + k ≤ 1000000) (hbase : base ≤ w.heap.size)
  (h : ∀ v' w', Ow w' base v' (l ++ List.replicate k 0) → w.grownBy w' v.ownBlock → (v'.ownBlock = v.ownBlock ∨ ∀ g, v'.ownBlock = some g → w.heap.size ≤ g) → wpList Tryz.prog ops Q rest (a.put o.dst v') w') : wpList Tryz.prog ops Q (o :: rest) a w := by
 obtain ⟨v', w', hrun, h2, h3, h4⟩ := Md hown h0 k hk hbase o.type
 exact Go.Lib.wpList_append_run w hgd s x _ _ ho _ _ hs hx v' w' hrun (h v' w' h2 h3 h4)
theorem bN.lt {w : World} {p : Nat} {D : aI} {F : List Nat} (h : bN w p D F) : ∀ k ∈ F, k < w.heap.size := by
 obtain ⟨sb, mb, L, ops, h, rfl⟩ := h
 intro k hk
 simp only [dO, aJ, cV] at hk
 rcases hk with e | e | e | ⟨x, hx, e⟩
 ·rw [e]; exact aH h.box
 ·rw [e]; exact aH h.safe
 ·rw [e]; exact World.ownsMap.lt h.map
 obtain ⟨h1, h2, -⟩ := h.row x hx
 obtain ⟨g, c, hv, -⟩ := h1.lastK h2
 have hb : x.2.ownBlock = some g := by rw [hv]; rfl
 rw [← e]
 simp only [gE, hb, tT]
 exact (h1.block g hb).2
theorem bN.p_mem {w : World} {p : Nat} {D : aI} {F : List Nat} (h : bN w p D F) : p ∈ F := by
 obtain ⟨sb, mb, L, ops, -, rfl⟩ := h
 simp [dO]
theorem bN.sized {w : World} {p : Nat} {D : aI} {F : List Nat} (h : bN w p D F) : iE D.blk := by
 obtain ⟨sb, mb, L, ops, h, -⟩ := h
 exact h.sized
theorem bN.bounds {w : World} {p : Nat} {D : aI} {F : List Nat} (h : bN w p D F) : 64 ≤ D.n ∧ D.n ≤ 512 := by
 obtain ⟨sb, mb, L, ops, h, -⟩ := h
 exact ⟨h.n1, h.n2⟩
theorem dE.seq {w w1 w2 : World} {p : Nat} {D D1 : aI} {F F1 : List Nat} {a b : List cE} {r : Ending} (hE : bV a D 0 D1) (hU : aB F w w1) (hF : ∀ k ∈ F1, k ∈ F ∨ w.heap.size ≤ k) (h : dE w1 p D1 F1 b r w2) : dE w p D F (a ++ b) r w2 := by
 obtain ⟨e, D2, F2, rfl, hE2, hD2, hU2, hF2⟩ := h
 refine ⟨e, D2, F2, rfl, hE.next hE2, hD2, hU.next hU2 fun k hk hlt => ?_, fun k hk => ?_⟩
 ·rcases hF k hk with q | q
  ·exact q
  omega
 rcases hF2 k hk with q | q
 ·exact hF k q
 exact .inr (bG hU.size q)
theorem dE.stop {w w1 : World} {p : Nat} {D D1 : aI} {F F1 : List Nat} {a : List cE} {e : Nat} (b : List cE) (he : e ≠ 0) (hE : bV a D e D1) (hD : bN w1 p D1 F1) (hU : aB F w w1) (hF : ∀ k ∈ F1, k ∈ F ∨ w.heap.size ≤ k) : dE w p D F (a ++ b) (.returned (.int .i64 e)) w1 :=
 ⟨e, D1, F1, rfl, hE.stop b he, hD, hU, hF⟩
theorem dE.from {w0 w w' : World} {p : Nat} {D : aI} {F : List Nat} {t : List cE} {r : Ending} (u : aB [] w0 w) (h : dE w p D F t r w') : dE w0 p D F t r w' := by
 obtain ⟨e, D1, F1, rfl, hE, hD, hU, hF⟩ := h
 exact ⟨e, D1, F1, rfl, hE, hD, (u.mono (by simp)).trans hU, fun k hk => (hF k hk).imp id fun q => bG u.size q⟩
theorem aK.sliceM {α : Type} {f : α → List Value} {e : TypeId} {k : Nat} {w : World} {base : Nat} {v : Value} {l : List α} (h : aK f e k w base v l) : ∃ a c m, m = l.length ∧ v = .slice a m c := by
 obtain ⟨a, c, h⟩ := h.slice
 exact ⟨a, c, _, rfl, h⟩
theorem aK.headG {α : Type} {f : α → List Value} {e : TypeId} {k : Nat} {w : World} {base : Nat} {v : Value} {l : List α} (h : aK f e k w base v l) (h0 : l ≠ []) : ∃ g c, v = .slice (some ⟨g, 0, none⟩) l.length c ∧ base ≤ g ∧ g < w.heap.size := by
 have hpos := oO.2 h0
 rcases h.2 with ⟨rfl, hn⟩ | ⟨g, cap, cur, rfl, hg, hh, r1, r2, r3, r4⟩
 ·omega
 exact ⟨g, cap, rfl, hg, aH hh⟩
theorem Rd.sliceM {w : World} {v : Value} {l : Bs} (h : Rd w v l) : ∃ a c m, m = l.length ∧ m ≤ c ∧ c ≤ 9223372036854775807 ∧ v = .slice a m c := by
 obtain ⟨a, c, rfl, h1, h2, -⟩ := h.slice
 exact ⟨a, c, _, rfl, h1, h2, rfl⟩
theorem Cd (w : World) {p : Nat} {D : aI} {F : List Nat} (h : bN w p D F) : Calls Tryz.prog 161 #[.pointer (some ⟨p, 0, none⟩), .int .i64 0] w fun e w' => e = .returned (.int .i64 0) ∧ w' = w := by
 have HB := aA (BS w h)
 have hb := h.bounds
 clear h
 generalize D.n = N at *
 go_in
 go_wp2_with fail
 refine HB.out.mono ?_
 rintro e w1 ⟨rfl, rfl⟩
 go_wp2_with fail
 go_ret
 exact ⟨rfl, rfl⟩
theorem FI (w : World) {p : Nat} {D : aI} {F : List Nat} (h : bN w p D F) (n : Nat) (hn : n < D.n) (hwr : D.wr ≤ 137438953400) (c : Nat) (hc : c < 9223372036854775808) {v : Value} {d : Bs} (hd : Rd w v d) (hdl : d.length ≤ 400) :
  Calls Tryz.prog 162 #[.pointer (some ⟨p, 0, none⟩), .int .i64 n, .int .i64 c, v] w (dE w p D F [.write n (eN c d), .flush]) := by
 obtain ⟨a, cp, rfl, hcap, hc63, -⟩ := hd.slice
 have HD := aA h
 have HV := aA hd
 have hn2 := h.bounds.2
 have hul : (aN c).length ≤ 10 := gX (by omega)
 have hwc : IntKind.u64.wrap (c : Int) = (c : Int) := by rw [nU]; omega
 clear h hd
 go_in
 go_wp2_with fail
 refine (nX w (Rd.nil _) c (by omega) (by simp)).mono ?_
 rintro e w1 ⟨v1, rfl, ho1, hU1⟩
 have HU1 := aA hU1
 have hs1 := hU1.size
 go_wp2_with (at_builtin; refine fS T8 rfl _ _ rfl (l := [] ++ aN c) rfl ho1 rfl (HV.out.keep HU1.out).src (lQ _) ?c1 ?c2 ?c3 ?_)
 case c1 => simp; omega
 case c2 => simp; omega
 case c3 => omega
 intro v2 w2 ho2 hg2 _
 have HU2 : Hid (aB [] w w2) := aA (HU1.out.grown hg2 (fun g hg => by have := (ho1.block g hg).1; omega))
 have HR2 : Hid (Rd w2 v2 (aN c ++ d)) := aA (by have := Ow.rd ho2; simpa using this)
 obtain ⟨a2, c2, m2, hm2, rfl⟩ := ho2.sliceM
 clear hm2
 clear ho1 hU1 hg2 ho2
 go_wp2_with fail
 have HPF := aA (BO w2 (Rd.nil w2) 115 HR2.out (by rw [bD]; omega) (by simp))
 have e115 : ((115 : UInt8).toNat : Int) = 115 := rfl
 rewrite [e115] at HPF
 refine HPF.out.mono ?_
 clear HPF e115
 rintro e w3 ⟨v3, rfl, ho3, hU3⟩
 have HU3 := aA (HU2.out.trans hU3)
 have hs3 := HU2.out.size
 have hs33 := hU3.size
 have e3 : [] ++ cC 115 (aN c ++ d) = cC 115 (aN c ++ d) := by simp
 rw [e3] at ho3
 clear hU3 e3
 have hfl : (cC 115 (aN c ++ d)).length ≤ 430 := by
  have h2 : (aN (aN c ++ d).length).length ≤ 10 := gX (by simp; omega)
  simp only [cC, jA, fD, bD, eG, lJ] at *
  omega
 have hf0 : cC 115 (aN c ++ d) ≠ [] := by simp [cC, fD]
 have hpad : cC 115 (aN c ++ d) ++ List.replicate (512 - (cC 115 (aN c ++ d)).length) 0 = eN c d := rfl
 have hsl : (eN c d).length = 512 := zA (by omega) hdl
 generalize hfr : cC 115 (aN c ++ d) = fr at *
 obtain ⟨a3, c3, m3, hm3, rfl⟩ := ho3.sliceM
 have hm5 : m3 ≤ 430 := by omega
 have hk : (512 : Int) - (m3 : Int) = ((512 - m3 : Nat) : Int) := by omega
 have hwk : IntKind.i64.wrap ((512 - m3 : Nat) : Int) = ((512 - m3 : Nat) : Int) := fF _ (by omega)
 obtain ⟨k, hkk⟩ : ∃ k, k = 512 - m3 := ⟨_, rfl⟩
 rw [← hkk] at hk hwk
 have hk6 : fr.length + k ≤ 1000000 := by omega
 have HKK := aA hkk
 have HM3 := aA hm3
 clear hkk hm3
 go_wp2_with (first
  | (refine zX rfl _ _ rfl (l := fr) (k := k) rfl ho3 hf0 rfl hk6 (by omega) ?_)
  | fail)
 intro v4 w4 ho4 hg4 _
 have HU4 : Hid (aB [] w w4) := aA (HU3.out.grown hg4 (fun g hg => by have := (ho3.block g hg).1; omega))
 have e4 : fr ++ List.replicate k 0 = eN c d := by rw [HKK.out, HM3.out]; exact hpad
 rw [e4] at ho4
 have hne : eN c d ≠ [] := by intro q; rw [q] at hsl; simp at hsl
 obtain ⟨g4, c4, hv4, hg4b, hg4l⟩ := ho4.headG hne
 rw [hsl] at hv4
 subst hv4
 have HD4 := aA (HD.out.upd HU4.out (by simp))
 have HW := aA (vO w4 HD4.out n hn (by omega) (Ow.rd ho4) hsl (fun q => by have := HD.out.lt _ q; omega))
 clear ho3 ho4 hg4 hpad HR2 HU2 HU3 HKK HM3 e4 hk hwk hf0 hfl
 go_wp2_with fail
 refine HW.out.mono ?_
 rintro r w5 ⟨e, D5, F5, rfl, hE, hD5, hU5, hF5⟩
 have H5 := aA (aC hE (aC hD5 (aC hU5 hF5)))
 clear hE hD5 hU5 hF5 HW
 by_cases he : e = 0
 ·subst he
  have HFl := aA (vP w5 H5.out.2.1 (by have := H5.out.1.wr; simp at this; omega))
  go_wp2_with fail
  refine HFl.out.mono ?_
  rintro r w6 h6
  have H6 := aA (dE.from HU4.out (dE.seq H5.out.1 H5.out.2.2.1 H5.out.2.2.2 h6))
  obtain ⟨e6, D6, F6, rfl, -⟩ := h6
  go_wp2_with fail
  go_ret
  exact H6.out
 have he' : ¬ (e : Int) = 0 := by omega
 go_wp2_with fail
 go_ret
 exact dE.from HU4.out (dE.stop [.flush] he H5.out.1 H5.out.2.1 H5.out.2.2.1 H5.out.2.2.2)
theorem FJ (n : Nat) : madeCells (Value.int .u8 0).cells (n * 1) = (aP c8 (List.replicate n 0)).toArray := by
 have h := Cc n
 rw [← h]
 rfl
theorem zY {w : World} {ops : Array Oper} {rest : List Oper} {o : Oper} {a : Act} {Q : Exit → Act → World → Prop} (hg : o.guard = none) (x y : Operand) (hop : o.op = Op.makeSlice 23 x y) (n : Nat) (hn : n ≤ 1000000) {l : Bs} (hl : l = List.replicate n 0)
  {z : Int} (hz : z = (n : Int)) (hx : a.eval x = .int .i64 z) (hy : a.eval y = .int .i64 z)
  (h : wpList Tryz.prog ops Q rest (a.put o.dst (.slice (some ⟨w.heap.size, 0, none⟩) n n)) (w.alloc (.cells (aP c8 l).toArray 5))) : wpList Tryz.prog ops Q (o :: rest) a w := by
 subst hz
 subst hl
 refine sP hg fun K' hK' => ?_
 obtain ⟨i, h0, h1, h2, h3⟩ := kD (show (Tryz.prog.info? 5).map (fun i => (i.zero, i.size, i.bytes)) = some (some (.int .u8 0), 1, 1) by kernel_rfl)
 have hrun := run_make (P := Tryz.prog) w 23 5 i _ T8.und h0 h1 .i64 .i64 (n : Int) (n : Int) (by omega) (Ba _) (by rw [h3]; omega) (by omega)
 rw [h2] at hrun
 rw [oP, FJ] at hrun
 unfold Oper.wp
 simp only [execOp, hop, hx, hy, qF, hrun, qG]
 exact hK' _ _ h
theorem Ow.made {w : World} {base n : Nat} (hb : base ≤ w.heap.size) (hn : n ≤ 1000000) {l : Bs} (hl : l = List.replicate n 0) : Ow (w.alloc (.cells (aP c8 l).toArray 5)) base (.slice (some ⟨w.heap.size, 0, none⟩) n n) l := by
 subst hl
 have e : (List.replicate n (0 : UInt8)).length = n := pN ..
 refine ⟨by rw [gJ T8], .inr ⟨w.heap.size, n, _, by rw [e], hb, aX _ _, by rw [e]; exact aQ _, by unfold maxLen; omega, by rw [lI, gJ T8, e], ?_⟩⟩
 exact dY (by rw [gJ T8]; exact aQ _)
theorem Me (w : World) {p : Nat} {D : aI} {F : List Nat} (h : bN w p D F) (hwr : D.wr ≤ 137438953300) {v : Value} {d : Bs} (hd : Rd w v d) (hdl : d.length ≤ 400) (hdF : ∀ b, v.ownBlock = some b → b ∉ F) :
  Calls Tryz.prog 126 #[.pointer (some ⟨p, 0, none⟩), .int .i64 0, v] w (dE w p D F ([.write 1 cH, .flush] ++ [.write 0 (eN 0 d), .flush])) := by
 have HD := aA h
 have HV := aA hd
 have HF := aA hdF
 obtain ⟨a, cp, m, hm, hmc, hc63, rfl⟩ := hd.sliceM
 have hn1 := h.bounds.1
 have hm4 : m ≤ 400 := by omega
 have HW := aA (Cd w h)
 clear h hd hm hdF
 go_in
 go_wp2_with fail
 refine HW.out.mono ?_
 rintro r w0 ⟨rfl, rfl⟩
 clear HW
 go_wp2_with (first
  | (refine zY rfl _ _ rfl 512 (by omega) (l := cH) rfl rfl rfl rfl ?_)
  | fail)
 have HR1 := aA (Ow.made (w := w0) (base := w0.heap.size) (n := 512) (l := cH) (aQ _) (by omega) rfl)
 have HU1 : Hid (aB [] w0 (w0.alloc (.cells (aP c8 cH).toArray 5))) := aA ((aB.refl [] w0).alloc _)
 generalize (w0.alloc (.cells (aP c8 cH).toArray 5)) = w1 at *
 have HW1 := aA (vO w1 (HD.out.upd HU1.out (by simp)) 1 (by omega) (by omega) (Ow.rd HR1.out) rR (fun q => by have := HD.out.lt _ q; omega))
 refine HW1.out.mono ?_
 rintro r w2 ⟨e, D2, F2, rfl, hE, hD2, hU2, hF2⟩
 have H2 := aA (aC hE (aC hD2 (aC hU2 hF2)))
 clear hE hD2 hU2 hF2 HW1 HR1
 by_cases he : e = 0
 ·subst he
  have HFl := aA (vP w2 H2.out.2.1 (by have := H2.out.1.wr; simp at this; omega))
  go_wp2_with fail
  refine HFl.out.mono ?_
  rintro r w3 h3
  have H3 := dE.from HU1.out (dE.seq H2.out.1 H2.out.2.2.1 H2.out.2.2.2 h3)
  obtain ⟨e3, D3, F3, rfl, hE3, hD3, hU3, hF3⟩ := H3
  have H3 := aA (aC hE3 (aC hD3 (aC hU3 hF3)))
  clear hE3 hD3 hU3 hF3 HFl h3
  by_cases he : e3 = 0
  ·subst he
   have HV3 := aA (HV.out.upd H3.out.2.2.1 (HF.out))
   have HL := aA (FI w3 H3.out.2.1 0 (by have := H3.out.1.n; omega) (by have := H3.out.1.wr; simp at this; omega) 0 (by omega) HV3.out hdl)
   go_wp2_with fail
   refine HL.out.mono ?_
   rintro r w4 h4
   have H4 := aA (dE.seq H3.out.1 H3.out.2.2.1 H3.out.2.2.2 h4)
   obtain ⟨e4, D4, F4, rfl, -⟩ := h4
   go_wp2_with fail
   go_ret
   exact H4.out
  have he' : ¬ (e3 : Int) = 0 := by omega
  go_wp2_with fail
  go_ret
  exact dE.stop _ he H3.out.1 H3.out.2.1 H3.out.2.2.1 H3.out.2.2.2
 have he' : ¬ (e : Int) = 0 := by omega
 go_wp2_with fail
 go_ret
 have := dE.from HU1.out (dE.stop ([.flush] ++ [.write 0 (eN 0 d), .flush]) he H2.out.1 H2.out.2.1 H2.out.2.2.1 H2.out.2.2.2)
 exact this
end Go.Proofs.YtgpefiacbipfpaaGreatDoor
