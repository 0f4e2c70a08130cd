/- The log's steps: one thing behind the other, up to the first that goes wrong. -/
import Derived.Deep.RegionHeld3
import Derived.Test.YtgpefiacbipfpaaGreatDoorC10
set_option maxRecDepth 100000
set_option maxHeartbeats 4000000
namespace Go.Proofs.YtgpefiacbipfpaaGreatDoor
open Go.RowKit Go.Maps
structure iA where
 f : Nat
 a : Array Value
 c : Array Value
abbrev iA.v (x : iA) : Value := .func (.func x.f) x.a x.c
theorem NK (w : World) {B : Nat} (cs : List iA) (hlen : cs.length ≤ 100) (P : Nat → World → Prop) (Q : Nat → World → Prop) (h0 : P 0 w)
  (hcell : ∀ i W, P i W → ∀ (j : Nat) (x : iA), cs[j]? = some x → W.cell? ⟨B, j, none⟩ = some x.v)
  (hent : ∀ (i : Nat) (x : iA), cs[i]? = some x → ∀ args W, (callFunc x.f args).run Tryz.prog W = .ok (.enter x.f args) W)
  (hcall : ∀ (i : Nat) (x : iA), cs[i]? = some x → ∀ W, P i W → Calls Tryz.prog x.f (x.a ++ x.c) W fun e W' => ∃ n : Nat, e = .returned (.int .i64 n) ∧ (n = 0 → P (i + 1) W') ∧ (n ≠ 0 → Q n W')) :
  Calls Tryz.prog 103 #[.slice (some ⟨B, 0, none⟩) cs.length cs.length] w fun e W' => ∃ n : Nat, e = .returned (.int .i64 n) ∧ (n = 0 → P cs.length W') ∧ (n ≠ 0 → Q n W') := by
 have HC := aA hcell
 have HK := aA hcall
 have HE := aA hent
 have H0 := aA h0
 clear hcell hcall h0 hent
 have HS : Hid (∀ i, i < cs.length → ∃ x, cs[i]? = some x) := aA fun i h => ⟨_, bL h⟩
 generalize cs.length = L at *
 go_in
 go_wp2_with fail
 go_loopg [8] L (fun k v wr => ∃ i : Nat, v = .int .i64 i ∧ i ≤ L ∧ k = L - i ∧ Hid (P i wr))
 case atStart => exact ⟨0, rfl, by omega, rfl, H0⟩
 case round =>
  obtain ⟨i, rfl, hi, rfl, H1⟩ := hrel
  by_cases hil : i < L
  ·have hlt : (i : Int) < (L : Int) := by omega
   obtain ⟨x, hx⟩ := HS.out i hil
   have hc := HC.out i _ H1.out i x hx
   have HKi := aA (HK.out i x hx _ H1.out)
   have he := HE.out i x hx
   clear hx
   obtain ⟨f, a, c⟩ := x
   dsimp only [iA.v] at hc HKi he
   go_wp2_with fail
   refine HKi.out.mono ?_
   rintro r w2 ⟨n, rfl, hn, hn'⟩
   have H2 := aA (aC hn hn')
   clear hn hn' HKi he hc
   by_cases h0 : n = 0
   ·subst h0
    go_wp2_with fail
    go_roundg (L - (i + 1))
    case rel => exact ⟨i + 1, by go_num, by omega, rfl, aA (H2.out.1 (by trivial))⟩
    case measure => omega
   have hne : ¬ (n : Int) = 0 := by omega
   go_wp2_with fail
   go_ret
   exact ⟨n, rfl, fun q => absurd q h0, H2.out.2⟩
  have hlt : ¬ (i : Int) < (L : Int) := by omega
  obtain rfl : i = L := by omega
  go_wp2_with fail
  go_ret
  exact ⟨0, rfl, fun _ => H1.out, fun q => absurd rfl q⟩
structure eR (w : World) (G : List Nat) (v : Value) (ws : List Wr) : Prop where
 ex : ∃ L : List jM, eA cW 2 w v L ∧ L.length = ws.length ∧ ∀ (i : Nat) (x : jM) (y : Wr), L[i]? = some x → ws[i]? = some y → x.at_ = y.1 ∧ Rd w (.slice x.a x.n x.c) y.2 ∧ ∀ g, (Value.slice x.a x.n x.c).ownBlock = some g → g ∉ G ∧ g < w.heap.size
 own : ∀ g, v.ownBlock = some g → g ∉ G ∧ g < w.heap.size
 len : ∀ x ∈ ws, x.2.length = 512
 few : ws.length ≤ 512
theorem eR.upd {w w' : World} {G G' : List Nat} {v : Value} {ws : List Wr} (h : eR w G v ws) (u : aB G w w') (hG : ∀ k ∈ G', k ∈ G ∨ w.heap.size ≤ k) : eR w' G' v ws := by
 obtain ⟨⟨L, h1, h2, h3⟩, h4, h5, h6⟩ := h
 have hs := u.size
 have key : ∀ g, (g ∉ G ∧ g < w.heap.size) → g ∉ G' ∧ g < w'.heap.size := fun g hg => ⟨fun q => by rcases hG g q with q | q; exact hg.1 q; omega, by omega⟩
 refine ⟨⟨L, h1.upd TW u (fun g hg => (h4 g hg).1), h2, fun i x y hx hy => ?_⟩, fun g hg => key g (h4 g hg), h5, h6⟩
 obtain ⟨a, b, c⟩ := h3 i x y hx hy
 exact ⟨a, b.upd u (fun g hg => (c g hg).1), fun g hg => key g (c g hg)⟩
theorem eR.less {w : World} {G G' : List Nat} {v : Value} {ws : List Wr} (h : eR w G v ws) (hG : ∀ k ∈ G', k ∈ G ∨ w.heap.size ≤ k) : eR w G' v ws := h.upd (aB.refl _ _) hG
theorem eR.slice {w : World} {G : List Nat} {v : Value} {ws : List Wr} (h : eR w G v ws) : ∃ a c, v = .slice a ws.length c ∧ ws.length ≤ c ∧ c ≤ 9223372036854775807 ∧
  ∀ (i : Nat) (y : Wr), ws[i]? = some y → ∃ b off b2 off2 c2, a = some ⟨b, off, none⟩ ∧ b ∉ G ∧ b < w.heap.size ∧ w.cell? ⟨b, off + i * 2, none⟩ = some (.int .i64 y.1) ∧ w.cell? ⟨b, off + i * 2 + 1, none⟩ = some (.slice (some ⟨b2, off2, none⟩) 512 c2) ∧
   Rd w (.slice (some ⟨b2, off2, none⟩) 512 c2) y.2 ∧ b2 ∉ G ∧ b2 < w.heap.size := by
 obtain ⟨⟨L, h1, h2, h3⟩, h4, h5, -⟩ := h
 obtain ⟨a, c, rfl, q1, q2, -⟩ := h1.slice
 refine ⟨a, c, by rw [h2], by omega, q2, fun i y hy => ?_⟩
 obtain ⟨hi, -⟩ := eX.1 hy
 have hiL : i < L.length := by omega
 obtain ⟨x, hx⟩ : ∃ x, L[i]? = some x := ⟨_, bL hiL⟩
 obtain ⟨e1, e2, e3⟩ := h3 i x y hx hy
 obtain ⟨⟨a', c', hv, -, -, hat⟩, -⟩ := h1
 simp only [fG] at hv
 obtain ⟨rfl, -, rfl⟩ := hv
 obtain ⟨b, off, rfl, hc⟩ := hat i hiL
 have hxe : L[i] = x := (eX.1 hx).2
 rw [hxe] at hc
 have k0 := hc 0 _ rfl
 have k1 := hc 1 _ rfl
 have hy5 := h5 y (fC hy)
 obtain ⟨xa, x1, x2, x3⟩ := x
 dsimp only at e1 e2 e3 k0 k1
 subst e1
 obtain ⟨m1, m2, m3, m4⟩ := e2.cell
 have hx2 : x2 = 512 := by omega
 subst hx2
 obtain ⟨b2, off2, rfl, -⟩ := m4 (by omega)
 have hb := h4 b rfl
 have hb2 := e3 b2 rfl
 exact ⟨b, off, b2, off2, x3, rfl, hb.1, hb.2, k0, k1, e2, hb2.1, hb2.2⟩
theorem bV.takeStep {T : List cE} {i : Nat} {o : cE} (h : T[i]? = some o) : T.take (i + 1) = T.take i ++ [o] := by
 rw [iK, h]; rfl
theorem bV.takeRest {T : List cE} {i : Nat} {o : cE} (h : T[i]? = some o) : T = (T.take i ++ [o]) ++ T.drop (i + 1) := by
 rw [← bV.takeStep h, kW]
theorem vV {w w' : World} {G : List Nat} (u : aB G w w') {b0 o0 b1 o1 b2 o2 : Nat} {v0 v1 v2 : Value} (h0 : b0 ∉ G) (h1 : b1 ∉ G) (h2 : b2 ∉ G) (h : w.cell? ⟨b0, o0, none⟩ = some v0 ∧ w.cell? ⟨b1, o1, none⟩ = some v1 ∧ w.cell? ⟨b2, o2, none⟩ = some v2) :
  w'.cell? ⟨b0, o0, none⟩ = some v0 ∧ w'.cell? ⟨b1, o1, none⟩ = some v1 ∧ w'.cell? ⟨b2, o2, none⟩ = some v2 :=
 ⟨(iD (u.block _ (kX _ _ h.1) h0)).trans h.1, (iD (u.block _ (kX _ _ h.2.1) h1)).trans h.2.1, (iD (u.block _ (kX _ _ h.2.2) h2)).trans h.2.2⟩
theorem eH {w w' : World} {G : List Nat} (u : aB G w w') {b o : Nat} {v : Value} (hb : b ∉ G) (h : w.cell? ⟨b, o, none⟩ = some v) : w'.cell? ⟨b, o, none⟩ = some v :=
 (iD (u.block _ (kX _ _ h) hb)).trans h
def qX (from_ i a : Nat) : Nat := if from_ = 0 then 20 + a else from_ + i
theorem Gz (w : World) {p : Nat} {D : aI} {F : List Nat} (h : bN w p D F) (hdn : D.down = false) (hwr : D.wr ≤ 137438952000) {j n k : Nat} {dead : Bool} (hl : bZ w j p n k dead) (hjF : j ∉ F) {bw bf bl from_ : Nat} {v : Value} (hf : from_ ≤ 100)
  (cw : w.cell? ⟨bw, 0, none⟩ = some v) (cf : w.cell? ⟨bf, 0, none⟩ = some (.int .i64 from_)) (cl : w.cell? ⟨bl, 0, none⟩ = some (.pointer (some ⟨j, 0, none⟩))) (hbf : bf ∉ F) (hbl : bl ∉ F)
  {ws : List Wr} (hw : eR w F v ws) (T : List cE) (hlen : T.length = ws.length) (hT : ∀ (i : Nat) (y : Wr), ws[i]? = some y → T[i]? = some (.write (qX from_ i y.1) y.2) ∧ qX from_ i y.1 < D.n) :
  Calls Tryz.prog 148 #[.pointer (some ⟨bw, 0, none⟩), .pointer (some ⟨bf, 0, none⟩), .pointer (some ⟨bl, 0, none⟩)] w (dE w p D F T) := by
 have HD := aA h
 have hbn := h.bounds
 have HLg := aA hl
 have HT := aA hT
 have HW := aA hw
 have CF := aA cf
 have CL := aA cl
 obtain ⟨a, c, rfl, hc1, hc2, -⟩ := hw.slice
 have hL512 := hw.few
 have HTl := aA hlen
 have HS : Hid (∀ i, i < ws.length → ∃ y, ws[i]? = some y) := aA fun i h => ⟨_, bL h⟩
 generalize ws.length = L at *
 clear h hl hT hw cf cl hlen
 go_in
 go_wp2_with fail
 clear cw
 go_loopg [10] L (fun k v wr => ∃ (i : Nat) (D1 : aI) (F1 : List Nat), v = .int .i64 i ∧ i ≤ L ∧ k = L - i ∧ Hid (bV (T.take i) D 0 D1 ∧ bN wr p D1 F1 ∧ aB F w wr ∧ ∀ k ∈ F1, k ∈ F ∨ w.heap.size ≤ k))
 case atStart => exact ⟨0, D, F, rfl, by omega, rfl, aA ⟨bV.refl hdn, HD.out, aB.refl _ _, fun k hk => .inl hk⟩⟩
 case round =>
  obtain ⟨i, D1, F1, rfl, hi, rfl, H1⟩ := hrel
  by_cases hil : i < L
  ·have hlt : (i : Int) < (L : Int) := by omega
   obtain ⟨y, hy⟩ := HS.out i hil
   obtain ⟨a', c', hv, -, -, hat⟩ := (HW.out.upd H1.out.2.2.1 H1.out.2.2.2).slice
   simp only [fG] at hv
   obtain ⟨rfl, -, rfl⟩ := hv
   obtain ⟨b, off, b2, off2, c2, rfl, hb1, hb2, k0, k1, hr, hb3, hb4⟩ := hat i y hy
   obtain ⟨hTi, hTn⟩ := HT.out i y hy
   have hy5 : y.2.length = 512 := HW.out.len y (fC hy)
   obtain ⟨ya, yb⟩ := y
   dsimp only at k0 k1 hr hTi hTn hy5
   have HTi := aA hTi
   have HR := aA hr
   clear hat hr hTi
   have hw' := H1.out.1.wr
   have hn' := H1.out.1.n
   have hf2 := fun X : Obj => eQ ((aB.refl [] wr).alloc X) (eH H1.out.2.2.1 hbf CF.out)
   have HTn := aA hTn
   have hcase : ∃ m : Nat, m = qX from_ i ya ∧ ((from_ = 0 ∧ m = 20 + ya) ∨ (from_ ≠ 0 ∧ m = from_ + i)) := ⟨_, rfl, by unfold qX; split <;> omega⟩
   obtain ⟨m, hm, hcase⟩ := hcase
   rw [← hm] at HTn HTi
   clear hm hTn
   have hj2 := aH HLg.out
   have htl : (T.take i).length ≤ L := by rw [bX, HTl.out]; omega
   have hwr1 : D1.wr ≤ 137438953472 := by omega
   have HWr := aA fun (W : World) (u : aB [] wr W) => vO W (H1.out.2.1.upd u (by simp)) m (by rw [hn']; exact HTn.out) hwr1 (HR.out.keep u) hy5 hb3
   clear hw' hn' htl hwr1
   have hnz : from_ ≠ 0 → ¬ (from_ : Int) = 0 := fun q => by omega
   have hmm : m ≤ 512 := by have := HTn.out; omega
   rcases hcase with ⟨hz, hm⟩ | ⟨hz, hm⟩
   all_goals first
    | (subst hz; (have hya : ya ≤ 512 := by omega); (have E := aA (show ((m : Nat) : Int) = 20 + (ya : Int) by omega)); clear hm)
    | ((have hnz := hnz hz); (have E := aA (show ((m : Nat) : Int) = (from_ : Int) + (i : Int) by omega)); clear hm)
   all_goals
    go_wp2_with fail
    generalize hW1 : wr.alloc _ = W1
    have hX : W1.heap[wr.heap.size]? = some (.cells #[.int .i64 ya, .slice (some ⟨b2, off2, none⟩) 512 c2] 168) := by rw [← hW1]; exact aX _ _
    have hu1 : aB [] wr W1 := by rw [← hW1]; exact (aB.refl [] wr).alloc _
    clear hW1 hf2
    have d1 := eQ hu1 (eH H1.out.2.2.1 hbl CL.out)
    have d2 : W1.cell? ⟨j, 0, none⟩ = some (.pointer (some ⟨p, 0, none⟩)) := eQ hu1 (aD (HLg.out.upd H1.out.2.2.1 hjF) 0)
    have d3 : W1.cell? ⟨wr.heap.size, 1, none⟩ = some (.slice (some ⟨b2, off2, none⟩) 512 c2) := aD hX 1
    have n1 : bl ∉ F1 := fun q => by
     rcases H1.out.2.2.2 _ q with q | q
     ·exact hbl q
     have := kX _ _ CL.out; dsimp only at this; omega
    have n2 : j ∉ F1 := fun q => by
     rcases H1.out.2.2.2 _ q with q | q
     ·exact hjF q
     omega
    have n3 : wr.heap.size ∉ F1 := fun q => by have := H1.out.2.1.lt _ q; omega
    have HC := aA (HWr.out W1.drew hu1.drew)
    rewrite [E.out] at HC
    have D3 : W1.drew.cell? ⟨bl, 0, none⟩ = some (.pointer (some ⟨j, 0, none⟩)) ∧ W1.drew.cell? ⟨j, 0, none⟩ = some (.pointer (some ⟨p, 0, none⟩)) ∧ W1.drew.cell? ⟨wr.heap.size, 1, none⟩ = some (.slice (some ⟨b2, off2, none⟩) 512 c2) := ⟨d1, d2, d3⟩
    clear hX
    go_region_held3 (fun w' => w'.cell? ⟨bl, 0, none⟩ = some (.pointer (some ⟨j, 0, none⟩)) ∧ w'.cell? ⟨j, 0, none⟩ = some (.pointer (some ⟨p, 0, none⟩)) ∧ w'.cell? ⟨wr.heap.size, 1, none⟩ = some (.slice (some ⟨b2, off2, none⟩) 512 c2))
     (first
      | (with_reducible exact D3)
      | (with_reducible exact vV hU5 n1 n2 n3 D3))
     (first
      | (go_at_call 107; (with_reducible refine HC.out.mono ?_); rintro e5 w5 ⟨e, D2, F2, rfl, hE5, hD5, hU5, hF5⟩; have H5 := aA (aC hE5 (aC hD5 hF5)); clear hE5 hD5 hF5))
    have hP := dE.seq H1.out.1 H1.out.2.2.1 H1.out.2.2.2 (dE.from hu1.drew ⟨e, D2, F2, rfl, H5.out.1, H5.out.2.1, hU5, H5.out.2.2⟩ : dE wr p D1 F1 [.write m yb] (.returned (.int .i64 e)) w5)
    obtain ⟨e', D3', F3, he', hE3, hD3, hU3, hF3⟩ := hP
    have hee : e' = e := by simp at he'; omega
    subst hee
    have H6 := aA (aC hE3 (aC hD3 (aC hU3 hF3)))
    clear hE3 hD3 hU3 hF3 he' H5 D3 d1 d2 d3 HC HWr k0 k1
    by_cases he : e' = 0
    ·subst he
     go_wp2_with fail
     go_roundg (L - (i + 1))
     case rel => exact ⟨i + 1, D3', F3, by go_num, by omega, rfl, aA ⟨by rw [bV.takeStep HTi.out]; exact H6.out.1, H6.out.2.1, H6.out.2.2.1, H6.out.2.2.2⟩⟩
     case measure => omega
    have he2 : ¬ (e' : Int) = 0 := by omega
    go_wp2_with fail
    go_ret
    have := dE.stop (T.drop (i + 1)) he H6.out.1 H6.out.2.1 H6.out.2.2.1 H6.out.2.2.2
    rw [← bV.takeRest HTi.out] at this
    exact this
  have hlt : ¬ (i : Int) < (L : Int) := by omega
  obtain rfl : i = L := by omega
  go_wp2_with fail
  go_ret
  have := H1.out
  rw [dY (by rw [HTl.out]; exact aQ _)] at this
  exact ⟨0, D1, F1, rfl, this.1, this.2.1, this.2.2.1, this.2.2.2⟩
theorem GA (w : World) (X Y Z : Obj) : (((w.alloc X).alloc Y).alloc Z).heap[w.heap.size]? = some X := by
 rw [heap_alloc, aE (by simp; omega), heap_alloc, aE (by simp), heap_alloc, aF rfl]
theorem GB (w : World) (X Y Z : Obj) : (((w.alloc X).alloc Y).alloc Z).heap[w.heap.size + 1]? = some Y := by
 rw [heap_alloc, aE (by simp), heap_alloc, aF (by simp)]
theorem GC (w : World) (X Y Z : Obj) : (((w.alloc X).alloc Y).alloc Z).heap[w.heap.size + 1 + 1]? = some Z := by
 rw [heap_alloc, aF (by simp)]
theorem GD (w : World) (j from_ : Nat) (v : Value) (hv : ∃ a n c, v = .slice a n c) :
  Calls Tryz.prog 104 #[.pointer (some ⟨j, 0, none⟩), .int .i64 from_, v] w fun e w' => ∃ bl bf bw, e = .returned (.func (.func 148) #[] #[.pointer (some ⟨bw, 0, none⟩), .pointer (some ⟨bf, 0, none⟩), .pointer (some ⟨bl, 0, none⟩)]) ∧ aB [] w w' ∧
   w.heap.size ≤ bl ∧ w.heap.size ≤ bf ∧ w.heap.size ≤ bw ∧ w'.cell? ⟨bl, 0, none⟩ = some (.pointer (some ⟨j, 0, none⟩)) ∧ w'.cell? ⟨bf, 0, none⟩ = some (.int .i64 from_) ∧ w'.cell? ⟨bw, 0, none⟩ = some v := by
 obtain ⟨a, n, c, rfl⟩ := hv
 go_in
 go_wp2_with fail
 go_ret
 refine ⟨w.heap.size, w.heap.size + 1, w.heap.size + 1 + 1, rfl, (((aB.refl [] w).alloc _).alloc _).alloc _, aQ _, by omega, by omega, ?_, ?_, ?_⟩
 ·exact aD (GA _ _ _ _) 0
 ·exact aD (GB _ _ _ _) 0
 exact aD (GC _ _ _ _) 0
def jO (n : Nat) (ws : List Wr) (i : Nat) : Bs := dS n ++ aN ws.length ++ (ws.take i).flatMap fun x => aN x.1
def lX (ws : List Wr) (i : Nat) : Bs := fD 0 ++ (ws.take i).flatMap fun x => x.2
theorem NL (n : Nat) {ws : List Wr} {i : Nat} {y : Wr} (h : ws[i]? = some y) : jO n ws (i + 1) = jO n ws i ++ aN y.1 := by
 unfold jO
 rw [iK, h]
 simp
theorem NM {ws : List Wr} {i : Nat} {y : Wr} (h : ws[i]? = some y) : lX ws (i + 1) = lX ws i ++ y.2 := by
 unfold lX
 rw [iK, h]
 simp
theorem NN {n : Nat} (hn : n < 2 ^ 64) {ws : List Wr} (h : gA ws) (i : Nat) : (jO n ws i).length ≤ 52 := by
 have h1 := qJ hn
 have h2 := Ep (w := ws.take i) fun x hx => h.at_ x (rM hx)
 have h3 := h.many
 have h4 : (aN ws.length).length ≤ 1 := mE 0 _ (by omega)
 have h5 : (ws.take i).length ≤ 16 := by rw [bX]; omega
 simp only [jO, bD]
 omega
theorem GE : ∀ (ws : List Wr), (∀ x ∈ ws, x.2.length = 512) → (ws.flatMap fun x => x.2).length = 512 * ws.length
 | [], _ => rfl
 | x :: ws, h => by
  have h1 := h x (by simp)
  have h2 := GE ws fun y hy => h y (by simp [hy])
  simp only [jT, bD, eG] at *
  omega
theorem NO {ws : List Wr} (h : gA ws) (i : Nat) : (lX ws i).length ≤ 8200 := by
 have h2 := GE (ws.take i) fun x hx => h.len x (rM hx)
 have h3 := h.many
 have h5 : (ws.take i).length ≤ 16 := by rw [bX]; omega
 simp only [lX, fD, bD, eG, lJ]
 omega
theorem GF (w : World) (n : Nat) (hn : n < 18446744073709551616) {G : List Nat} {v : Value} {ws : List Wr} (hw : eR w G v ws) (hok : gA ws) :
  Calls Tryz.prog 108 #[.int .u64 n, v] w fun e w' => ∃ v', e = .returned v' ∧ Ow w' w.heap.size v' (gY n ws) ∧ aB [] w w' := by
 have HW := aA hw
 have HO := aA hok
 obtain ⟨a, c, rfl, hc1, hc2, -⟩ := hw.slice
 have hm16 := hok.many
 have HS : Hid (∀ i, i < ws.length → ∃ y, ws[i]? = some y) := aA fun i h => ⟨_, bL h⟩
 have HHl := aA fun i => NN (n := n) (by omega) hok i
 have HAl := aA fun i => NO hok i
 have HP : ∀ (W : World) (B : Nat) (ty : TypeId) (fz : Nat × Nat), W.heap[B]? = some (.cells #[.int .u8 99, .int .u8 97, .int .u8 114, .int .u8 116, .int .u8 117, .int .u8 108, .int .u8 97, .int .u8 114, .int .u8 121] ty fz) → Calls Tryz.prog 95 #[.slice (some ⟨B, 0, none⟩) 9 9, .int .u64 n] W fun e w' => ∃ v', e = .returned v' ∧ Ow w' W.heap.size v' (dS n) ∧ aB [] W w' :=
  fun W B ty fz h => nX W (tC (l := jW) (B := B) (ty := ty) (fz := fz) (w := W) h (by decide)) n hn (by decide)
 replace HP := aA HP
 have HP2 : Hid (∀ (W : World) (v : Value), Rd W v (dS n) → Calls Tryz.prog 95 #[v, .int .u64 ws.length] W fun e w' => ∃ v', e = .returned v' ∧ Ow w' W.heap.size v' (jO n ws 0) ∧ aB [] W w') :=
  aA fun W v h => (nX W h ws.length (by omega) (by have := qJ (k := n) (by omega); omega)).mono fun e w' ⟨v', h1, h2, h3⟩ => ⟨v', h1, by simpa [jO] using h2, h3⟩
 have hcv := Go.Lib.run_convert_bytes_const w 23 5 #[.int .u8 99, .int .u8 97, .int .u8 114, .int .u8 116, .int .u8 117, .int .u8 108, .int .u8 97, .int .u8 114, .int .u8 121] 9 9 T8.und Tryz.underlying5
 have HFin : Hid (jO n ws ws.length = rS n ws ∧ lX ws ws.length = fD 0 ++ ws.flatMap fun x => x.2) := aA (by simp [jO, lX, rS])
 have HA0 : Hid ([] ++ fD 0 = lX ws 0) := aA (by simp [lX])
 generalize hL : ws.length = L at *
 clear hw hok hL
 go_in
 go_wp2_with fail
 refine (HP.out _ _ _ _ (aX _ _)).mono ?_
 rintro e w1 ⟨v1, rfl, ho, hU⟩
 have H1 := aA (aC (ho.base (by simp) : Ow w1 w.heap.size v1 (dS n)) (((aB.refl [] w).alloc _).trans hU))
 obtain ⟨a1, c1, m1, -, rfl⟩ := ho.sliceM
 clear ho hU hcv
 go_wp2_with fail
 refine (HP2.out w1 _ (Ow.rd H1.out.1)).mono ?_
 rintro e w2 ⟨v2, rfl, ho, hU⟩
 have H2 := aA (aC ho (H1.out.2.trans hU))
 have hs2 := H1.out.2.size
 obtain ⟨a2, c2, m2, -, rfl⟩ := ho.sliceM
 clear ho hU
 go_wp2_with fail
 refine (BL w2 (Rd.nil _) 0 (by omega) (by simp)).mono ?_
 rintro e w3 ⟨v3, rfl, ho, hU⟩
 rw [HA0.out] at ho
 have H3 := aA (aC ho (H2.out.2.trans hU))
 have hs3 := H2.out.2.size
 have HD3 : Hid (Ow w3 w.heap.size (.slice a2 m2 c2) (jO n ws 0)) := aA ((H2.out.1.upd hU (by simp)).base hs2)
 have HN3 : Hid (∀ g, (Value.slice a2 m2 c2).ownBlock = some g → v3.ownBlock ≠ some g) := aA fun g h1 h2 => by have := (H2.out.1.block g h1).2; have := (ho.block g h2).1; omega
 obtain ⟨a3, c3, m3, -, rfl⟩ := ho.sliceM
 clear ho hU
 go_wp2_with fail
 go_loopg [5, 6, 23] L (fun k v5 v6 v23 wr => ∃ (i : Nat) (a5 a6 : Option Addr) (m5 k5 m6 k6 : Nat), v5 = .slice a5 m5 k5 ∧ v6 = .slice a6 m6 k6 ∧ v23 = .int .i64 i ∧ i ≤ L ∧ k = L - i ∧ Hid (Ow wr w.heap.size (.slice a5 m5 k5) (jO n ws i) ∧ Ow wr w.heap.size (.slice a6 m6 k6) (lX ws i) ∧ aB [] w wr ∧ ∀ g, (Value.slice a5 m5 k5).ownBlock = some g → (Value.slice a6 m6 k6).ownBlock ≠ some g))
 case atStart => exact ⟨0, a2, a3, _, _, _, _, rfl, rfl, rfl, by omega, rfl, aA ⟨HD3.out, H3.out.1.base (by omega), H3.out.2, HN3.out⟩⟩
 case round =>
  clear H1 H2 H3 HD3 HN3 hs2 hs3 HP HP2 HA0
  obtain ⟨i, a5, a6, m5, k5, m6, k6, rfl, rfl, rfl, hi, rfl, H4⟩ := hrel
  by_cases hil : i < L
  ·have hlt : (i : Int) < (L : Int) := by omega
   obtain ⟨y, hy⟩ := HS.out i hil
   obtain ⟨a', c', hv, -, -, hat⟩ := (HW.out.less (G' := []) (by simp)).upd H4.out.2.2.1 (G' := []) (by simp) |>.slice
   simp only [fG] at hv
   obtain ⟨rfl, -, rfl⟩ := hv
   obtain ⟨b, off, b2, off2, e2, rfl, hb1, hb2, k0, k1, hr, hb3, hb4⟩ := hat i y hy
   have hyat := HO.out.at_ y (fC hy)
   have hy5 := HO.out.len y (fC hy)
   have HY := aA (aC (NL n hy) (NM hy))
   obtain ⟨ya, yb⟩ := y
   dsimp only at k0 k1 hr hyat hy5 HY
   have HR := aA hr
   clear hat hr hy
   go_wp2_with fail
   generalize hW1 : wr.alloc _ = W1
   have hu1 : aB [] wr W1 := by rw [← hW1]; exact (aB.refl [] wr).alloc _
   have hX : W1.heap[wr.heap.size]? = some (.cells #[.int .i64 ya, .slice (some ⟨b2, off2, none⟩) 512 e2] 168) := by rw [← hW1]; exact aX _ _
   clear hW1 k0 k1
   refine (nX W1 (Ow.rd (H4.out.1.upd hu1 (by simp))) ya (by omega) (by have := HHl.out i; omega)).mono ?_
   rintro e w5 ⟨v5, rfl, ho5, hU5⟩
   rw [← HY.out.1] at ho5
   have d3 : w5.cell? ⟨wr.heap.size, 1, none⟩ = some (.slice (some ⟨b2, off2, none⟩) 512 e2) := eQ hU5 (aD hX 1)
   have HO5 := aA ho5
   have HU5 := aA (hu1.trans hU5)
   have HO6 : Hid (Ow w5 w.heap.size (.slice a6 m6 k6) (lX ws i)) := aA (H4.out.2.1.upd HU5.out (by simp))
   have hsA := H4.out.2.2.1.size
   have hsB := HU5.out.size
   have hsC := hu1.size
   have HN5 : Hid (∀ g, v5.ownBlock = some g → wr.heap.size ≤ g ∧ g < w5.heap.size) := aA fun g hg => by have := ho5.block g hg; omega
   have HN6 : Hid (∀ g, (Value.slice a6 m6 k6).ownBlock = some g → w.heap.size ≤ g ∧ g < wr.heap.size) := aA fun g hg => H4.out.2.1.block g hg
   have hal := HAl.out i
   have hyl : yb.length = 512 := hy5
   obtain ⟨a7, c7, m7, -, rfl⟩ := ho5.sliceM
   clear ho5 hU5 hX hu1
   go_wp2_with (first
    | (at_builtin; refine fS T8 rfl _ _ rfl (l := lX ws i) (r := yb) rfl HO6.out (by first | rfl | (rw [hyl]; rfl)) (HR.out.keep HU5.out).src (lQ _) ?c1 ?c2 ?c3 ?_)
    | fail)
   case c1 => omega
   case c2 => omega
   case c3 => omega
   intro v8 w8 ho8 hg8 hn8
   rw [← HY.out.2] at ho8
   have HU8 : Hid (aB [] w w8) := aA ((H4.out.2.2.1.trans HU5.out).grown hg8 (fun g hg => (HN6.out g hg).1))
   have HO7 : Hid (Ow w8 w.heap.size (.slice a7 m7 c7) (jO n ws (i + 1))) := aA (by
    have h1 : Ow w5 w.heap.size (.slice a7 m7 c7) (jO n ws (i + 1)) := HO5.out.base (by omega)
    refine h1.upd (F := (Value.slice a6 m6 k6).ownBlock.toList) ⟨hg8.os, hg8.output, hg8.size, fun k hk hn => hg8.block k hk (fun q => hn (by simp [q]))⟩ fun j hj q => ?_
    have e6 : (Value.slice a6 m6 k6).ownBlock = some j := by simpa using hj
    have := HN5.out j q; have := HN6.out j e6; omega)
   have HN8 : Hid (∀ g, (Value.slice a7 m7 c7).ownBlock = some g → v8.ownBlock ≠ some g) := aA fun g h1 h2 => by
    have := HN5.out g h1
    rcases hn8 with q | q
    ·rw [q] at h2; have := HN6.out g h2; omega
    have := q g h2; omega
   have HO8 := aA ho8
   obtain ⟨a8, c8, m8, -, rfl⟩ := ho8.sliceM
   clear ho8 hg8 hn8 HO5 HN5 HN6 HO6
   go_wp2_with fail
   go_roundg (L - (i + 1))
   case rel => exact ⟨i + 1, a7, a8, _, _, _, _, rfl, rfl, by go_num, by omega, rfl, aA ⟨HO7.out, HO8.out, HU8.out, HN8.out⟩⟩
   case measure => omega
  have hlt : ¬ (i : Int) < (L : Int) := by omega
  obtain rfl : i = L := by omega
  have hal := HAl.out i
  have hhl := HHl.out i
  have hsA := H4.out.2.2.1.size
  have HN6 : Hid (∀ g, (Value.slice a6 m6 k6).ownBlock = some g → w.heap.size ≤ g) := aA fun g hg => (H4.out.2.1.block g hg).1
  have HM5 : Hid ((jO n ws i).length = m5) := aA (by
   obtain ⟨a', c', hv⟩ := H4.out.1.slice
   simp only [fG] at hv
   exact hv.2.1.symm)
  go_wp2_with (first
   | (at_builtin; refine fS T8 rfl _ _ rfl (l := lX ws i) (r := jO n ws i) rfl H4.out.2.1 (by rw [HM5.out]; rfl) (Ow.rd H4.out.1).src (lQ _) ?c1 ?c2 ?c3 ?_)
   | fail)
  case c1 => omega
  case c2 => omega
  intro v8 w8 ho8 hg8 hn8
  have HU8 : Hid (aB [] w w8) := aA (H4.out.2.2.1.grown hg8 (fun g hg => HN6.out g hg))
  have HO7 : Hid (Ow w8 w.heap.size (.slice a5 m5 k5) (jO n ws i)) := aA (by
   refine H4.out.1.upd (F := (Value.slice a6 m6 k6).ownBlock.toList) ⟨hg8.os, hg8.output, hg8.size, fun k hk hn => hg8.block k hk (fun q => hn (by simp [q]))⟩ fun j hj q => ?_
   have e6 : (Value.slice a6 m6 k6).ownBlock = some j := by simpa using hj
   exact H4.out.2.2.2 j q e6)
  have HR8 := aA (Ow.rd ho8)
  obtain ⟨a8, c8, m8, -, rfl⟩ := ho8.sliceM
  clear ho8 hg8 hn8
  have hsum := yZ (lX ws i ++ jO n ws i)
  go_wp2_with fail
  refine (BN w8 HR8.out).mono ?_
  rintro e w9 ⟨rfl, hU9⟩
  have HU9 := aA (HU8.out.trans hU9)
  have HO9 := aA (HO7.out.upd hU9 (by simp))
  clear hU9
  go_wp2_with fail
  refine (BL w9 (Ow.rd HO9.out) (jU (lX ws i ++ jO n ws i)) hsum (by omega)).mono ?_
  rintro e w10 ⟨v10, rfl, ho10, hU10⟩
  have HU10 := aA (HU9.out.trans hU10)
  have hs10 := HU9.out.size
  have eB : jO n ws i ++ fD (jU (lX ws i ++ jO n ws i)) = mG n ws := by rw [HFin.out.1, HFin.out.2]; rfl
  rw [eB] at ho10
  have hbl := Br (n := n) (by omega) HO.out
  have HR10 := aA (Ow.rd ho10)
  obtain ⟨a10, c10, m10, -, rfl⟩ := ho10.sliceM
  clear ho10 hU10 hsum eB
  have HPF := aA (BO w10 (Rd.nil w10) 106 HR10.out (by omega) (by simp))
  have e106 : ((106 : UInt8).toNat : Int) = 106 := rfl
  rewrite [e106] at HPF
  go_wp2_with fail
  refine HPF.out.mono ?_
  clear HPF e106
  rintro e w11 ⟨v11, rfl, ho11, hU11⟩
  have HU11 := aA (HU10.out.trans hU11)
  have hs11 := HU10.out.size
  have hs12 := hU11.size
  rw [show [] ++ cC 106 (mG n ws) = cC 106 (mG n ws) from rfl] at ho11
  have hfl := Er (n := n) (by omega) HO.out
  have hf0 : cC 106 (mG n ws) ≠ [] := by simp [cC, fD]
  have hpad : cC 106 (mG n ws) ++ List.replicate (512 - (cC 106 (mG n ws)).length) 0 = gY n ws := rfl
  clear hU11
  generalize hfr : cC 106 (mG n ws) = fr at *
  obtain ⟨a11, c11, m11, hm11, rfl⟩ := ho11.sliceM
  have hk : (512 : Int) - (m11 : Int) = ((512 - m11 : Nat) : Int) := by omega
  have hwk : IntKind.i64.wrap ((512 - m11 : Nat) : Int) = ((512 - m11 : Nat) : Int) := fF _ (by omega)
  obtain ⟨kk, hkk⟩ : ∃ kk, kk = 512 - m11 := ⟨_, rfl⟩
  rw [← hkk] at hk hwk
  have hk6 : fr.length + kk ≤ 1000000 := by omega
  have hm62 : m11 ≤ 62 := by omega
  have HKK := aA hkk
  have HM11 := aA hm11
  clear hkk hm11 hfr
  go_wp2_with (first
   | (refine zX rfl _ _ rfl (l := fr) (k := kk) rfl ho11 hf0 rfl hk6 (by omega) ?_)
   | fail)
  intro v12 w12 ho12 hg12 _
  have HU12 : Hid (aB [] w w12) := aA (HU11.out.grown hg12 (fun g hg => by have := (ho11.block g hg).1; omega))
  rw [HKK.out, HM11.out, hpad] at ho12
  have HO12 := aA (ho12.base (by omega : w.heap.size ≤ w10.heap.size))
  obtain ⟨a12, c12, m12, -, rfl⟩ := ho12.sliceM
  clear ho12 hg12
  go_wp2_with fail
  go_ret
  exact ⟨_, rfl, HO12.out, HU12.out⟩
def uM (w : World) (p : Nat) (D : aI) (F G : List Nat) (t : List cE) (R R' : World → Prop) (r : Ending) (w' : World) : Prop :=
 ∃ (e : Nat) (D' : aI) (F' : List Nat), r = .returned (.int .i64 e) ∧ bV t D e D' ∧ bN w' p D' F' ∧ aB G w w' ∧ (∀ k ∈ F', k ∈ F ∨ w.heap.size ≤ k) ∧ (e = 0 → R w') ∧ (e ≠ 0 → R' w')
theorem GG (w : World) {p : Nat} {D : aI} {F G : List Nat} (h : bN w p D F) (hdn : D.down = false) {B : Nat} (hB : B ∉ G) (cs : List iA) (ts : List (List cE)) (hl : ts.length = cs.length) (hlen : cs.length ≤ 100) (R : Nat → World → Prop) (R' : World → Prop)
  (hcell : ∀ (j : Nat) (x : iA), cs[j]? = some x → w.cell? ⟨B, j, none⟩ = some x.v) (hent : ∀ (i : Nat) (x : iA), cs[i]? = some x → ∀ args W, (callFunc x.f args).run Tryz.prog W = .ok (.enter x.f args) W) (h0 : R 0 w)
  (hcall : ∀ (i : Nat) (x : iA) (t : List cE), cs[i]? = some x → ts[i]? = some t → ∀ W D1 F1, bV (ts.take i).flatten D 0 D1 → bN W p D1 F1 → aB G w W → (∀ k ∈ F1, k ∈ F ∨ w.heap.size ≤ k) → R i W → ∃ G1, (∀ k ∈ G1, k ∈ G ∨ w.heap.size ≤ k) ∧ Calls Tryz.prog x.f (x.a ++ x.c) W (uM W p D1 F1 G1 t (R (i + 1)) R')) :
  Calls Tryz.prog 103 #[.slice (some ⟨B, 0, none⟩) cs.length cs.length] w (uM w p D F G ts.flatten (R cs.length) R') := by
 have hflat : ∀ i t, ts[i]? = some t → (ts.take (i + 1)).flatten = (ts.take i).flatten ++ t := fun i t ht => by
  rw [iK, ht]; simp
 have hrest : ∀ i t, ts[i]? = some t → ts.flatten = ((ts.take i).flatten ++ t) ++ (ts.drop (i + 1)).flatten := fun i t ht => by
  rw [← hflat i t ht, ← List.flatten_append, kW]
 refine (NK w (B := B) cs hlen (fun i W => ∃ D1 F1, bV (ts.take i).flatten D 0 D1 ∧ bN W p D1 F1 ∧ aB G w W ∧ (∀ k ∈ F1, k ∈ F ∨ w.heap.size ≤ k) ∧ R i W)
  (fun n W => uM w p D F G ts.flatten (R cs.length) R' (.returned (.int .i64 n)) W) ⟨D, F, by simpa using bV.refl hdn, h, aB.refl _ _, fun k hk => .inl hk, h0⟩ ?_ hent ?_).mono ?_
 ·rintro i W ⟨D1, F1, -, -, hU, -, -⟩ j x hx
  exact eH hU hB (hcell j x hx)
 ·rintro i x hx W ⟨D1, F1, hE, hD, hU, hF, hR⟩
  have hi : i < ts.length := by rw [hl]; exact (eX.1 hx).1
  obtain ⟨t, ht⟩ : ∃ t, ts[i]? = some t := ⟨_, bL hi⟩
  obtain ⟨G1, hG1, hc⟩ := hcall i x t hx ht W D1 F1 hE hD hU hF hR
  refine hc.mono ?_
  rintro r W' ⟨e, D2, F2, rfl, hE2, hD2, hU2, hF2, hr, hr'⟩
  have hUU : aB G w W' := hU.next hU2 fun k hk hlt => (hG1 k hk).resolve_right (by omega)
  have hF3 : ∀ k ∈ F2, k ∈ F ∨ w.heap.size ≤ k := fun k hk => by
   rcases hF2 k hk with q | q
   ·exact hF k q
   exact .inr (bG hU.size q)
  refine ⟨e, rfl, fun q => ?_, fun q => ?_⟩
  ·subst q
   exact ⟨D2, F2, by rw [hflat i t ht]; exact bV.next hE hE2, hD2, hUU, hF3, hr rfl⟩
  refine ⟨e, D2, F2, rfl, ?_, hD2, hUU, hF3, fun q2 => absurd q2 q, fun _ => hr' q⟩
  rw [hrest i t ht]
  exact bV.stop _ (bV.next hE hE2) q
 rintro r W ⟨n, rfl, hP, hQ⟩
 by_cases hn : n = 0
 ·subst hn
  obtain ⟨D1, F1, hE, hD, hU, hF, hR⟩ := hP rfl
  rw [dY (by omega)] at hE
  exact ⟨0, D1, F1, rfl, hE, hD, hU, hF, fun _ => hR, fun q => absurd rfl q⟩
 exact hQ hn
theorem eO.slots {l : Nat → aL} {k s : Nat} (h : eO l k s) (hk : k < 2 ^ 61) : (zZ fun i => (l i).view) ∧ tB (fun i => (l i).view) (1 - s) k (dS k) ∧ (∀ c' d', gH (l (1 - (1 - s))).view = some (c', d') → c' < k) ∧ 1 - (1 - s) = s := by
 have hs := h.two
 have e1 : 1 - (1 - s) = s := by omega
 have hn : gH (l (1 - s)).view = some (k, dS k) := by
  rw [h.new]
  show gH (eN k (dS k)) = _
  exact Eo (by omega) (by have := qJ (k := k) (by omega); omega)
 have ho : ∀ c' d', gH (l s).view = some (c', d') → c' < k := fun c' d' q => h.old c' d' (by rw [aL.view, h.pend] at q; exact q)
 refine ⟨fun i c d hi q => ?_, ⟨by omega, hn, fun c' d' q => ?_⟩, fun c' d' q => by rw [e1] at q; exact ho _ _ q, e1⟩
 ·by_cases hi1 : i = s
  ·subst hi1; have := ho _ _ q; omega
  obtain rfl : i = 1 - s := by omega
  dsimp only at q
  rw [hn] at q; cases q; omega
 rw [e1] at q; have := ho _ _ q; omega
theorem NP (w : World) {p : Nat} {D : aI} {F : List Nat} (h : bN w p D F) (hwr : D.wr ≤ 137438953000) {j n k : Nat} {dead : Bool} (hl : bZ w j p n k dead) (hjF : j ∉ F) {bl : Nat} (cl : w.cell? ⟨bl, 0, none⟩ = some (.pointer (some ⟨j, 0, none⟩))) (hbl : bl ∉ F)
  {s : Nat} (hs : eO D.blk k s) (hk : k < 2 ^ 61) :
  Calls Tryz.prog 150 #[.pointer (some ⟨bl, 0, none⟩)] w (dE w p D F [.write s (eN (k + 1) (dS (k + 1))), .flush]) := by
 have HD := aA h
 obtain ⟨hf, hi, ho, he⟩ := hs.slots hk
 have HFl := aA h.lt
 have HSt : Hid (∀ (W : World) (v : Value), aB [] w W → Ow W w.heap.size v (dS (k + 1)) → Calls Tryz.prog 151 #[.pointer (some ⟨p, 0, none⟩), .int .i64 0, v] W (dE W p D F [.write s (eN (k + 1) (dS (k + 1))), .flush])) :=
  aA fun W v u hv => by
   have := Mp W (h.upd u (by simp)) (by omega) hf hi ho (Ow.rd hv) (by have := qJ (k := k + 1) (by omega); omega) (fun b hb q => by have := (hv.block b hb).1; have := HFl.out b q; omega)
   rwa [he] at this
 have HDn : Hid (∀ W : World, Calls Tryz.prog 127 #[.int .u64 ((k : Int) + 1)] W fun e w' => ∃ v', e = .returned v' ∧ Ow w' W.heap.size v' (dS (k + 1)) ∧ aB [] W w') := aA fun W => by
  have := FR W (k + 1) (by omega)
  have e1 : ((k + 1 : Nat) : Int) = (k : Int) + 1 := by omega
  rwa [e1] at this
 have hwk : IntKind.u64.wrap ((k : Int) + 1) = (k : Int) + 1 := by rw [nU]; omega
 have hj := aH hl
 have cD : w.drew.cell? ⟨bl, 0, none⟩ = some (.pointer (some ⟨j, 0, none⟩)) ∧ w.drew.cell? ⟨j, 0, none⟩ = some (.pointer (some ⟨p, 0, none⟩)) ∧ w.drew.cell? ⟨j, 2, none⟩ = some (.int .u64 k) := ⟨cl, aD hl 0, aD hl 2⟩
 clear h hs hf hi ho he hl
 go_in
 go_wp2_with fail
 go_region_held3 (fun w' => w'.cell? ⟨bl, 0, none⟩ = some (.pointer (some ⟨j, 0, none⟩)) ∧ w'.cell? ⟨j, 0, none⟩ = some (.pointer (some ⟨p, 0, none⟩)) ∧ w'.cell? ⟨j, 2, none⟩ = some (.int .u64 k))
  (first
   | (with_reducible exact cD)
   | (with_reducible exact vV hu6 (by simp) (by simp) (by simp) cD)
   | (with_reducible exact vV hU7 hbl hjF hjF (vV hu6 (by simp) (by simp) (by simp) cD)))
  (first
   | (go_at_call 127; (with_reducible refine (HDn.out _).mono ?_); rintro e w6 ⟨v6, rfl, ho6, hu6⟩; obtain ⟨a6, c6, m6, hm6, rfl⟩ := ho6.sliceM; have HO6 := aA ho6; clear ho6 hm6)
   | (go_at_call 151; (with_reducible refine (HSt.out _ _ ?_ ?_).mono ?_); (exact (aB.refl [] w).drew.trans hu6); (exact HO6.out); rintro e w7 ⟨e7, D7, F7, rfl, hE7, hD7, hU7, hF7⟩; have H7 := aA (aC hE7 (aC hD7 hF7)); clear hE7 hD7 hF7))
 go_wp2_with fail
 go_ret
 exact dE.from ((aB.refl [] w).drew.trans hu6) ⟨e7, D7, F7, rfl, H7.out.1, H7.out.2.1, hU7, H7.out.2.2⟩
theorem CA (ws : List Wr) : (eL ws).length = ws.length := by simp [eL]
theorem NQ {ws : List Wr} {i : Nat} {y : Wr} (h : ws[i]? = some y) : (eL ws)[i]? = some (.write (qX 0 i y.1) y.2) := by
 simp [eL, h, qX]
theorem xP (ws : List Wr) (i : Nat) : (gI ws i).length = ws.length := by simp [gI]
theorem NR {ws : List Wr} {i : Nat} {y : Wr} (h : ws[i]? = some y) (f : Nat) (hf : f ≠ 0) : (gI ws f)[i]? = some (.write (qX f i y.1) y.2) := by
 obtain ⟨hi, rfl⟩ := eX.1 h
 simp [gI, hi, qX, hf]
theorem CB {w : World} {b o : Nat} {v : Value} (h : w.cell? ⟨b, o, none⟩ = some v) : b < w.heap.size := kX _ _ h
theorem eO.home {l : Nat → aL} {k s : Nat} (h : eO l k s) {ws : List Wr} : eO (exec (eL ws) l) k s := by
 induction ws generalizing l with
 | nil => exact h
 | cons x ws ih => exact ih (h.write _ (by omega))
theorem GH {w w' : World} {G : List Nat} (u : aB G w w') {b0 o0 b1 o1 : Nat} {v0 v1 : Value} (h0 : b0 ∉ G) (h1 : b1 ∉ G) (h : w.cell? ⟨b0, o0, none⟩ = some v0 ∧ w.cell? ⟨b1, o1, none⟩ = some v1) :
  w'.cell? ⟨b0, o0, none⟩ = some v0 ∧ w'.cell? ⟨b1, o1, none⟩ = some v1 := ⟨eH u h0 h.1, eH u h1 h.2⟩
theorem GI {W : World} {B : Nat} {cs : List iA} {ty : TypeId} {fz : Nat × Nat} (h : W.heap[B]? = some (.cells (cs.map iA.v).toArray ty fz)) : ∀ (i : Nat) (x : iA), cs[i]? = some x → W.cell? ⟨B, i, none⟩ = some x.v := by
 intro i x hx
 rw [aD h]
 simp [hx]
theorem NS (w : World) {p : Nat} {D : aI} {F : List Nat} {j n k : Nat} {dead : Bool} (hl : bZ w j p n k dead) (hk : k < 2 ^ 61) {v : Value} (hv : ∃ a m c, v = .slice a m c) {T : List cE} (hjF : j ∉ F) (hFl : ∀ k ∈ F, k < w.heap.size)
  (HST : ∀ (W : World) (B bl bf bw bl0 : Nat), aB [] w W → w.heap.size ≤ B → w.heap.size ≤ bl → w.heap.size ≤ bf → w.heap.size ≤ bw → w.heap.size ≤ bl0 → W.cell? ⟨bl0, 0, none⟩ = some (.pointer (some ⟨j, 0, none⟩)) → W.cell? ⟨bl, 0, none⟩ = some (.pointer (some ⟨j, 0, none⟩)) → W.cell? ⟨bf, 0, none⟩ = some (.int .i64 0) → W.cell? ⟨bw, 0, none⟩ = some v →
   (∀ (i : Nat) (x : iA), [(⟨148, #[], #[.pointer (some ⟨bw, 0, none⟩), .pointer (some ⟨bf, 0, none⟩), .pointer (some ⟨bl, 0, none⟩)]⟩ : iA), ⟨105, #[.pointer (some ⟨p, 0, none⟩)], #[]⟩, ⟨150, #[], #[.pointer (some ⟨bl0, 0, none⟩)]⟩][i]? = some x → W.cell? ⟨B, i, none⟩ = some x.v) →
   Calls Tryz.prog 103 #[.slice (some ⟨B, 0, none⟩) 3 3] W (uM W p D F F T (fun _ => True) (fun _ => True))) :
  Calls Tryz.prog 110 #[.pointer (some ⟨j, 0, none⟩), v] w fun r w' => ∃ (e : Nat) (D' : aI) (F' : List Nat), r = .returned (.int .i64 e) ∧ bV T D e D' ∧ bN w' p D' F' ∧ bZ w' j p n (if e = 0 then k + 1 else k) dead ∧ aB (j :: F) w w' ∧ ∀ i ∈ F', i ∈ F ∨ w.heap.size ≤ i := by
 obtain ⟨a, m, c, rfl⟩ := hv
 have HLg := aA hl
 have HST := aA HST
 have HW0 : Hid (∀ W : World, Calls Tryz.prog 104 #[.pointer (some ⟨j, 0, none⟩), .int .i64 0, .slice a m c] W fun e w' => ∃ bl bf bw, e = .returned (.func (.func 148) #[] #[.pointer (some ⟨bw, 0, none⟩), .pointer (some ⟨bf, 0, none⟩), .pointer (some ⟨bl, 0, none⟩)]) ∧ aB [] W w' ∧
   W.heap.size ≤ bl ∧ W.heap.size ≤ bf ∧ W.heap.size ≤ bw ∧ w'.cell? ⟨bl, 0, none⟩ = some (.pointer (some ⟨j, 0, none⟩)) ∧ w'.cell? ⟨bf, 0, none⟩ = some (.int .i64 0) ∧ w'.cell? ⟨bw, 0, none⟩ = some (.slice a m c)) := aA fun W => by
  have := GD W j 0 (.slice a m c) ⟨_, _, _, rfl⟩
  simpa using this
 have hj := aH hl
 clear hl
 go_in
 go_wp2_with fail
 have hu0 : aB [] w (w.alloc (.cells #[.pointer (some ⟨j, 0, none⟩)] 77)) := (aB.refl [] w).alloc _
 have hX0 := aX w (.cells #[.pointer (some ⟨j, 0, none⟩)] 77)
 have hsz : w.heap.size < (w.alloc (.cells #[.pointer (some ⟨j, 0, none⟩)] 77)).heap.size := by simp
 generalize (w.alloc (.cells #[.pointer (some ⟨j, 0, none⟩)] 77)) = w0 at *
 have cD : w0.drew.cell? ⟨w.heap.size, 0, none⟩ = some (.pointer (some ⟨j, 0, none⟩)) ∧ w0.drew.cell? ⟨j, 0, none⟩ = some (.pointer (some ⟨p, 0, none⟩)) := ⟨aD hX0 0, aD (HLg.out.upd hu0 (by simp)) 0⟩
 have HU0 := aA hu0
 have hnF : w.heap.size ∉ F := fun q => Be _ (hFl _ q)
 clear hX0 hu0
 go_region_held3 (fun w' => w'.cell? ⟨w.heap.size, 0, none⟩ = some (.pointer (some ⟨j, 0, none⟩)) ∧ w'.cell? ⟨j, 0, none⟩ = some (.pointer (some ⟨p, 0, none⟩)))
  (first
   | (with_reducible exact cD)
   | (with_reducible exact iT hu6 cD)
   | (with_reducible exact iT (hu6.alloc _) cD)
   | (with_reducible exact GH hU7 hnF hjF (iT (hu6.alloc _) cD)))
  (first
   | (go_at_call 104; (with_reducible refine (HW0.out _).mono ?_); rintro e w6 ⟨bl, bf, bw, rfl, hu6, hb1, hb2, hb3, hc1, hc2, hc3⟩; have hu06 : aB [] w w6 := HU0.out.trans ((aB.refl [] w0).drew.trans hu6); have hs06 : w0.heap.size ≤ w6.heap.size := hu6.size)
   | (go_at_call 103; (with_reducible refine (HST.out _ w6.heap.size bl bf bw w.heap.size ?_ ?_ ?_ ?_ ?_ ?_ ?_ ?_ ?_ ?_ ?_).mono ?_); (exact hu06.alloc _); (exact hu06.size); (exact bG (tV hsz) hb1); (exact bG (tV hsz) hb2); (exact bG (tV hsz) hb3); (exact aQ _); (exact eQ (hu6.alloc _) cD.1); (exact eQ ((aB.refl [] w6).alloc _) hc1); (exact eQ ((aB.refl [] w6).alloc _) hc2); (exact eQ ((aB.refl [] w6).alloc _) hc3); (exact GI (aX _ _)); rintro e w7 ⟨e7, D7, F7, rfl, hE7, hD7, hU7, hF7, -, -⟩; have hU70 : aB F w w7 := ((hu06.alloc _).mono (by simp)).trans hU7; have H7 := aA (aC hE7 (aC hD7 (fun (k : Nat) (hk : k ∈ F7) => (hF7 k hk).imp id (fun q => bG hu06.size (bG (tV (by simp)) q)))))))
 all_goals
  have HU7 := aA hU70
  have hL7 : bZ w7 j p n k dead := HLg.out.upd hU70 hjF
  have HL7 := aA hL7
  have c0 := (GH hU7 hnF hjF (iT (hu6.alloc _) cD)).1
  have c2 := aD hL7 2
  have f2 := aZ hL7 2
  have c2 : w7.cell? ⟨j, 2, none⟩ = some (.int .u64 k) := c2
  have hwk : IntKind.u64.wrap ((k : Int) + 1) = (k : Int) + 1 := by rw [nU]; omega
  clear hU70 hL7 hE7 hD7 hU7 hF7 cD hc1 hc2 hc3 hu6 hu06 hb1 hb2 hb3 HW0 HST
  by_cases he : e7 = 0
  ·subst he
   go_wp2_with fail
   go_ret
   have e1 : ((k : Int) + 1) = ((k + 1 : Nat) : Int) := by omega
   have hu9 : aB [j] w7 (w7.setCell ⟨j, 2, none⟩ (.int .u64 ((k : Int) + 1))) := (aB.refl _ _).setCell (by simp) _ _
   have hl9 : bZ (w7.setCell ⟨j, 2, none⟩ (.int .u64 ((k : Int) + 1))) j p n (k + 1) dead := by
    show (w7.setCell _ _).heap[j]? = _
    rw [bJ, aF rfl, HL7.out]
    show some (Obj.cells #[_, _, .int .u64 ((k : Int) + 1), _] _ _) = some (Obj.cells #[_, _, .int .u64 ((k + 1 : Nat) : Int), _] _ _)
    rw [e1]
   have hjF7 : j ∉ F7 := fun q => by
    rcases H7.out.2.2 j q with q | q
    ·exact hjF q
    omega
   refine ⟨0, D7, F7, rfl, H7.out.1, H7.out.2.1.upd hu9 (fun i hi q => by obtain rfl := aM.1 q; exact hjF7 hi), hl9, ?_, H7.out.2.2⟩
   exact (HU7.out.mono (fun i hi _ => iZ _ hi)).trans (hu9.mono (by simp))
  have he2 : ¬ (e7 : Int) = 0 := by omega
  go_wp2_with fail
  go_ret
  refine ⟨e7, D7, F7, rfl, H7.out.1, H7.out.2.1, ?_, HU7.out.mono (fun i hi _ => iZ _ hi), H7.out.2.2⟩
  rw [aE he]; exact HL7.out
def CC (w : World) (j p n k : Nat) (dead : Bool) (D : aI) (F : List Nat) (T : List cE) (r : Ending) (w' : World) : Prop :=
 ∃ (e : Nat) (D' : aI) (F' : List Nat), r = .returned (.int .i64 e) ∧ bV T D e D' ∧ bN w' p D' F' ∧ bZ w' j p n (if e = 0 then k + 1 else k) dead ∧ aB (j :: F) w w' ∧ ∀ i ∈ F', i ∈ F ∨ w.heap.size ≤ i
theorem GJ (w : World) {p : Nat} {D : aI} {F : List Nat} (h : bN w p D F) (hdn : D.down = false) (hwr : D.wr ≤ 137438951000) {j n k : Nat} {dead : Bool} (hl : bZ w j p n k dead) (hjF : j ∉ F) (hk : k < 2 ^ 61) {s : Nat} (hs : eO D.blk k s)
  {v : Value} {ws : List Wr} (hw : eR w F v ws) (hok : gA ws) (hhi : ∀ x ∈ ws, x.1 + 20 < D.n) :
  Calls Tryz.prog 110 #[.pointer (some ⟨j, 0, none⟩), v] w (CC w j p n k dead D F (eL ws ++ fR (k + 1) s)) := by
 obtain ⟨a, c, hv, -⟩ := hw.slice
 have hFl := h.lt
 refine NS w hl hk ⟨a, _, c, hv⟩ (T := eL ws ++ fR (k + 1) s) hjF hFl ?_
 intro W B bl bf bw bl0 u hB h1 h2 h3 h4 c0 c1 c2 c3 hcell
 have nF : ∀ {b}, w.heap.size ≤ b → b ∉ F := fun hb q => by have := hFl _ q; omega
 have hm := hok.many
 refine (GG W (h.upd u (by simp)) hdn (G := F) (nF hB) _ [eL ws, [.flush], [.write s (eN (k + 1) (dS (k + 1))), .flush]] rfl (by simp) (fun _ _ => True) (fun _ => True) hcell ?_ trivial ?_).mono ?_
 ·intro i x hx args W'
  match i, hx with
  | 0, hx => cases hx; exact Tryz.call148 _ _
  | 1, hx => cases hx; exact Tryz.call105 _ _
  | 2, hx => cases hx; exact Tryz.call150 _ _
 ·intro i x t hx ht W' D1 F1 hE hD1 hU hF1 _
  have hn1 := hE.n
  have hw1 := hE.wr
  have hjF1 : j ∉ F1 := fun q => by
   rcases hF1 _ q with q | q
   ·exact hjF q
   have := aH hl; have := u.size; omega
  have nF1 : ∀ {b o : Nat} {x : Value}, w.heap.size ≤ b → W.cell? ⟨b, o, none⟩ = some x → b ∉ F1 := fun hb hc q => by
   rcases hF1 _ q with q | q
   ·exact nF hb q
   have := CB hc; omega
  have hup : aB F w W' := (u.mono (by simp)).trans hU
  have hF1' : ∀ b ∈ F1, b ∈ F ∨ w.heap.size ≤ b := fun b hb => (hF1 b hb).imp id (fun q => bG u.size q)
  have hd0 := hE.up.2.1
  refine ⟨F1, fun b hb => (hF1 b hb), ?_⟩
  have hGo : ∀ {r W2}, dE W' p D1 F1 t r W2 → uM W' p D1 F1 F1 t (fun _ => True) (fun _ => True) r W2 := fun ⟨e, D2, F2, q1, q2, q3, q4, q5⟩ => ⟨e, D2, F2, q1, q2, q3, q4, q5, fun _ => trivial, fun _ => trivial⟩
  have hlg : bZ W' j p n k dead := (hl.upd u (by simp)).upd hU hjF
  match i, hx, ht with
  | 0, hx, ht =>
   cases hx; cases ht
   refine Calls.mono (Gz W' hD1 hd0 (by simp at hw1; omega) hlg hjF1 (from_ := 0) (by omega) (eH hU (nF h3) c3) (eH hU (nF h2) c2) (eH hU (nF h1) c1) (nF1 h2 c2) (nF1 h1 c1) (hw.upd hup hF1') (eL ws) (CA ws) fun i y hy => ⟨NQ hy, ?_⟩) fun _ _ => hGo
   have := hhi y (fC hy)
   rw [hn1]; unfold qX; rw [aF rfl]; omega
  | 1, hx, ht =>
   cases hx; cases ht
   exact (vP W' hD1 (by simp [CA] at hw1; omega)).mono fun _ _ => hGo
  | 2, hx, ht =>
   cases hx; cases ht
   have hsl : eO D1.blk k s := by
    have := hE.up.2.2.2
    rw [this]
    have e : (([eL ws, [.flush], [.write s (eN (k + 1) (dS (k + 1))), .flush]] : List (List cE)).take 2).flatten = eL ws ++ [.flush] := by simp
    rw [e, lN]
    exact hs.home.flush
   exact (NP W' hD1 (by simp [CA] at hw1; omega) hlg hjF1 (eH hU (nF h4) c0) (nF1 h4 c0) hsl hk).mono fun _ _ => hGo
 rintro r W2 ⟨e, D2, F2, q1, q2, q3, q4, q5, -⟩
 have e1 : ([eL ws, [.flush], [.write s (eN (k + 1) (dS (k + 1))), .flush]] : List (List cE)).flatten = eL ws ++ fR (k + 1) s := by simp [fR]
 rw [e1] at q2
 exact ⟨e, D2, F2, q1, q2, q3, q4, q5, fun _ => trivial, fun _ => trivial⟩
end Go.Proofs.YtgpefiacbipfpaaGreatDoor
