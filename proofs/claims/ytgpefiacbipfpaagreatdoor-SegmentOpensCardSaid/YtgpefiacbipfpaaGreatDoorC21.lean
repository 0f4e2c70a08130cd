/- What is taken: plain laws of takeR, and rows of truths that are marked. -/
import Derived.Deep.DeepCutAuto
import Derived.Test.YtgpefiacbipfpaaGreatDoorC20
set_option maxRecDepth 100000
set_option maxHeartbeats 4000000
namespace Go.Proofs.YtgpefiacbipfpaaGreatDoor
open Go.RowKit Go.Maps
theorem Ox : ∀ l : List aR, cL l 0 = []
 | [] => rfl
 | r :: l => by rw [cL, aF rfl]
theorem CP : ∀ (pre : List aR) (x : aR) (n : Nat), cL (pre ++ [x]) n = cL pre n ++ (if n ≤ aY pre then [] else [(x.1, min x.2 (n - aY pre))])
 | [], x, n => by
  simp only [List.nil_append, cL, aY, kT, List.sum_nil, Nat.le_zero, yW]
 | r :: l, x, n => by
  simp only [List.cons_append, cL]
  by_cases h0 : n = 0
  ·subst h0; simp
  rw [aE h0, aE h0, CP l x (n - min r.2 n), List.cons_append]
  congr 2
  have e : aY (r :: l) = r.2 + aY l := by simp [aY]
  rw [e]
  by_cases h : n ≤ r.2 + aY l
  ·rw [aF h, aF (by omega)]
  rw [aE h, aE (by omega), show n - min r.2 n - aY l = n - (r.2 + aY l) by omega]
theorem Hj : ∀ (pre t : List aR) (n : Nat), n ≤ aY pre → cL (pre ++ t) n = cL pre n
 | [], t, n, h => by
  have : n = 0 := by simpa [aY] using h
  subst this
  simp [Ox]
 | r :: l, t, n, h => by
  have e : aY (r :: l) = r.2 + aY l := by simp [aY]
  rw [e] at h
  simp only [List.cons_append, cL]
  rw [Hj l t (n - min r.2 n) (by omega)]
theorem Oy {pre full : List aR} (h : pre <+: full) {n : Nat} (hn : n ≤ aY pre) : cL full n = cL pre n := by
 obtain ⟨t, rfl⟩ := h
 exact Hj pre t n hn
theorem Hk : ∀ (l : List aR) (n : Nat), (cL l n).length ≤ l.length
 | [], n => by simp [cL]
 | r :: l, n => by
  rw [cL]
  split
  ·simp
  simp only [eG]; have := Hk l (n - min r.2 n); omega
def fT (l : List Bool) (rs : List aR) : List Bool := (bY rs).foldl (fun l i => l.set i true) l
theorem rC (l : List Bool) (rs : List aR) : (fT l rs).length = l.length := by
 unfold fT
 generalize bY rs = L
 induction L generalizing l with
 | nil => rfl
 | cons i L ih => rw [uY, ih]; simp
theorem As (l : List Bool) (rs : List aR) (i : Nat) : (fT l rs).getD i true = (l.getD i true || decide (i ∈ bY rs)) := by
 unfold fT
 generalize bY rs = L
 induction L generalizing l with
 | nil => simp
 | cons j L ih =>
  rw [uY, ih]
  simp only [dI, DM, aJ, Bool.decide_or]
  by_cases h : j = i
  ·subst h
   simp only [if_true]
   by_cases hl : j < l.length
   ·simp [hl]
   simp [hl]
  rw [aE h]
  have : decide (i = j) = false := by simp; exact fun e => h e.symm
  rw [this, Bool.false_or]
theorem Hl (l : List Bool) (rs : List aR) (a : Nat) : fT l (rs ++ [(a, 0)]) = fT l rs := by
 unfold fT; rw [mU, mV]; simp
theorem Hm (l : List Bool) (rs : List aR) (a i : Nat) : fT l (rs ++ [(a, i + 1)]) = (fT l (rs ++ [(a, i)])).set (a + i) true := by
 unfold fT
 rw [mU, mU, mV, mV]
 simp only
 rw [List.range'_concat, ← eJ, AT]
 simp
theorem CQ {w : World} {base g c n : Nat} {l : List Bool} (h : eV w base (.slice (some ⟨g, 0, none⟩) n c) l) (i : Nat) (_hi : i < l.length) (b : Bool) :
  eV (w.setCell ⟨g, i, none⟩ (.bool b)) base (.slice (some ⟨g, 0, none⟩) n c) (l.set i b) := by
 obtain ⟨h1, h2⟩ := h
 have e0 : (l.set i b).length = l.length := by simp
 refine ⟨by rw [gJ TB], ?_⟩
 rcases h2 with ⟨h2, -⟩ | ⟨g', cap, cur, hv, hg, hh, r1, r2, r3, r4⟩
 ·cases h2
 cases hv
 refine .inr ⟨g, c, cur.setIfInBounds i (.bool b), by rw [e0], hg, ?_, by rw [e0]; exact r1, r2, by simpa using r3, ?_⟩
 ·rw [bJ, aF rfl, hh]; rfl
 rw [e0, wO, yV, r4]
 have hf : ∀ l : List Bool, aP cB l = l.map Value.bool := fun l => by
  induction l with
  | nil => rfl
  | cons x l ih => simp only [aP, jT, dR] at ih ⊢; rw [ih]; rfl
 rw [hf, hf, List.map_set]
theorem eV.row {w : World} {base : Nat} {v : Value} {l : List Bool} (h : eV w base v l) (hl : 0 < l.length) : ∃ g c, v = .slice (some ⟨g, 0, none⟩) l.length c ∧ base ≤ g ∧ g < w.heap.size ∧ w.heap[g]?.isSome = true ∧ (∃ cur, w.heap[g]? = some (.cells cur 4 (0, 0)) ∧ l.length ≤ cur.size) := by
 rcases h.2 with ⟨hv, h2⟩ | ⟨g, cap, cur, hv, hg, hh, r1, r2, r3, r4⟩
 ·omega
 refine ⟨g, cap, hv, hg, aH hh, by rw [hh]; rfl, cur, hh, ?_⟩
 omega
attribute [local go_sem] Oper.semAt_some
theorem vX {α : Type} {f : α → List Value} {e : TypeId} {k C base : Nat} {v : Value} {l : List α} : eC C fun W => aK f e k W base v l := fun X Y F h u hr => by
 refine h.upd u fun j hj hv => ?_
 obtain ⟨-, o, ho, hn⟩ := hr j hj
 rcases h.2 with ⟨rfl, -⟩ | ⟨g, cap, cur, rfl, -, hg, -⟩
 ·cases hv
 simp only [Value.ownBlock, fY] at hv
 subst hv
 rw [hg] at ho; cases ho; cases hn
theorem Oz {C base q : Nat} {nv lv : Value} {now last : List Bool} : eC C fun W => fJ W base q nv lv now last := fun X Y F h u hr =>
 ⟨pG rfl X Y F h.box u hr, vX X Y F h.now u hr, vX X Y F h.last u hr, h.ne1, h.ne2, bG h.fit u.size, h.sep⟩
structure kJ (w : World) (s1 Bl q base : Nat) (nv lv : Value) (last : List Bool) (v : Value) (L : List aR) (M : List Bool) (r : Nat) (W : World) : Prop where
 m : W.heap[w.heap.size]? = some (.cells #[.pointer (some ⟨q, 0, none⟩)] 81 (0, 0))
 n : W.heap[w.heap.size + 1]? = some (.cells #[.int .i64 r] 3 (0, 0))
 l : W.heap[Bl]? = some (.cells #[v] 90 (0, 0))
 o : aK cR 148 2 W w.heap.size v L
 map : fJ W base q nv lv M last
 upd : aB nv.ownBlock.toList w W
 sz : s1 ≤ W.heap.size
theorem xR {w : World} {C s1 Bl q base : Nat} {nv lv v : Value} {last M : List Bool} {L : List aR} {r : Nat} (hC : w.heap.size ≤ C) : eC C (kJ w s1 Bl q base nv lv last v L M r) := fun X Y F h u hr =>
 ⟨pG rfl X Y F h.m u hr, pG rfl X Y F h.n u hr, pG rfl X Y F h.l u hr, vX X Y F h.o u hr, Oz X Y F h.map u hr, Ar hC X Y F h.upd u hr, bG h.sz u.size⟩
theorem kJ.keep {w X Y : World} {s1 Bl q base : Nat} {nv lv v : Value} {last M : List Bool} {L : List aR} {r : Nat} (h : kJ w s1 Bl q base nv lv last v L M r X) (u : aB [] X Y) : kJ w s1 Bl q base nv lv last v L M r Y :=
 xR (aQ _) X Y [] h u (by simp)
theorem fJ.upd {w w' : World} {base q : Nat} {nv lv : Value} {now last : List Bool} (h : fJ w base q nv lv now last) {F : List Nat} (u : aB F w w') (hq : q ∉ F) (hn : ∀ j ∈ F, nv.ownBlock ≠ some j) (hl : ∀ j ∈ F, lv.ownBlock ≠ some j) : fJ w' base q nv lv now last :=
 ⟨(u.block q (aH h.box) hq).trans h.box, h.now.upd u hn, h.last.upd u hl, h.ne1, h.ne2, bG h.fit u.size, h.sep⟩
theorem kJ.new {w X Y : World} {s1 Bl q base : Nat} {nv lv v : Value} {last M : List Bool} {L : List aR} {r : Nat} (h : kJ w s1 Bl q base nv lv last v L M r X) {B : Nat} (u : aB [B] X Y) (hB : w.heap.size + 1 < B) (hBl : B ≠ Bl) (hq : q < w.heap.size) (hn : ∀ g, nv.ownBlock = some g → g < w.heap.size) (hl : ∀ g, lv.ownBlock = some g → g < w.heap.size) (hv : v.ownBlock ≠ some B) : kJ w s1 Bl q base nv lv last v L M r Y :=
 ⟨(u.block _ (aH h.m) (by simp; omega)).trans h.m, (u.block _ (aH h.n) (by simp; omega)).trans h.n, (u.block _ (aH h.l) (by simp; omega)).trans h.l,
  h.o.upd u (fun j hj e => by simp at hj; subst hj; exact hv e), h.map.upd u (by simp; omega) (fun j hj e => by simp at hj; subst hj; have := hn _ e; omega) (fun j hj e => by simp at hj; subst hj; have := hl _ e; omega),
  h.upd.next u (fun k hk hlt => by simp at hk; omega), bG h.sz u.size⟩
theorem kJ.mark {w X : World} {s1 Bl q base g c nn : Nat} {lv v : Value} {last M : List Bool} {L : List aR} {r : Nat} (h : kJ w s1 Bl q base (.slice (some ⟨g, 0, none⟩) nn c) lv last v L M r X) (hBl : w.heap.size ≤ Bl) (hg : g < w.heap.size) (i : Nat) (hi : i < M.length) :
  kJ w s1 Bl q base (.slice (some ⟨g, 0, none⟩) nn c) lv last v L (M.set i true) r (X.setCell ⟨g, i, none⟩ (.bool true)) := by
 have u : aB [g] X (X.setCell ⟨g, i, none⟩ (.bool true)) := (aB.refl _ _).setCell (by simp) _ _
 refine ⟨(u.block _ (aH h.m) (by simp; omega)).trans h.m, (u.block _ (aH h.n) (by simp; omega)).trans h.n, (u.block _ (aH h.l) (by simp; omega)).trans h.l,
  h.o.upd u (fun j hj e => by simp at hj; subst hj; have := (h.o.block _ e).1; omega), ⟨(u.block q (aH h.map.box) ?_).trans h.map.box, CQ h.map.now i hi true, h.map.last.upd u ?_, h.map.ne1, h.map.ne2, bG h.map.fit u.size, h.map.sep⟩,
  h.upd.trans (u.mono (by simp [Value.ownBlock])), bG h.sz u.size⟩
 ·have := h.map.ne1 g rfl
  simp; omega
 intro j hj e
 simp at hj
 subst hj
 exact h.map.sep _ rfl e
theorem eM.low {N : Nat} {W : World} {B o : Nat} (h : B < N) (v : Value) : eM N W (W.setCell ⟨B, o, none⟩ v) := fun k vs ty fr' hN hk hty => by
 rw [bJ, aE (by omega)]; exact hk
theorem KeepsOthers.of_upd {W W' : World} {F : List Nat} (u : aB F W W') (hF : ∀ j ∈ F, ∀ o, W.heap[j]? = some o → o.isCells = true) : KeepsOthers W W' :=
 ⟨u.size, fun k o hk hc => (u.block k (aH hk) fun hj => by rw [hF k hj o hk] at hc; cases hc).trans hk⟩
theorem xS {α : Type} {f : α → List Value} {e t : TypeId} {k base B : Nat} {W : World} {v : Value} {l : List α} {c : Array Value} {fr : Nat × Nat} (h : aK f e k W base v l) (hb : W.heap[B]? = some (.cells c t fr)) (ht : t ≠ e) : v.ownBlock ≠ some B := by
 intro hv
 rcases h.2 with ⟨rfl, -⟩ | ⟨g, cap, cur, rfl, -, hg, -⟩
 ·cases hv
 simp only [Value.ownBlock, fY] at hv
 subst hv
 rw [hg] at hb
 simp only [fY, Ee] at hb
 exact ht hb.2.1.symm
theorem CR {α : Type} {f : α → List Value} {e : TypeId} {k base : Nat} {W : World} {v : Value} {l : List α} (h : aK f e k W base v l) : ∀ j, v.ownBlock = some j → ∃ c, W.heap[j]? = some (.cells c e (0, 0)) := by
 intro j hv
 rcases h.2 with ⟨rfl, -⟩ | ⟨g, cap, cur, rfl, -, hg, -⟩
 ·cases hv
 simp only [Value.ownBlock, fY] at hv
 subst hv
 exact ⟨cur, hg⟩
theorem Hn : ∀ {l : List aR}, (∀ r ∈ l, 1 ≤ r.2) → l.length ≤ aY l
 | [], _ => dH _
 | r :: l, h => by
  have h1 := h r (by simp)
  have h2 := Hn (l := l) fun x hx => h x (by simp [hx])
  have e : aY (r :: l) = r.2 + aY l := by simp [aY]
  rw [e, eG]; omega
theorem eM.of_upd {N : Nat} {A B : World} {F : List Nat} (u : aB F A B) (hF : ∀ j ∈ F, ∀ vs ty fr, A.heap[j]? = some (.cells vs ty fr) → ty ≠ 4 ∧ ty ≠ 149) : eM N A B := fun k vs ty fr _ hk hty =>
 (u.block k (aH hk) fun hj => by rcases hty with e | e; · exact (hF k hj _ _ _ hk).1 e
                                 ·exact (hF k hj _ _ _ hk).2 e).trans hk
theorem kJ.app {w A w7 : World} {s1 Bl q base d : Nat} {nv lv v v7 : Value} {last M : List Bool} {L L' : List aR} {r : Nat} (h : kJ w s1 Bl q base nv lv last v L M r A) (hs6 : w.heap.size + 1 < Bl) (hq : q < w.heap.size) (hn : ∀ g, nv.ownBlock = some g → g < w.heap.size) (hl : ∀ g, lv.ownBlock = some g → g < w.heap.size)
  (ho : aK cR 148 2 w7 w.heap.size v7 L') (hg : A.grownBy w7 v.ownBlock) :
  (w7.heap[Bl]? = some (.cells #[v] 90 (0, 0)) ∧ w7.heap[w.heap.size + 1]? = some (.cells #[.int .i64 r] 3 (0, 0))) ∧
  kJ w s1 Bl q base nv lv last v7 L' M d ((w7.setCell ⟨Bl, 0, none⟩ v7).setCell ⟨w.heap.size + 1, 0, none⟩ (.int .i64 d)) ∧ KeepsOthers A ((w7.setCell ⟨Bl, 0, none⟩ v7).setCell ⟨w.heap.size + 1, 0, none⟩ (.int .i64 d)) ∧ ∀ N, eM N A ((w7.setCell ⟨Bl, 0, none⟩ v7).setCell ⟨w.heap.size + 1, 0, none⟩ (.int .i64 d)) := by
 have hu := aB.of_grown hg
 have hne : ∀ {B : Nat} {c : Array Value} {t : TypeId} {fr : Nat × Nat}, A.heap[B]? = some (.cells c t fr) → t ≠ 148 → w7.heap[B]? = some (.cells c t fr) := fun hb ht =>
  (hu.block _ (aH hb) fun hj => xS h.o hb ht (by simpa using hj)).trans hb
 have b1 := hne h.m (by decide)
 have b2 := hne h.n (by decide)
 have b3 := hne h.l (by decide)
 have u2 : aB [Bl, w.heap.size + 1] w7 ((w7.setCell ⟨Bl, 0, none⟩ v7).setCell ⟨w.heap.size + 1, 0, none⟩ (.int .i64 d)) := ((aB.refl _ _).setCell (by simp) _ _).setCell (by simp) _ _
 have hold : ∀ j ∈ v.ownBlock.toList, w.heap.size ≤ j := fun j hj => (h.o.block j (by simpa using hj)).1
 have b2' : (w7.setCell ⟨Bl, 0, none⟩ v7).heap[w.heap.size + 1]? = some (.cells #[.int .i64 r] 3 (0, 0)) := by rw [bJ, aE (by omega)]; exact b2
 refine ⟨⟨b3, b2⟩, ⟨?_, vW b2' _, ?_, ?_, ?_, ?_, ?_⟩, ?_, fun N => ?_⟩
 ·rw [bJ, aE (by omega), bJ, aE (by omega)]; exact b1
 ·rw [bJ, aE (by omega)]; exact vW b3 _
 ·exact ho.upd u2 fun j hj => by
   simp only [aJ, cA, cG] at hj
   rcases hj with rfl | rfl
   ·exact xS ho b3 (by decide)
   exact xS ho b2 (by decide)
 ·refine (h.map.upd hu (fun hj => by have := hold _ hj; omega) (fun j hj e => by have := hold _ hj; have := hn _ e; omega) (fun j hj e => by have := hold _ hj; have := hl _ e; omega)).upd u2 (by simp; omega) (fun j hj e => ?_) (fun j hj e => ?_)
  ·have := hn _ e; simp at hj; omega
  have := hl _ e; simp at hj; omega
 ·exact (h.upd.next hu fun k hk hlt => by have := hold _ hk; omega).next u2 fun k hk hlt => by simp at hk; omega
 ·exact bG h.sz (bG hu.size u2.size)
 ·refine (KeepsOthers.of_upd hu fun j hj o hjo => ?_).trans ((KeepsOthers.setCell _ _ _).trans (KeepsOthers.setCell _ _ _))
  obtain ⟨c, hc⟩ := CR h.o j (by simpa using hj)
  rw [hc] at hjo; cases hjo; rfl
 refine (eM.of_upd hu fun j hj vs ty fr hjo => ?_).t ((eM.set b3 (by decide) (by decide) _).t (eM.set b2' (by decide) (by decide) _))
 obtain ⟨c, hc⟩ := CR h.o j (by simpa using hj)
 rw [hc] at hjo
 simp only [fY, Ee] at hjo
 obtain ⟨-, rfl, -⟩ := hjo
 exact ⟨by decide, by decide⟩
theorem OA (w : World) {q base : Nat} {nv lv : Value} {now last : List Bool} (h : fJ w base q nv lv now last) (hll : last.length = now.length) (hm : now.length ≤ 512) (n : Nat) (hn : aY (dZ (dG now last) now.length 0) < n) (hn2 : n ≤ 1000000) :
  Calls Tryz.prog 42 #[.pointer (some ⟨q, 0, none⟩), .int .i64 n] w fun e w' => e = .returned (.tuple #[.slice none 0 0, .int .i64 50]) ∧ aB [] w w' := by
 have HF := aA fun (W : World) (u : aB [] w W) => CO W (h.keepU u) hll hm
 have hn' : (aY (dZ (dG now last) now.length 0) : Int) < (n : Int) := by omega
 generalize aY (dZ (dG now last) now.length 0) = fr at *
 have hfr : (fr : Int) ≤ 1000000 := by omega
 have hb1 := aX (w.alloc (.cells #[.pointer (some ⟨q, 0, none⟩)] 81 (0, 0))) (.cells #[.int .i64 n] 3 (0, 0))
 have hb0 := jG (.cells #[.int .i64 n] 3 (0, 0)) (aX w (.cells #[.pointer (some ⟨q, 0, none⟩)] 81 (0, 0)))
 have hu : aB [] w ((w.alloc (.cells #[.pointer (some ⟨q, 0, none⟩)] 81 (0, 0))).alloc (.cells #[.int .i64 n] 3 (0, 0))) := ((aB.refl [] w).alloc _).alloc _
 rw [gW] at hb1
 go_in
 go_upto_region 1 with (fail)
 generalize (w.alloc (.cells #[.pointer (some ⟨q, 0, none⟩)] 81 (0, 0))).alloc (.cells #[.int .i64 n] 3 (0, 0)) = W0 at *
 have c0 := aD hb0 0
 have c1 := aD hb1 0
 simp only [bA, bB] at c0 c1
 have HU := aA hu
 clear h hb0 hb1 hu
 go_upto_region 3 with (fail)
 go_region_held3 (fun w' => w'.cell? ⟨w.heap.size, 0, none⟩ = some (.pointer (some ⟨q, 0, none⟩)) ∧ w'.cell? ⟨w.heap.size + 1, 0, none⟩ = some (.int .i64 n))
  (first
   | (with_reducible exact iT (aB.refl [] W0).drew ⟨c0, c1⟩)
   | (with_reducible exact iT hv6 ⟨c0, c1⟩))
  (first
   | (go_at_call 87; (with_reducible refine (HF.out _ ?_).mono ?_); (exact HU.out.drew); rintro e w6 ⟨rfl, hu6⟩; have hv6 : aB [] W0 w6 := (aB.refl [] W0).drew.trans hu6))
 go_wp2_with fail
 go_ret2
 exact ⟨rfl, HU.out.trans hv6⟩
theorem Ho (w : World) {q base : Nat} {nv lv : Value} {now last : List Bool} (h : fJ w base q nv lv now last) (hll : last.length = now.length) (hm : now.length ≤ 512) (n : Nat) (hn : n ≤ aY (dZ (dG now last) now.length 0)) :
  Calls Tryz.prog 42 #[.pointer (some ⟨q, 0, none⟩), .int .i64 n] w fun e w' => ∃ rv, e = .returned (.tuple #[rv, .int .i64 0]) ∧ aK cR 148 2 w' w.heap.size rv (cL (dZ (dG now last) now.length 0) n) ∧
   fJ w' base q nv lv (fT now (cL (dZ (dG now last) now.length 0) n)) last ∧ aB nv.ownBlock.toList w w' := by
 have HF := aA fun (W : World) (u : aB [] w W) => CO W (h.keepU u) hll hm
 have hfr2 := Hi now last
 have hn' : ¬ (aY (dZ (dG now last) now.length 0) : Int) < (n : Int) := by omega
 have hn3 : (n : Int) ≤ 512 := by omega
 have HN := aA hn
 have HM := aA h
 generalize hfr : aY (dZ (dG now last) now.length 0) = fr at *
 have hfr3 : (fr : Int) ≤ 1000000 := by omega
 have hb1 := aX (w.alloc (.cells #[.pointer (some ⟨q, 0, none⟩)] 81 (0, 0))) (.cells #[.int .i64 n] 3 (0, 0))
 have hb0 := jG (.cells #[.int .i64 n] 3 (0, 0)) (aX w (.cells #[.pointer (some ⟨q, 0, none⟩)] 81 (0, 0)))
 have hu : aB [] w ((w.alloc (.cells #[.pointer (some ⟨q, 0, none⟩)] 81 (0, 0))).alloc (.cells #[.int .i64 n] 3 (0, 0))) := ((aB.refl [] w).alloc _).alloc _
 rw [gW] at hb1
 have HFR := aA hfr
 have HFR2 := aA hfr2
 clear hfr hfr2 hn
 refine (jJ (n := 6)).1 ?_
 refine callsIn_of_wp_marks Tryz.func42 rfl trivial ?_ rfl
 simp only [Tryz.ntmps42, lI, eG, lJ, Nat.reduceAdd, Nat.reduceSub, DT, DU, DV, DW, List.nil_append, List.cons_append]
 refine wpIn_wide.2 ?_
 go_upto_region 1 with (fail)
 generalize (w.alloc (.cells #[.pointer (some ⟨q, 0, none⟩)] 81 (0, 0))).alloc (.cells #[.int .i64 n] 3 (0, 0)) = W0 at *
 have c0 := aD hb0 0
 have c1 := aD hb1 0
 simp only [bA, bB] at c0 c1
 have HU := aA hu
 have HB0 := aA hb0
 have HB1 := aA hb1
 clear h hb0 hb1 hu
 go_upto_region 3 with (fail)
 go_region_held3 (fun w' => w'.cell? ⟨w.heap.size, 0, none⟩ = some (.pointer (some ⟨q, 0, none⟩)) ∧ w'.cell? ⟨w.heap.size + 1, 0, none⟩ = some (.int .i64 n))
  (first
   | (with_reducible exact iT (aB.refl [] W0).drew ⟨c0, c1⟩)
   | (with_reducible exact iT hv6 ⟨c0, c1⟩))
  (first
   | (go_at_call 87; (with_reducible refine (HF.out _ ?_).mono ?_); (exact HU.out.drew); rintro e w6 ⟨rfl, hu6⟩; have hv6 : aB [] W0 w6 := (aB.refl [] W0).drew.trans hu6))
 have k0 : ∀ X, (w6.alloc X).cell? ⟨w.heap.size, 0, none⟩ = some (.pointer (some ⟨q, 0, none⟩)) := fun X => eQ (hv6.alloc X) c0
 go_wp2_with (go_at_call 88; refine (He _ _).mono ?_; rintro e w7 ⟨rfl, rfl⟩)
 have hm1 := gF ((hv6.alloc (.cells #[.slice none 0 0] 90 (0, 0))).alloc (.cells #[.pointer (some ⟨q, 0, none⟩)] 81 (0, 0))) HB0.out
 have hn1 := gF ((hv6.alloc (.cells #[.slice none 0 0] 90 (0, 0))).alloc (.cells #[.pointer (some ⟨q, 0, none⟩)] 81 (0, 0))) HB1.out
 have hl1 := jG (.cells #[.pointer (some ⟨q, 0, none⟩)] 81 (0, 0)) (aX w6 (.cells #[.slice none 0 0] 90 (0, 0)))
 have hbm := aX (w6.alloc (.cells #[.slice none 0 0] 90 (0, 0))) (.cells #[.pointer (some ⟨q, 0, none⟩)] 81 (0, 0))
 have hu1 : aB [] w ((w6.alloc (.cells #[.slice none 0 0] 90 (0, 0))).alloc (.cells #[.pointer (some ⟨q, 0, none⟩)] 81 (0, 0))) := ((HU.out.trans hv6).alloc _).alloc _
 rw [gW] at hbm
 have hs6 : w.heap.size + 1 < w6.heap.size := dN (aH HB1.out) hv6.size
 generalize hWW : (w6.alloc (.cells #[.slice none 0 0] 90 (0, 0))).alloc (.cells #[.pointer (some ⟨q, 0, none⟩)] 81 (0, 0)) = W1 at *
 try simp only [gW]
 clear hWW
 generalize w6.heap.size = Bl at *
 clear k0
 go_wp2_with fail
 refine (wpIn_wide (n := 6)).1 ?_
 have hsz : Bl + 1 < W1.heap.size := aH hbm
 have hM := HM.out.keepU hu1
 refine Hd (gf := 137) (lb := #[.pointer (some ⟨Bl + 1, 0, none⟩)]) rfl (enters_of Tryz.func137 (by kernel_rfl) rfl)
  (Hg 5 (aQ _) (aD hbm 0) hM hll hm) eM.t (fun W l o o' _ ho hc => eM.b W l o o' ho hc) (aB.refl [] _) (fun _ => rfl)
  (fun pre W => ∃ v, kJ w W1.heap.size Bl q base nv lv last v (cL pre n) (fT now (cL pre n)) (n - aY pre) W)
  (fun c pre W => (c = .exit 1 ∧ n ≤ aY pre) ∧ ∃ v, kJ w W1.heap.size Bl q base nv lv last v (cL pre n) (fT now (cL pre n)) (n - aY pre) W)
  (fun _ => eC.ex fun _ => xR (by omega))
  (fun _ _ => rB.and (eC.ex fun _ => xR (by omega)))
  ⟨_, hm1, by simpa [aY] using hn1, hl1, aK.nil _ _, hM, hu1.mono (by simp), aQ _⟩
  (fun x a' W => ∃ (Bx : Nat) (vl : Value), (W1.heap.size ≤ Bx ∧ vl.ownBlock ≠ some Bx ∧ a' = { tmps := #[.pointer (some ⟨q, 0, none⟩), .int .i64 n, .pointer (some ⟨w.heap.size, 0, none⟩), .pointer (some ⟨w.heap.size + 1, 0, none⟩), .slice none 0 0, .int .i64 0, .pointer (some ⟨Bl, 0, none⟩), .pointer (some ⟨Bx, 0, none⟩), undef, .bool (decide ((n : Int) < 0)), .pointer (some ⟨q, 0, none⟩), .bool false, .bool false, .int .i64 n, .bool (decide ((n : Int) < 0)), .bool (decide ((n : Int) < 0)), .bool false, .int .i64 n, .pointer (some ⟨q, 0, none⟩), .int .i64 fr, .bool false, .pointer (some ⟨q, 0, none⟩), .func (.func 137) #[] #[.pointer (some ⟨Bl + 1, 0, none⟩)], .agg #[.int .i64 x.1, .int .i64 x.2], undef, undef, undef, undef, undef, undef, undef, undef, undef, undef, undef, undef, undef, undef, undef, undef, undef, undef, undef, undef, undef, undef, undef, undef, undef, undef, undef, undef, undef, undef, undef], defers := [] }) ∧ W.heap[Bx]? = some (.cells #[.int .i64 x.1, .int .i64 x.2] 148 (0, 0)) ∧ W.heap[Bl]? = some (.cells #[vl] 90 (0, 0)))
  (fun _ _ => eC.ex fun _ => eC.ex fun _ => rB.and ((pG rfl).and (pG rfl)))
  ?assign ?body ?done ?stop
 case assign =>
  rintro l pre x W K ⟨v, hi⟩ hK
  gi_wp2
  exact hK _ _ (KeepsOthers.alloc _ _) (eM.u ((aB.refl [] W).alloc _)) ⟨v, hi.keep ((aB.refl [] W).alloc _)⟩ ⟨W.heap.size, v, ⟨hi.sz, fun e => by have := (hi.o.block _ e).2; omega, rfl⟩, aX _ _, jG _ hi.l⟩
 case body =>
  rintro l pre x a' W ⟨v, hi⟩ ⟨Bx, vl, ⟨hBx, hvB, rfl⟩, hbx, hbl⟩ hpre
  obtain rfl : v = vl := by have := hi.l; rw [hbl] at this; simpa using this.symm
  clear hbl
  obtain ⟨av, cv, mv, hmv, rfl⟩ := hi.o.sliceM
  have HMV := aA hmv
  clear hmv
  have HI := aA hi
  have HP := aA hpre
  have cn := aD hi.n 0
  simp only [bA, bB] at cn
  clear hpre
  by_cases hr0 : n ≤ aY pre
  ·have e0 : n - aY pre = 0 := by omega
   rw [e0] at cn
   clear hi
   gi_wp2
   refine ⟨KeepsOthers.refl _, ⟨rfl, by rw [uQ]; omega⟩, .slice av mv cv, ?_⟩
   rw [CP, aF hr0, sN, show n - aY (pre ++ [x]) = n - aY pre by rw [uQ]; omega]
   exact HI.out
  obtain ⟨r, hr⟩ : ∃ r, r = n - aY pre := ⟨_, rfl⟩
  rw [← hr] at cn
  have hr1 : 0 < r := by omega
  have hrn : ¬ (r : Int) = 0 := by omega
  have hrn2 : r ≠ 0 := by omega
  have hr5 : (r : Int) ≤ 512 := by omega
  have HRr := aA hr
  have HR0 := aA hr0
  have hle := CN HP.out
  rw [uQ] at hle
  have hx5 : (x.2 : Int) ≤ 512 := by have := HFR.out; have := HFR2.out; omega
  have d0 := aD hbx 0
  have d1 := aD hbx 1
  have g1 := aZ hbx 1
  simp only [bA, bB, bS] at d0 d1
  clear hi hr hr0 hle
  have hbx2 : ∀ T : Nat, (W.setCell ⟨Bx, 1, none⟩ (.int .i64 T)).heap[Bx]? = some (.cells #[.int .i64 x.1, .int .i64 T] 148 (0, 0)) := fun T => by rw [bJ, aF rfl, hbx]; rfl
  have hq := aH HM.out.box
  have hnb : ∀ g, nv.ownBlock = some g → g < w.heap.size := fun g hg => (HM.out.now.block g hg).2
  have hlb : ∀ g, lv.ownBlock = some g → g < w.heap.size := fun g hg => (HM.out.last.block g hg).2
  have hst2 : ∀ T : Nat, kJ w W1.heap.size Bl q base nv lv last (.slice av mv cv) (cL pre n) (fT now (cL pre n ++ [(x.1, 0)])) (n - aY pre) (W.setCell ⟨Bx, 1, none⟩ (.int .i64 T)) := fun T => by
   rw [Hl]
   exact HI.out.new ((aB.refl [Bx] W).setCell (by simp) _ _) (by omega) (by omega) hq hnb hlb hvB
  have hkp2 : ∀ T : Nat, eM W1.heap.size W (W.setCell ⟨Bx, 1, none⟩ (.int .i64 T)) := fun T => eM.set hbx (by decide) (by decide) _
  have hko2 : ∀ T : Nat, KeepsOthers W (W.setCell ⟨Bx, 1, none⟩ (.int .i64 T)) := fun T => KeepsOthers.setCell _ _ _
  have HS2 := aA fun T => aC (hbx2 T) (aC (hst2 T) (aC (hkp2 T) (hko2 T)))
  clear hbx2 hst2 hkp2 hko2 hbx
  have hml := rC now (cL pre n)
  obtain ⟨hrow1, hrow2⟩ : 1 ≤ x.2 ∧ x.1 + x.2 ≤ now.length := wV _ _ _ _ (HP.out.subset (by simp))
  obtain ⟨g, c, rfl, hgb, hgl, -, -⟩ := eV.row HM.out.now (by omega)
  gi_wp2
  case' inr => obtain ⟨T, hT⟩ : ∃ T, T = x.2 := ⟨_, rfl⟩
  case' inl => obtain ⟨T, hT⟩ : ∃ T, T = r := ⟨_, rfl⟩
  all_goals
   have hTm : T = min x.2 r := by omega
   rw [← hT]
   have HTm := aA hTm
   have hTr : T ≤ r := by omega
   have hTx : T ≤ x.2 := by omega
   clear hT hTm
   obtain ⟨hbx2, hst2, hkp2, hko2⟩ := HS2.out T
   generalize W.setCell ⟨Bx, 1, none⟩ (.int .i64 T) = W2 at *
   gi_loopw [33] (fun v33 wr => ∃ i : Nat, v33 = .int .i64 i ∧ i ≤ T ∧ Hid (kJ w W1.heap.size Bl q base (.slice (some ⟨g, 0, none⟩) now.length c) lv last (.slice av mv cv) (cL pre n) (fT now (cL pre n ++ [(x.1, i)])) (n - aY pre) wr ∧
    wr.heap[Bx]? = some (.cells #[.int .i64 x.1, .int .i64 T] 148 (0, 0)) ∧ eM W1.heap.size W wr ∧ KeepsOthers W wr)) (fun v33 _ => T - (intOf v33).toNat)
   case atStart => exact ⟨0, rfl, dH _, aA ⟨hst2, hbx2, hkp2, hko2⟩⟩
   case round =>
    obtain ⟨i, rfl, hi, HR⟩ := hrel
    clear hbx2 hst2 hkp2 hko2
    have k0 := aD HR.out.1.m 0
    have k1 := aD HR.out.1.map.box 0
    have k2 := aD HR.out.2.1 0
    simp only [bA, bB] at k0 k1 k2
    by_cases hiT : i < T
    ·have hiT' : (i : Int) < (T : Int) := by omega
     have hT5 : (T : Int) ≤ 512 := by omega
     have hb5 : (x.1 : Int) + (i : Int) < (now.length : Int) := by omega
     have hml2 := rC now (cL pre n ++ [(x.1, i)])
     obtain ⟨j, hj⟩ : ∃ j, j = x.1 + i := ⟨_, rfl⟩
     have hwr : IntKind.i64.wrap ((x.1 : Int) + (i : Int)) = (j : Int) := by rw [fF _ (by omega)]; omega
     have hj5 : (j : Int) < (now.length : Int) := by omega
     have hj6 : j < now.length := by omega
     have HJj := aA hj
     clear hj
     gi_wp2
     refine Hc (S := fun X => X.cell? ⟨w.heap.size, 0, none⟩ = some (.pointer (some ⟨q, 0, none⟩)) ∧ X.cell? ⟨q, 0, none⟩ = some (.slice (some ⟨g, 0, none⟩) now.length c) ∧ X.cell? ⟨Bx, 0, none⟩ = some (.int .i64 x.1)) (by kernel_rfl) (by kernel_rfl) (fun ⟨_, _, h⟩ => h) ⟨k0, k1, k2⟩ (fun hHeld => ?_)
     refine wpAnyH_take (i := 0) (oi := ⟨some 36, _, _, _, _, _⟩) (v := .pointer (some ⟨q, 0, none⟩)) rfl (by kernel_rfl) (by kernel_rfl) (by kernel_rfl) (fun _ _ _ h => h) (Or.inl ⟨by rfl, by (intro W hSW; obtain ⟨hS1, hS2, hS3⟩ := hSW; go_simp)⟩) hHeld ?_
     simp only [Act.put, aW, aU, aT]
     refine wpAnyH_take (i := 1) (oi := ⟨some 37, _, _, _, _, _⟩) (v := .pointer (some ⟨q, 0, none⟩)) rfl (by kernel_rfl) (by kernel_rfl) (by kernel_rfl) (fun _ _ _ h => h) (Or.inl ⟨by rfl, by (intro W hSW; obtain ⟨hS1, hS2, hS3⟩ := hSW; go_simp)⟩) hHeld ?_
     simp only [Act.put, aW, aU, aT]
     refine wpAnyH_take (i := 2) (oi := ⟨some 38, _, _, _, _, _⟩) (v := .pointer (some ⟨q, 0, none⟩)) rfl (by kernel_rfl) (by kernel_rfl) (by kernel_rfl) (fun _ _ _ h => h) (Or.inl ⟨by rfl, by (intro W hSW; obtain ⟨hS1, hS2, hS3⟩ := hSW; go_simp)⟩) hHeld ?_
     simp only [Act.put, aW, aU, aT]
     refine wpAnyH_take (i := 3) (oi := ⟨some 39, _, _, _, _, _⟩) (v := .slice (some ⟨g, 0, none⟩) now.length c) rfl (by kernel_rfl) (by kernel_rfl) (by kernel_rfl) (fun _ _ _ h => h) (Or.inl ⟨by rfl, by (intro W hSW; obtain ⟨hS1, hS2, hS3⟩ := hSW; go_simp)⟩) hHeld ?_
     simp only [Act.put, aW, aU, aT]
     refine wpAnyH_take (i := 4) (oi := ⟨some 40, _, _, _, _, _⟩) (v := .pointer (some ⟨Bx, 0, none⟩)) rfl (by kernel_rfl) (by kernel_rfl) (by kernel_rfl) (fun _ _ _ h => h) (Or.inl ⟨by rfl, by (intro W hSW; obtain ⟨hS1, hS2, hS3⟩ := hSW; go_simp)⟩) hHeld ?_
     simp only [Act.put, aW, aU, aT]
     refine wpAnyH_take (i := 5) (oi := ⟨some 41, _, _, _, _, _⟩) (v := .int .i64 x.1) rfl (by kernel_rfl) (by kernel_rfl) (by kernel_rfl) (fun _ _ _ h => h) (Or.inl ⟨by rfl, by (intro W hSW; obtain ⟨hS1, hS2, hS3⟩ := hSW; go_simp)⟩) hHeld ?_
     simp only [Act.put, aW, aU, aT]
     refine wpAnyH_take (i := 6) (oi := ⟨some 42, _, _, _, _, _⟩) (v := .int .i64 i) rfl (by kernel_rfl) (by kernel_rfl) (by kernel_rfl) (fun _ _ _ h => h) (Or.inl ⟨by rfl, by (intro W hSW; obtain ⟨hS1, hS2, hS3⟩ := hSW; go_simp)⟩) hHeld ?_
     simp only [Act.put, aW, aU, aT]
     refine wpAnyH_take (i := 7) (oi := ⟨some 43, _, _, _, _, _⟩) (v := .int .i64 j) rfl (by kernel_rfl) (by kernel_rfl) (by kernel_rfl) (fun _ _ _ h => h) (Or.inl ⟨by rfl, by (intro W hSW; obtain ⟨hS1, hS2, hS3⟩ := hSW; go_simp)⟩) hHeld ?_
     simp only [Act.put, aW, aU, aT]
     refine wpAnyH_take (i := 8) (oi := ⟨some 44, _, _, _, _, _⟩) (v := .pointer (some ⟨g, j, none⟩)) rfl (by kernel_rfl) (by kernel_rfl) (by kernel_rfl) (fun _ _ _ h => h) (Or.inl ⟨by rfl, by (intro W hSW; obtain ⟨hS1, hS2, hS3⟩ := hSW; go_simp)⟩) hHeld ?_
     simp only [Act.put, aW, aU, aT]
     obtain ⟨cur, hcur, hcl⟩ : ∃ cur, wr.drew.heap[g]? = some (.cells cur 4 (0, 0)) ∧ now.length ≤ cur.size := by
      have hm0 := HR.out.1.map.now
      obtain ⟨g', c', hv', -, -, -, cur, h1, h2⟩ := eV.row hm0 (by rw [hml2]; omega)
      simp only [fG, fY, yX] at hv'
      obtain ⟨⟨rfl, -, -⟩, -, -⟩ := hv'
      exact ⟨cur, h1, by rw [← hml2]; exact h2⟩
     have kg : wr.drew.cell? ⟨g, j, none⟩ = some cur[j] := by rw [aD hcur]; exact Array.getElem?_eq_getElem (by omega)
     have fg := aZ hcur j
     refine wpAnyH_ready (rs := [9]) (by kernel_rfl) (by simp) ?_
     refine AllReadyH.cons (o := ⟨none, _, _, _, _, _⟩) rfl (fun K hK => ?_) AllReadyH.nil
     go_simp
     have hqg : q ≠ g := fun e => HM.out.ne1 g rfl e.symm
     refine hK.out _ _ ⟨?_, ?_, ?_⟩ (fun _ => ?_)
     ·show (wr.setCell _ _).cell? _ = _; rw [World.cell?_setCell_far _ _ _ _ (fun e => by dsimp only at e; omega)]; exact k0
     ·show (wr.setCell _ _).cell? _ = _; rw [World.cell?_setCell_far _ _ _ _ (fun e => by dsimp only at e; omega)]; exact k1
     ·show (wr.setCell _ _).cell? _ = _; rw [World.cell?_setCell_far _ _ _ _ (fun e => by dsimp only at e; omega)]; exact k2
     clear hK K
     try simp only [Act.put, aW, aU, aT]
     refine wpAnyH_done (by kernel_rfl) ?_ _
     gi_wp2
     go_roundw
     case rel =>
      refine ⟨i + 1, by simp, by omega, aA ⟨?_, ?_, HR.out.2.2.1.t (eM.t (B := wr.setCell ⟨g, j, none⟩ (.bool true)) (eM.low (by omega) _) (eM.u (aB.refl [] _).drew)), HR.out.2.2.2.trans ((KeepsOthers.setCell _ _ _).trans (KeepsOthers.of_upd (aB.refl [] _).drew (by simp)))⟩⟩
      ·rw [Hm, ← HJj.out]
       exact (HR.out.1.mark (by omega) (by omega) j (by rw [hml2]; omega)).keep (aB.refl [] _).drew
      show (wr.setCell _ _).heap[_]? = _; rw [bJ, aE (by omega)]; exact HR.out.2.1
     case measure => simp only [intOf]; omega
    obtain rfl : i = T := by omega
    have hiT' : ¬ (i : Int) < (i : Int) := by omega
    have k3 := aD HR.out.2.1 1
    have k4 := aD HR.out.1.l 0
    have k5 := aD HR.out.1.n 0
    rw [← HRr.out] at k5
    simp only [bA, bB, bS] at k3 k4 k5
    obtain ⟨d, hd⟩ : ∃ d, d = r - i := ⟨_, rfl⟩
    have hwd : IntKind.i64.wrap ((r : Int) - (i : Int)) = (d : Int) := by rw [fF _ (by omega)]; omega
    have HD := aA hd
    clear hd
    have hUa : aB [] wr (wr.alloc (.cells #[.int .i64 x.1, .int .i64 i] 148 (0, 0))).drew := ((aB.refl [] wr).alloc _).drew
    have HOW := aA (HR.out.1.o.upd hUa (by simp))
    have HSRC : Hid (hZ cR (wr.alloc (.cells #[.int .i64 x.1, .int .i64 i] 148 (0, 0))).drew (some ⟨wr.heap.size, 0, none⟩) [(x.1, i)]) := aA (iS TR (ty := 148) (aX _ _))
    have htl := Hk pre n
    have HTL : Hid ((cL pre n).length ≤ 1000) := aA (by
     have h1 := Hn (l := pre) fun r hr => (wV _ _ _ r (HP.out.subset (by simp [hr]))).1
     have h2 := CN HP.out
     rw [uQ, HFR.out] at h2
     have := HFR2.out
     omega)
    have HBS : Hid (w.heap.size ≤ (wr.alloc (.cells #[.int .i64 x.1, .int .i64 i] 148 (0, 0))).drew.heap.size) := aA (bG HR.out.1.upd.size hUa.size)
    have HS1 : Hid ((wr.alloc (.cells #[.int .i64 x.1, .int .i64 i] 148 (0, 0))).drew.cell? ⟨Bx, 0, none⟩ = some (.int .i64 x.1) ∧ (wr.alloc (.cells #[.int .i64 x.1, .int .i64 i] 148 (0, 0))).drew.cell? ⟨Bx, 1, none⟩ = some (.int .i64 i)) := aA ⟨eQ hUa k2, eQ hUa k3⟩
    have hj1 := eQ hUa k4
    have hj2 := eQ hUa k5
    have HKP : Hid (∀ w7, (wr.alloc (.cells #[.int .i64 x.1, .int .i64 i] 148 (0, 0))).drew.grownBy w7 (Value.slice av mv cv).ownBlock → (w7.cell? ⟨Bx, 0, none⟩ = some (.int .i64 x.1) ∧ w7.cell? ⟨Bx, 1, none⟩ = some (.int .i64 i)) ∧ (w7.cell? ⟨Bl, 0, none⟩ = some (.slice av mv cv) ∧ w7.frozen? ⟨Bl, 0, none⟩ = false) ∧ w7.cell? ⟨w.heap.size + 1, 0, none⟩ = some (.int .i64 r) ∧ w7.frozen? ⟨w.heap.size + 1, 0, none⟩ = false) := aA (by
     intro w7 hg7
     have hu7 := aB.of_grown hg7
     have hA := HR.out.1.keep hUa
     have e1 := (hu7.block _ (aH hA.l) (fun hj => xS hA.o hA.l (by decide) (by simpa using hj))).trans hA.l
     have e2 := (hu7.block _ (aH hA.n) (fun hj => xS hA.o hA.n (by decide) (by simpa using hj))).trans hA.n
     have e3 := gF hUa HR.out.2.1
     have e4 := (hu7.block _ (aH e3) (fun hj => hvB (by simpa using hj))).trans e3
     rw [← HRr.out] at e2
     exact ⟨⟨aD e4 0, aD e4 1⟩, ⟨aD e1 0, aZ e1 0⟩, aD e2 0, aZ e2 0⟩)
    have HS8 : Hid (∀ (w7 : World) (v : Value), w7.cell? ⟨Bx, 0, none⟩ = some (.int .i64 x.1) → w7.cell? ⟨Bx, 1, none⟩ = some (.int .i64 i) → (w7.setCell ⟨Bl, 0, none⟩ v).cell? ⟨Bx, 0, none⟩ = some (.int .i64 x.1) ∧ (w7.setCell ⟨Bl, 0, none⟩ v).cell? ⟨Bx, 1, none⟩ = some (.int .i64 i)) := aA (by
     intro w7 v h1 h2
     exact ⟨(World.cell?_setCell_far _ _ _ _ (fun e => by dsimp only at e; omega)).trans h1, (World.cell?_setCell_far _ _ _ _ (fun e => by dsimp only at e; omega)).trans h2⟩)
    have HS9 : Hid (∀ (w7 : World) (v u : Value), w7.cell? ⟨Bx, 0, none⟩ = some (.int .i64 x.1) → w7.cell? ⟨Bx, 1, none⟩ = some (.int .i64 i) → ((w7.setCell ⟨Bl, 0, none⟩ v).setCell ⟨w.heap.size + 1, 0, none⟩ u).cell? ⟨Bx, 0, none⟩ = some (.int .i64 x.1) ∧ ((w7.setCell ⟨Bl, 0, none⟩ v).setCell ⟨w.heap.size + 1, 0, none⟩ u).cell? ⟨Bx, 1, none⟩ = some (.int .i64 i)) := aA (by
     intro w7 v u h1 h2
     exact ⟨((World.cell?_setCell_far _ _ _ _ (fun e => by dsimp only at e; omega)).trans (World.cell?_setCell_far _ _ _ _ (fun e => by dsimp only at e; omega))).trans h1, ((World.cell?_setCell_far _ _ _ _ (fun e => by dsimp only at e; omega)).trans (World.cell?_setCell_far _ _ _ _ (fun e => by dsimp only at e; omega))).trans h2⟩)
    have HEND : ∀ v7 w7, aK cR 148 2 w7 w.heap.size v7 (cL pre n ++ [(x.1, i)]) → (wr.alloc (.cells #[.int .i64 x.1, .int .i64 i] 148 (0, 0))).drew.grownBy w7 (Value.slice av mv cv).ownBlock → (v7.ownBlock = (Value.slice av mv cv).ownBlock ∨ ∀ g, v7.ownBlock = some g → (wr.alloc (.cells #[.int .i64 x.1, .int .i64 i] 148 (0, 0))).drew.heap.size ≤ g) →
      KeepsOthers W ((w7.setCell ⟨Bl, 0, none⟩ v7).setCell ⟨w.heap.size + 1, 0, none⟩ (.int .i64 d)) ∧ eM W1.heap.size W ((w7.setCell ⟨Bl, 0, none⟩ v7).setCell ⟨w.heap.size + 1, 0, none⟩ (.int .i64 d)) ∧ ∃ v', kJ w W1.heap.size Bl q base (.slice (some ⟨g, 0, none⟩) now.length c) lv last v' (cL (pre ++ [x]) n) (fT now (cL (pre ++ [x]) n)) (n - aY (pre ++ [x])) ((w7.setCell ⟨Bl, 0, none⟩ v7).setCell ⟨w.heap.size + 1, 0, none⟩ (.int .i64 d)) := by
     intro v7 w7 ho7 hg7 hn7
     obtain ⟨-, h1, h2, h3⟩ := (HR.out.1.keep hUa).app (d := d) hs6 hq hnb hlb ho7 hg7
     refine ⟨HR.out.2.2.2.trans ((KeepsOthers.of_upd hUa (by simp)).trans h2), HR.out.2.2.1.t ((eM.u hUa).t (h3 _)), v7, ?_⟩
     have e1 : cL (pre ++ [x]) n = cL pre n ++ [(x.1, i)] := by
      have h5 := HR0.out
      have h6 := HTm.out
      have h7 := HRr.out
      rw [CP, aE h5, ← h7, ← h6]
     have e2 : n - aY (pre ++ [x]) = d := by
      rw [uQ]
      have h6 := HTm.out
      have h7 := HRr.out
      have h8 := HD.out
      omega
     rw [e1, e2]
     exact h1
    gi_wp2
    refine Hc (S := fun X => X.cell? ⟨Bx, 0, none⟩ = some (.int .i64 x.1) ∧ X.cell? ⟨Bx, 1, none⟩ = some (.int .i64 i)) (by kernel_rfl) (by kernel_rfl) (fun ⟨_, _, h⟩ => h) ⟨k2, k3⟩ (fun hHeld => ?_)
    refine wpAnyH_take (i := 1) (oi := ⟨some 47, _, _, _, _, _⟩) (v := .agg #[.int .i64 x.1, .int .i64 i]) rfl (by kernel_rfl) (by kernel_rfl) (by kernel_rfl) (fun _ _ _ h => h) (Or.inl ⟨by rfl, by (intro W hSW; obtain ⟨hS1, hS2⟩ := hSW; go_simp)⟩) (by assumption) ?_
    simp only [Act.put, aW, aU, aT]
    refine wpAnyH_take (i := 5) (oi := ⟨some 51, _, _, _, _, _⟩) (v := .pointer (some ⟨Bx, 1, none⟩)) rfl (by kernel_rfl) (by kernel_rfl) (by kernel_rfl) (fun _ _ _ h => h) (Or.inl ⟨by rfl, by (intro W hSW; obtain ⟨hS1, hS2⟩ := hSW; go_simp)⟩) (by assumption) ?_
    simp only [Act.put, aW, aU, aT]
    refine wpAnyH_take (i := 6) (oi := ⟨some 52, _, _, _, _, _⟩) (v := .int .i64 i) rfl (by kernel_rfl) (by kernel_rfl) (by kernel_rfl) (fun _ _ _ h => h) (Or.inl ⟨by rfl, by (intro W hSW; obtain ⟨hS1, hS2⟩ := hSW; go_simp)⟩) (by assumption) ?_
    simp only [Act.put, aW, aU, aT]
    refine wpAnyH_ready (rs := [0, 2, 4]) (by kernel_rfl) (by simp) ?_
    refine AllReadyH.cons (o := ⟨some 46, _, _, _, _, _⟩) rfl (fun K hK => ?_) (AllReadyH.cons (o := ⟨some 48, _, _, _, _, _⟩) rfl (fun K hK => ?_) (AllReadyH.cons (o := ⟨some 50, _, _, _, _, _⟩) rfl (fun K hK => ?_) AllReadyH.nil))
    ·go_simp
     refine hK.out _ _ (⟨k2, k3⟩) (fun _ => ?_)
     clear hK K
     try simp only [Act.put, aW, aU, aT]
     refine wpAnyH_ready (rs := [2, 4]) (by kernel_rfl) (by simp) ?_
     refine AllReadyH.cons (o := ⟨some 48, _, _, _, _, _⟩) rfl (fun K hK => ?_) (AllReadyH.cons (o := ⟨some 50, _, _, _, _, _⟩) rfl (fun K hK => ?_) AllReadyH.nil)
     ·go_simp
      refine hK.out _ _ (HS1.out) (fun _ => ?_)
      clear hK K
      try simp only [Act.put, aW, aU, aT]
      refine wpAnyH_ready (rs := [3, 4]) (by kernel_rfl) (by simp) ?_
      refine AllReadyH.cons (o := ⟨some 49, _, _, _, _, _⟩) rfl (fun K hK => ?_) (AllReadyH.cons (o := ⟨some 50, _, _, _, _, _⟩) rfl (fun K hK => ?_) AllReadyH.nil)
      ·refine lA TR (by rfl) _ _ (by rfl) (base := w.heap.size) (v := .slice av mv cv) (l := cL pre n) (A := some ⟨wr.heap.size, 0, none⟩) (c := 1) (r := [(x.1, i)]) (by rfl) (HOW.out) (by rfl) HSRC.out (nY _) ?_ ?_ ?_ ?_
       ·have := HTL.out; simp; omega
       ·have := HTL.out; simp; omega
       ·exact HBS.out
       intro v7 w7 ho7 hg7 hn7
       obtain ⟨⟨z0, z1⟩, ⟨z2, y2⟩, z3, y3⟩ := HKP.out w7 hg7
       obtain ⟨a7, c7, m7, hm7, rfl⟩ := ho7.sliceM; clear hm7
       refine hK.out _ _ (⟨z0, z1⟩) (fun _ => ?_)
       clear hK K
       try simp only [Act.put, aW, aU, aT]
       refine wpAnyH_ready (rs := [4, 8]) (by kernel_rfl) (by simp) ?_
       refine AllReadyH.cons (o := ⟨some 50, _, _, _, _, _⟩) rfl (fun K hK => ?_) (AllReadyH.cons (o := ⟨none, _, _, _, _, _⟩) rfl (fun K hK => ?_) AllReadyH.nil)
       ·go_simp
        refine hK.out _ _ (⟨z0, z1⟩) (fun _ => ?_)
        clear hK K
        try simp only [Act.put, aW, aU, aT]
        refine wpAnyH_take (i := 7) (oi := ⟨some 53, _, _, _, _, _⟩) (v := .int .i64 d) rfl (by kernel_rfl) (by kernel_rfl) (by kernel_rfl) (fun _ _ _ h => h) (Or.inl ⟨by rfl, by (intro W hSW; obtain ⟨hS1, hS2⟩ := hSW; go_simp)⟩) (by assumption) ?_
        simp only [Act.put, aW, aU, aT]
        refine wpAnyH_ready (rs := [8]) (by kernel_rfl) (by simp) ?_
        refine AllReadyH.cons (o := ⟨none, _, _, _, _, _⟩) rfl (fun K hK => ?_) AllReadyH.nil
        go_simp
        refine hK.out _ _ (HS8.out _ _ z0 z1) (fun _ => ?_)
        clear hK K
        try simp only [Act.put, aW, aU, aT]
        refine wpAnyH_ready (rs := [9]) (by kernel_rfl) (by simp) ?_
        refine AllReadyH.cons (o := ⟨none, _, _, _, _, _⟩) rfl (fun K hK => ?_) AllReadyH.nil
        go_simp
        refine hK.out _ _ (HS9.out _ _ _ z0 z1) (fun _ => ?_)
        clear hK K
        try simp only [Act.put, aW, aU, aT]
        refine wpAnyH_done (by kernel_rfl) ?_ _
        exact HEND _ _ ho7 hg7 hn7
       go_simp
       refine hK.out _ _ (HS8.out _ _ z0 z1) (fun _ => ?_)
       clear hK K
       try simp only [Act.put, aW, aU, aT]
       refine wpAnyH_ready (rs := [4]) (by kernel_rfl) (by simp) ?_
       refine AllReadyH.cons (o := ⟨some 50, _, _, _, _, _⟩) rfl (fun K hK => ?_) AllReadyH.nil
       go_simp
       refine hK.out _ _ (HS8.out _ _ z0 z1) (fun _ => ?_)
       clear hK K
       try simp only [Act.put, aW, aU, aT]
       refine wpAnyH_take (i := 7) (oi := ⟨some 53, _, _, _, _, _⟩) (v := .int .i64 d) rfl (by kernel_rfl) (by kernel_rfl) (by kernel_rfl) (fun _ _ _ h => h) (Or.inl ⟨by rfl, by (intro W hSW; obtain ⟨hS1, hS2⟩ := hSW; go_simp)⟩) (by assumption) ?_
       simp only [Act.put, aW, aU, aT]
       refine wpAnyH_ready (rs := [9]) (by kernel_rfl) (by simp) ?_
       refine AllReadyH.cons (o := ⟨none, _, _, _, _, _⟩) rfl (fun K hK => ?_) AllReadyH.nil
       go_simp
       refine hK.out _ _ (HS9.out _ _ _ z0 z1) (fun _ => ?_)
       clear hK K
       try simp only [Act.put, aW, aU, aT]
       refine wpAnyH_done (by kernel_rfl) ?_ _
       exact HEND _ _ ho7 hg7 hn7
      go_simp
      refine hK.out _ _ (HS1.out) (fun _ => ?_)
      clear hK K
      try simp only [Act.put, aW, aU, aT]
      refine wpAnyH_take (i := 7) (oi := ⟨some 53, _, _, _, _, _⟩) (v := .int .i64 d) rfl (by kernel_rfl) (by kernel_rfl) (by kernel_rfl) (fun _ _ _ h => h) (Or.inl ⟨by rfl, by (intro W hSW; obtain ⟨hS1, hS2⟩ := hSW; go_simp)⟩) (by assumption) ?_
      simp only [Act.put, aW, aU, aT]
      refine wpAnyH_ready (rs := [3]) (by kernel_rfl) (by simp) ?_
      refine AllReadyH.cons (o := ⟨some 49, _, _, _, _, _⟩) rfl (fun K hK => ?_) AllReadyH.nil
      refine lA TR (by rfl) _ _ (by rfl) (base := w.heap.size) (v := .slice av mv cv) (l := cL pre n) (A := some ⟨wr.heap.size, 0, none⟩) (c := 1) (r := [(x.1, i)]) (by rfl) (HOW.out) (by rfl) HSRC.out (nY _) ?_ ?_ ?_ ?_
      ·have := HTL.out; simp; omega
      ·have := HTL.out; simp; omega
      ·exact HBS.out
      intro v7 w7 ho7 hg7 hn7
      obtain ⟨⟨z0, z1⟩, ⟨z2, y2⟩, z3, y3⟩ := HKP.out w7 hg7
      obtain ⟨a7, c7, m7, hm7, rfl⟩ := ho7.sliceM; clear hm7
      refine hK.out _ _ (⟨z0, z1⟩) (fun _ => ?_)
      clear hK K
      try simp only [Act.put, aW, aU, aT]
      refine wpAnyH_ready (rs := [8]) (by kernel_rfl) (by simp) ?_
      refine AllReadyH.cons (o := ⟨none, _, _, _, _, _⟩) rfl (fun K hK => ?_) AllReadyH.nil
      go_simp
      refine hK.out _ _ (HS8.out _ _ z0 z1) (fun _ => ?_)
      clear hK K
      try simp only [Act.put, aW, aU, aT]
      refine wpAnyH_ready (rs := [9]) (by kernel_rfl) (by simp) ?_
      refine AllReadyH.cons (o := ⟨none, _, _, _, _, _⟩) rfl (fun K hK => ?_) AllReadyH.nil
      go_simp
      refine hK.out _ _ (HS9.out _ _ _ z0 z1) (fun _ => ?_)
      clear hK K
      try simp only [Act.put, aW, aU, aT]
      refine wpAnyH_done (by kernel_rfl) ?_ _
      exact HEND _ _ ho7 hg7 hn7
     go_simp
     refine hK.out _ _ (⟨k2, k3⟩) (fun _ => ?_)
     clear hK K
     try simp only [Act.put, aW, aU, aT]
     refine wpAnyH_take (i := 7) (oi := ⟨some 53, _, _, _, _, _⟩) (v := .int .i64 d) rfl (by kernel_rfl) (by kernel_rfl) (by kernel_rfl) (fun _ _ _ h => h) (Or.inl ⟨by rfl, by (intro W hSW; obtain ⟨hS1, hS2⟩ := hSW; go_simp)⟩) (by assumption) ?_
     simp only [Act.put, aW, aU, aT]
     refine wpAnyH_ready (rs := [2]) (by kernel_rfl) (by simp) ?_
     refine AllReadyH.cons (o := ⟨some 48, _, _, _, _, _⟩) rfl (fun K hK => ?_) AllReadyH.nil
     go_simp
     refine hK.out _ _ (HS1.out) (fun _ => ?_)
     clear hK K
     try simp only [Act.put, aW, aU, aT]
     refine wpAnyH_ready (rs := [3]) (by kernel_rfl) (by simp) ?_
     refine AllReadyH.cons (o := ⟨some 49, _, _, _, _, _⟩) rfl (fun K hK => ?_) AllReadyH.nil
     refine lA TR (by rfl) _ _ (by rfl) (base := w.heap.size) (v := .slice av mv cv) (l := cL pre n) (A := some ⟨wr.heap.size, 0, none⟩) (c := 1) (r := [(x.1, i)]) (by rfl) (HOW.out) (by rfl) HSRC.out (nY _) ?_ ?_ ?_ ?_
     ·have := HTL.out; simp; omega
     ·have := HTL.out; simp; omega
     ·exact HBS.out
     intro v7 w7 ho7 hg7 hn7
     obtain ⟨⟨z0, z1⟩, ⟨z2, y2⟩, z3, y3⟩ := HKP.out w7 hg7
     obtain ⟨a7, c7, m7, hm7, rfl⟩ := ho7.sliceM; clear hm7
     refine hK.out _ _ (⟨z0, z1⟩) (fun _ => ?_)
     clear hK K
     try simp only [Act.put, aW, aU, aT]
     refine wpAnyH_ready (rs := [8]) (by kernel_rfl) (by simp) ?_
     refine AllReadyH.cons (o := ⟨none, _, _, _, _, _⟩) rfl (fun K hK => ?_) AllReadyH.nil
     go_simp
     refine hK.out _ _ (HS8.out _ _ z0 z1) (fun _ => ?_)
     clear hK K
     try simp only [Act.put, aW, aU, aT]
     refine wpAnyH_ready (rs := [9]) (by kernel_rfl) (by simp) ?_
     refine AllReadyH.cons (o := ⟨none, _, _, _, _, _⟩) rfl (fun K hK => ?_) AllReadyH.nil
     go_simp
     refine hK.out _ _ (HS9.out _ _ _ z0 z1) (fun _ => ?_)
     clear hK K
     try simp only [Act.put, aW, aU, aT]
     refine wpAnyH_done (by kernel_rfl) ?_ _
     exact HEND _ _ ho7 hg7 hn7
    ·go_simp
     refine hK.out _ _ (HS1.out) (fun _ => ?_)
     clear hK K
     try simp only [Act.put, aW, aU, aT]
     refine wpAnyH_ready (rs := [0, 4]) (by kernel_rfl) (by simp) ?_
     refine AllReadyH.cons (o := ⟨some 46, _, _, _, _, _⟩) rfl (fun K hK => ?_) (AllReadyH.cons (o := ⟨some 50, _, _, _, _, _⟩) rfl (fun K hK => ?_) AllReadyH.nil)
     ·go_simp
      refine hK.out _ _ (HS1.out) (fun _ => ?_)
      clear hK K
      try simp only [Act.put, aW, aU, aT]
      refine wpAnyH_ready (rs := [3, 4]) (by kernel_rfl) (by simp) ?_
      refine AllReadyH.cons (o := ⟨some 49, _, _, _, _, _⟩) rfl (fun K hK => ?_) (AllReadyH.cons (o := ⟨some 50, _, _, _, _, _⟩) rfl (fun K hK => ?_) AllReadyH.nil)
      ·refine lA TR (by rfl) _ _ (by rfl) (base := w.heap.size) (v := .slice av mv cv) (l := cL pre n) (A := some ⟨wr.heap.size, 0, none⟩) (c := 1) (r := [(x.1, i)]) (by rfl) (HOW.out) (by rfl) HSRC.out (nY _) ?_ ?_ ?_ ?_
       ·have := HTL.out; simp; omega
       ·have := HTL.out; simp; omega
       ·exact HBS.out
       intro v7 w7 ho7 hg7 hn7
       obtain ⟨⟨z0, z1⟩, ⟨z2, y2⟩, z3, y3⟩ := HKP.out w7 hg7
       obtain ⟨a7, c7, m7, hm7, rfl⟩ := ho7.sliceM; clear hm7
       refine hK.out _ _ (⟨z0, z1⟩) (fun _ => ?_)
       clear hK K
       try simp only [Act.put, aW, aU, aT]
       refine wpAnyH_ready (rs := [4, 8]) (by kernel_rfl) (by simp) ?_
       refine AllReadyH.cons (o := ⟨some 50, _, _, _, _, _⟩) rfl (fun K hK => ?_) (AllReadyH.cons (o := ⟨none, _, _, _, _, _⟩) rfl (fun K hK => ?_) AllReadyH.nil)
       ·go_simp
        refine hK.out _ _ (⟨z0, z1⟩) (fun _ => ?_)
        clear hK K
        try simp only [Act.put, aW, aU, aT]
        refine wpAnyH_take (i := 7) (oi := ⟨some 53, _, _, _, _, _⟩) (v := .int .i64 d) rfl (by kernel_rfl) (by kernel_rfl) (by kernel_rfl) (fun _ _ _ h => h) (Or.inl ⟨by rfl, by (intro W hSW; obtain ⟨hS1, hS2⟩ := hSW; go_simp)⟩) (by assumption) ?_
        simp only [Act.put, aW, aU, aT]
        refine wpAnyH_ready (rs := [8]) (by kernel_rfl) (by simp) ?_
        refine AllReadyH.cons (o := ⟨none, _, _, _, _, _⟩) rfl (fun K hK => ?_) AllReadyH.nil
        go_simp
        refine hK.out _ _ (HS8.out _ _ z0 z1) (fun _ => ?_)
        clear hK K
        try simp only [Act.put, aW, aU, aT]
        refine wpAnyH_ready (rs := [9]) (by kernel_rfl) (by simp) ?_
        refine AllReadyH.cons (o := ⟨none, _, _, _, _, _⟩) rfl (fun K hK => ?_) AllReadyH.nil
        go_simp
        refine hK.out _ _ (HS9.out _ _ _ z0 z1) (fun _ => ?_)
        clear hK K
        try simp only [Act.put, aW, aU, aT]
        refine wpAnyH_done (by kernel_rfl) ?_ _
        exact HEND _ _ ho7 hg7 hn7
       go_simp
       refine hK.out _ _ (HS8.out _ _ z0 z1) (fun _ => ?_)
       clear hK K
       try simp only [Act.put, aW, aU, aT]
       refine wpAnyH_ready (rs := [4]) (by kernel_rfl) (by simp) ?_
       refine AllReadyH.cons (o := ⟨some 50, _, _, _, _, _⟩) rfl (fun K hK => ?_) AllReadyH.nil
       go_simp
       refine hK.out _ _ (HS8.out _ _ z0 z1) (fun _ => ?_)
       clear hK K
       try simp only [Act.put, aW, aU, aT]
       refine wpAnyH_take (i := 7) (oi := ⟨some 53, _, _, _, _, _⟩) (v := .int .i64 d) rfl (by kernel_rfl) (by kernel_rfl) (by kernel_rfl) (fun _ _ _ h => h) (Or.inl ⟨by rfl, by (intro W hSW; obtain ⟨hS1, hS2⟩ := hSW; go_simp)⟩) (by assumption) ?_
       simp only [Act.put, aW, aU, aT]
       refine wpAnyH_ready (rs := [9]) (by kernel_rfl) (by simp) ?_
       refine AllReadyH.cons (o := ⟨none, _, _, _, _, _⟩) rfl (fun K hK => ?_) AllReadyH.nil
       go_simp
       refine hK.out _ _ (HS9.out _ _ _ z0 z1) (fun _ => ?_)
       clear hK K
       try simp only [Act.put, aW, aU, aT]
       refine wpAnyH_done (by kernel_rfl) ?_ _
       exact HEND _ _ ho7 hg7 hn7
      go_simp
      refine hK.out _ _ (HS1.out) (fun _ => ?_)
      clear hK K
      try simp only [Act.put, aW, aU, aT]
      refine wpAnyH_take (i := 7) (oi := ⟨some 53, _, _, _, _, _⟩) (v := .int .i64 d) rfl (by kernel_rfl) (by kernel_rfl) (by kernel_rfl) (fun _ _ _ h => h) (Or.inl ⟨by rfl, by (intro W hSW; obtain ⟨hS1, hS2⟩ := hSW; go_simp)⟩) (by assumption) ?_
      simp only [Act.put, aW, aU, aT]
      refine wpAnyH_ready (rs := [3]) (by kernel_rfl) (by simp) ?_
      refine AllReadyH.cons (o := ⟨some 49, _, _, _, _, _⟩) rfl (fun K hK => ?_) AllReadyH.nil
      refine lA TR (by rfl) _ _ (by rfl) (base := w.heap.size) (v := .slice av mv cv) (l := cL pre n) (A := some ⟨wr.heap.size, 0, none⟩) (c := 1) (r := [(x.1, i)]) (by rfl) (HOW.out) (by rfl) HSRC.out (nY _) ?_ ?_ ?_ ?_
      ·have := HTL.out; simp; omega
      ·have := HTL.out; simp; omega
      ·exact HBS.out
      intro v7 w7 ho7 hg7 hn7
      obtain ⟨⟨z0, z1⟩, ⟨z2, y2⟩, z3, y3⟩ := HKP.out w7 hg7
      obtain ⟨a7, c7, m7, hm7, rfl⟩ := ho7.sliceM; clear hm7
      refine hK.out _ _ (⟨z0, z1⟩) (fun _ => ?_)
      clear hK K
      try simp only [Act.put, aW, aU, aT]
      refine wpAnyH_ready (rs := [8]) (by kernel_rfl) (by simp) ?_
      refine AllReadyH.cons (o := ⟨none, _, _, _, _, _⟩) rfl (fun K hK => ?_) AllReadyH.nil
      go_simp
      refine hK.out _ _ (HS8.out _ _ z0 z1) (fun _ => ?_)
      clear hK K
      try simp only [Act.put, aW, aU, aT]
      refine wpAnyH_ready (rs := [9]) (by kernel_rfl) (by simp) ?_
      refine AllReadyH.cons (o := ⟨none, _, _, _, _, _⟩) rfl (fun K hK => ?_) AllReadyH.nil
      go_simp
      refine hK.out _ _ (HS9.out _ _ _ z0 z1) (fun _ => ?_)
      clear hK K
      try simp only [Act.put, aW, aU, aT]
      refine wpAnyH_done (by kernel_rfl) ?_ _
      exact HEND _ _ ho7 hg7 hn7
     go_simp
     refine hK.out _ _ (HS1.out) (fun _ => ?_)
     clear hK K
     try simp only [Act.put, aW, aU, aT]
     refine wpAnyH_take (i := 7) (oi := ⟨some 53, _, _, _, _, _⟩) (v := .int .i64 d) rfl (by kernel_rfl) (by kernel_rfl) (by kernel_rfl) (fun _ _ _ h => h) (Or.inl ⟨by rfl, by (intro W hSW; obtain ⟨hS1, hS2⟩ := hSW; go_simp)⟩) (by assumption) ?_
     simp only [Act.put, aW, aU, aT]
     refine wpAnyH_ready (rs := [0]) (by kernel_rfl) (by simp) ?_
     refine AllReadyH.cons (o := ⟨some 46, _, _, _, _, _⟩) rfl (fun K hK => ?_) AllReadyH.nil
     go_simp
     refine hK.out _ _ (HS1.out) (fun _ => ?_)
     clear hK K
     try simp only [Act.put, aW, aU, aT]
     refine wpAnyH_ready (rs := [3]) (by kernel_rfl) (by simp) ?_
     refine AllReadyH.cons (o := ⟨some 49, _, _, _, _, _⟩) rfl (fun K hK => ?_) AllReadyH.nil
     refine lA TR (by rfl) _ _ (by rfl) (base := w.heap.size) (v := .slice av mv cv) (l := cL pre n) (A := some ⟨wr.heap.size, 0, none⟩) (c := 1) (r := [(x.1, i)]) (by rfl) (HOW.out) (by rfl) HSRC.out (nY _) ?_ ?_ ?_ ?_
     ·have := HTL.out; simp; omega
     ·have := HTL.out; simp; omega
     ·exact HBS.out
     intro v7 w7 ho7 hg7 hn7
     obtain ⟨⟨z0, z1⟩, ⟨z2, y2⟩, z3, y3⟩ := HKP.out w7 hg7
     obtain ⟨a7, c7, m7, hm7, rfl⟩ := ho7.sliceM; clear hm7
     refine hK.out _ _ (⟨z0, z1⟩) (fun _ => ?_)
     clear hK K
     try simp only [Act.put, aW, aU, aT]
     refine wpAnyH_ready (rs := [8]) (by kernel_rfl) (by simp) ?_
     refine AllReadyH.cons (o := ⟨none, _, _, _, _, _⟩) rfl (fun K hK => ?_) AllReadyH.nil
     go_simp
     refine hK.out _ _ (HS8.out _ _ z0 z1) (fun _ => ?_)
     clear hK K
     try simp only [Act.put, aW, aU, aT]
     refine wpAnyH_ready (rs := [9]) (by kernel_rfl) (by simp) ?_
     refine AllReadyH.cons (o := ⟨none, _, _, _, _, _⟩) rfl (fun K hK => ?_) AllReadyH.nil
     go_simp
     refine hK.out _ _ (HS9.out _ _ _ z0 z1) (fun _ => ?_)
     clear hK K
     try simp only [Act.put, aW, aU, aT]
     refine wpAnyH_done (by kernel_rfl) ?_ _
     exact HEND _ _ ho7 hg7 hn7
    go_simp
    refine hK.out _ _ (⟨k2, k3⟩) (fun _ => ?_)
    clear hK K
    try simp only [Act.put, aW, aU, aT]
    refine wpAnyH_take (i := 7) (oi := ⟨some 53, _, _, _, _, _⟩) (v := .int .i64 d) rfl (by kernel_rfl) (by kernel_rfl) (by kernel_rfl) (fun _ _ _ h => h) (Or.inl ⟨by rfl, by (intro W hSW; obtain ⟨hS1, hS2⟩ := hSW; go_simp)⟩) (by assumption) ?_
    simp only [Act.put, aW, aU, aT]
    refine wpAnyH_ready (rs := [0, 2]) (by kernel_rfl) (by simp) ?_
    refine AllReadyH.cons (o := ⟨some 46, _, _, _, _, _⟩) rfl (fun K hK => ?_) (AllReadyH.cons (o := ⟨some 48, _, _, _, _, _⟩) rfl (fun K hK => ?_) AllReadyH.nil)
    ·go_simp
     refine hK.out _ _ (⟨k2, k3⟩) (fun _ => ?_)
     clear hK K
     try simp only [Act.put, aW, aU, aT]
     refine wpAnyH_ready (rs := [2]) (by kernel_rfl) (by simp) ?_
     refine AllReadyH.cons (o := ⟨some 48, _, _, _, _, _⟩) rfl (fun K hK => ?_) AllReadyH.nil
     go_simp
     refine hK.out _ _ (HS1.out) (fun _ => ?_)
     clear hK K
     try simp only [Act.put, aW, aU, aT]
     refine wpAnyH_ready (rs := [3]) (by kernel_rfl) (by simp) ?_
     refine AllReadyH.cons (o := ⟨some 49, _, _, _, _, _⟩) rfl (fun K hK => ?_) AllReadyH.nil
     refine lA TR (by rfl) _ _ (by rfl) (base := w.heap.size) (v := .slice av mv cv) (l := cL pre n) (A := some ⟨wr.heap.size, 0, none⟩) (c := 1) (r := [(x.1, i)]) (by rfl) (HOW.out) (by rfl) HSRC.out (nY _) ?_ ?_ ?_ ?_
     ·have := HTL.out; simp; omega
     ·have := HTL.out; simp; omega
     ·exact HBS.out
     intro v7 w7 ho7 hg7 hn7
     obtain ⟨⟨z0, z1⟩, ⟨z2, y2⟩, z3, y3⟩ := HKP.out w7 hg7
     obtain ⟨a7, c7, m7, hm7, rfl⟩ := ho7.sliceM; clear hm7
     refine hK.out _ _ (⟨z0, z1⟩) (fun _ => ?_)
     clear hK K
     try simp only [Act.put, aW, aU, aT]
     refine wpAnyH_ready (rs := [8]) (by kernel_rfl) (by simp) ?_
     refine AllReadyH.cons (o := ⟨none, _, _, _, _, _⟩) rfl (fun K hK => ?_) AllReadyH.nil
     go_simp
     refine hK.out _ _ (HS8.out _ _ z0 z1) (fun _ => ?_)
     clear hK K
     try simp only [Act.put, aW, aU, aT]
     refine wpAnyH_ready (rs := [9]) (by kernel_rfl) (by simp) ?_
     refine AllReadyH.cons (o := ⟨none, _, _, _, _, _⟩) rfl (fun K hK => ?_) AllReadyH.nil
     go_simp
     refine hK.out _ _ (HS9.out _ _ _ z0 z1) (fun _ => ?_)
     clear hK K
     try simp only [Act.put, aW, aU, aT]
     refine wpAnyH_done (by kernel_rfl) ?_ _
     exact HEND _ _ ho7 hg7 hn7
    go_simp
    refine hK.out _ _ (HS1.out) (fun _ => ?_)
    clear hK K
    try simp only [Act.put, aW, aU, aT]
    refine wpAnyH_ready (rs := [0]) (by kernel_rfl) (by simp) ?_
    refine AllReadyH.cons (o := ⟨some 46, _, _, _, _, _⟩) rfl (fun K hK => ?_) AllReadyH.nil
    go_simp
    refine hK.out _ _ (HS1.out) (fun _ => ?_)
    clear hK K
    try simp only [Act.put, aW, aU, aT]
    refine wpAnyH_ready (rs := [3]) (by kernel_rfl) (by simp) ?_
    refine AllReadyH.cons (o := ⟨some 49, _, _, _, _, _⟩) rfl (fun K hK => ?_) AllReadyH.nil
    refine lA TR (by rfl) _ _ (by rfl) (base := w.heap.size) (v := .slice av mv cv) (l := cL pre n) (A := some ⟨wr.heap.size, 0, none⟩) (c := 1) (r := [(x.1, i)]) (by rfl) (HOW.out) (by rfl) HSRC.out (nY _) ?_ ?_ ?_ ?_
    ·have := HTL.out; simp; omega
    ·have := HTL.out; simp; omega
    ·exact HBS.out
    intro v7 w7 ho7 hg7 hn7
    obtain ⟨⟨z0, z1⟩, ⟨z2, y2⟩, z3, y3⟩ := HKP.out w7 hg7
    obtain ⟨a7, c7, m7, hm7, rfl⟩ := ho7.sliceM; clear hm7
    refine hK.out _ _ (⟨z0, z1⟩) (fun _ => ?_)
    clear hK K
    try simp only [Act.put, aW, aU, aT]
    refine wpAnyH_ready (rs := [8]) (by kernel_rfl) (by simp) ?_
    refine AllReadyH.cons (o := ⟨none, _, _, _, _, _⟩) rfl (fun K hK => ?_) AllReadyH.nil
    go_simp
    refine hK.out _ _ (HS8.out _ _ z0 z1) (fun _ => ?_)
    clear hK K
    try simp only [Act.put, aW, aU, aT]
    refine wpAnyH_ready (rs := [9]) (by kernel_rfl) (by simp) ?_
    refine AllReadyH.cons (o := ⟨none, _, _, _, _, _⟩) rfl (fun K hK => ?_) AllReadyH.nil
    go_simp
    refine hK.out _ _ (HS9.out _ _ _ z0 z1) (fun _ => ?_)
    clear hK K
    try simp only [Act.put, aW, aU, aT]
    refine wpAnyH_done (by kernel_rfl) ?_ _
    exact HEND _ _ ho7 hg7 hn7
 case done =>
  rintro D W hD ⟨v, hi⟩ hK
  obtain ⟨av, cv, mv, hmv, rfl⟩ := hi.o.sliceM
  have c0 := aD hi.l 0
  simp only [bA, bB] at c0
  clear hmv
  gi_wp2
  go_wp2_with fail
  refine ⟨by simp, .inl ⟨_, _, rfl, run_takeDeferred hK, ?_⟩⟩
  have hi2 := xR (aQ _) W (W.putObj D (.deferred none)) [D] hi (aB.putObj D _) (fun r hr => by rw [aM] at hr; subst hr; exact ⟨by omega, _, hK, rfl⟩)
  exact ⟨_, results_tmp2 rfl _ _ _, .slice av mv cv, rfl, hi2.o, hi2.map, hi2.upd⟩
 case stop =>
  rintro D c pre W hD hpre ⟨⟨rfl, hn0⟩, v, hi⟩ hK
  obtain ⟨av, cv, mv, hmv, rfl⟩ := hi.o.sliceM
  have c0 := aD hi.l 0
  simp only [bA, bB] at c0
  have e1 := Oy hpre hn0
  clear hmv
  gi_wp2
  go_wp2_with fail
  refine ⟨by simp, .inl ⟨_, _, rfl, run_takeDeferred hK, ?_⟩⟩
  have hi2 := xR (aQ _) W (W.putObj D (.deferred none)) [D] hi (aB.putObj D _) (fun r hr => by rw [aM] at hr; subst hr; exact ⟨by omega, _, hK, rfl⟩)
  rw [e1]
  exact ⟨_, results_tmp2 rfl _ _ _, .slice av mv cv, rfl, hi2.o, hi2.map, hi2.upd⟩
end Go.Proofs.YtgpefiacbipfpaaGreatDoor
