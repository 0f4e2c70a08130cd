/- named, find, Size. -/
import Derived.Test.YtgpefiacbipfpaaGreatDoorC22
set_option maxRecDepth 100000
set_option maxHeartbeats 2000000
namespace Go.Proofs.YtgpefiacbipfpaaGreatDoor
open Go.RowKit Go.Maps
theorem Ig (s : ByteArray) : s.toList = [] ↔ s.size = 0 := by
 have h1 : (s.toList == (⟨#[]⟩ : ByteArray).toList) = (s == (⟨#[]⟩ : ByteArray)) := (beq_toListBytes s _).symm
 rw [ES] at h1
 have h2 : (⟨#[]⟩ : ByteArray).toList = [] := by unfold ByteArray.toList ByteArray.toList.loop; rfl
 rw [h2] at h1
 constructor
 ·intro h
  rw [h] at h1
  have h3 : s = ⟨#[]⟩ := by simpa using h1.symm
  rw [h3]; rfl
 intro h
 have h3 : s = ⟨#[]⟩ := by
  cases s with | mk d =>
  have : d.size = 0 := h
  rw [Array.size_eq_zero_iff.1 this]
 rw [h3]; exact h2
theorem OY (w : World) (s : ByteArray) : Calls Tryz.prog 38 #[.string s] w fun r w' => r = .returned (.bool (decide (s.size ≠ 0 ∧ s.size ≤ 40))) ∧ w' = w := by
 go_in
 go_wp2_with fail
 all_goals rename_i h
 all_goals go_ret
 all_goals refine ⟨?_, rfl⟩
 ·have hz := (Ig s).1 h
  simp [hz]
 have hz : s.size ≠ 0 := fun e => h ((Ig s).2 e)
 have he : s.toList.isEmpty = false := by simpa using h
 simp [hz, he]
 omega
def Ih (w : World) (v j p n k c q mf ml : Nat) (va : Value) (dead ld gone : Bool) (fs : aG) (A : Bs → Nat) (nm : Bs) (r : Ending) (w' : World) : Prop :=
 r = .returned (if (dead || gone) = true then .tuple #[.pointer none, .int .i64 2] else match bF fs nm with | some _ => .tuple #[sE (A nm), .int .i64 0] | none => .tuple #[.pointer none, .int .i64 80]) ∧
  w'.heap[v]? = some (eW j c q mf ml va (dead || gone)) ∧ bZ w' j p n k (if dead = true then ld else gone) ∧ aB [v, j] w w'
theorem Ay (w : World) {v j p n k c q mf ml : Nat} {va : Value} {dead ld : Bool} (h : w.heap[v]? = some (eW j c q mf ml va dead)) (hl : bZ w j p n k ld) {D : aI} {F : List Nat} (hd : bN w p D F) (hn : n ≤ 512) (hvj : v ≠ j)
  {fs : aG} {A : Bs → Nat} {R : Bs → Value} {FM : List Nat} (hf : dL w mf fs A R FM) (hvM : v ∉ FM) (hjM : j ∉ FM) (s : ByteArray) (hs : s.size ≤ maxLen) :
  Calls Tryz.prog 40 #[.pointer (some ⟨v, 0, none⟩), .string s] w (Ih w v j p n k c q mf ml va dead ld (ld || D.down) fs A s.data.toList) := by
 have HU := aA (CV w h hl hd hn hvj)
 have HF := aA hf
 generalize (ld || D.down) = gone at *
 clear h hl hd hf
 go_in
 go_wp2_with fail
 refine HU.out.mono ?_
 rintro r w1 ⟨rfl, hb1, hl1, hu1⟩
 have hmap : fO w1 mf (dW fs A) := (HF.out.upd hu1 (fun i hi q => by
  simp only [aJ, cA, cG] at q
  rcases q with rfl | rfl
  ·exact hvM hi
  exact hjM hi)).map
 have hlook := fO.look hmap Tryz.underlying82 (z := .pointer none) (by kernel_rfl) s hs
 have d3 := aD hb1 3
 simp only [bA, bB, bS] at d3
 have H1 := aA (aC hb1 (aC hl1 hu1))
 clear hb1 hl1 hu1 hmap
 by_cases hdg : (dead || gone) = true
 ·rw [aF hdg]
  have HDG := aA hdg
  clear hdg hlook
  go_wp2_with fail
  go_ret2
  exact ⟨by rw [aF HDG.out]; rfl, H1.out⟩
 rw [aE hdg]
 have HDG := aA hdg
 clear hdg
 rw [rA] at hlook
 unfold Ih
 cases hg : bF fs s.data.toList with
 | none =>
  rw [hg] at hlook
  simp only [Option.map_none, Option.getD_none] at hlook
  go_wp2_with fail
  go_ret2
  exact ⟨by rw [aE HDG.out, hg]; rfl, H1.out⟩
 | some f =>
  rw [hg] at hlook
  simp only [yP, tT] at hlook
  go_wp2_with fail
  go_ret2
  exact ⟨by rw [aE HDG.out, hg]; rfl, H1.out⟩
def Ii (w : World) (v j p n k c q mf ml : Nat) (va : Value) (dead ld gone : Bool) (fs : aG) (nm : Bs) (r : Ending) (w' : World) : Prop :=
 r = .returned (if (dead || gone) = true then .tuple #[.int .i64 0, .int .i64 2] else match bF fs nm with | some f => .tuple #[.int .i64 f.data.length, .int .i64 0] | none => .tuple #[.int .i64 0, .int .i64 80]) ∧
  w'.heap[v]? = some (eW j c q mf ml va (dead || gone)) ∧ bZ w' j p n k (if dead = true then ld else gone) ∧ aB [v, j] w w'
theorem OZ (w : World) {v j p n k c q mf ml : Nat} {va : Value} {dead ld : Bool} (h : w.heap[v]? = some (eW j c q mf ml va dead)) (hl : bZ w j p n k ld) {D : aI} {F : List Nat} (hd : bN w p D F) (hn : n ≤ 512) (hvj : v ≠ j)
  {fs : aG} {A : Bs → Nat} {R : Bs → Value} {FM : List Nat} (hf : dL w mf fs A R FM) (hvM : v ∉ FM) (hjM : j ∉ FM) (s : ByteArray) (hs : s.size ≤ maxLen) :
  Calls Tryz.prog 54 #[.pointer (some ⟨v, 0, none⟩), .string s] w (Ii w v j p n k c q mf ml va dead ld (ld || D.down) fs s.data.toList) := by
 have HU := aA (Ay w h hl hd hn hvj hf hvM hjM s hs)
 have HF := aA hf
 generalize (ld || D.down) = gone at *
 clear h hl hd hf
 go_in
 go_wp2_with fail
 refine HU.out.mono ?_
 rintro r w1 ⟨rfl, hb1, hl1, hu1⟩
 have hfil : dL w1 mf fs A R FM := HF.out.upd hu1 (fun i hi q => by
  simp only [aJ, cA, cG] at q
  rcases q with rfl | rfl
  ·exact hvM hi
  exact hjM hi)
 have H1 := aA (aC hb1 (aC hl1 hu1))
 clear hb1 hl1 hu1
 by_cases hdg : (dead || gone) = true
 ·rw [aF hdg]
  have HDG := aA hdg
  clear hdg hfil
  have HZ := FW w1
  go_wp2_with fail
  refine HZ.mono ?_
  rintro r w2 ⟨rfl, rfl⟩
  go_wp2_with fail
  go_ret2
  exact ⟨by rw [aF HDG.out]; rfl, H1.out⟩
 rw [aE hdg]
 have HDG := aA hdg
 clear hdg
 unfold Ii
 cases hg : bF fs s.data.toList with
 | none =>
  have HZ := FW w1
  clear hfil
  go_wp2_with fail
  refine HZ.mono ?_
  rintro r w2 ⟨rfl, rfl⟩
  go_wp2_with fail
  go_ret2
  exact ⟨by rw [aE HDG.out, hg]; rfl, H1.out⟩
 | some f =>
  have HZ := Cj w1 (hfil.node _ (eU hg))
  clear hfil
  go_wp2_with fail
  refine HZ.mono ?_
  rintro r w2 ⟨rfl, rfl⟩
  go_wp2_with fail
  go_ret2
  exact ⟨by rw [aE HDG.out, hg]; rfl, H1.out⟩
theorem fO.put {w : World} {mb : Nat} {L : List (Bs × Value)} (h : fO w mb L) (hs : cP bQ L) (hn : L.length < 1000000) {t e : TypeId} (ht : Tryz.prog.underlying t = some (.map 9 e)) (s : ByteArray) (hss : s.size ≤ maxLen) (v : Value) :
  ∃ w', (Instr.mapUpdate t (.map (some mb)) (.string s) v).run Tryz.prog w = .ok () w' ∧ fO w' mb (cQ bQ L s.data.toList v) ∧ w.grownBy w' (some mb) := by
 obtain ⟨w', h1, h2, h3⟩ := World.ownsMap.update h xG ht (by unfold maxLen; omega) (WideMaps.keyOf_string_mk Tryz.underlying9 hss) (show iN v = some (.held v, []) from rfl)
 rw [Fl xE hs] at h2
 exact ⟨w', h1, fO.of h2, h3⟩
def fP {β : Type} (A : Bs → β) (nm : Bs) (a : β) : Bs → β := fun k => if k = nm then a else A k
theorem Ij {fs : aG} (hs : cP bQ fs) (A : Bs → Nat) (nm : Bs) (f : bO) (a : Nat) : dW (cQ bQ fs nm f) (fP A nm a) = cQ bQ (dW fs A) nm (sE a) := by
 refine wW dD (qZ (sT dD hs nm f) _) (sT dD (qZ hs A) nm _) fun k => ?_
 rw [rA, pS dD hs, pS dD (qZ hs A), rA]
 unfold fP
 by_cases h : nm = k
 ·subst h; simp
 have h' : ¬ k = nm := fun e => h e.symm
 rw [aE h, aE h, aE h']
theorem Pa (fs : aG) (A : Bs → Nat) (nm : Bs) : dW (dJ fs nm) A = dJ (dW fs A) nm := by
 unfold dW dJ
 rw [List.filter_map]
 rfl
theorem dL.put {w w' : World} {mf : Nat} {fs : aG} {A : Bs → Nat} {R : Bs → Value} {FM : List Nat} (h : dL w mf fs A R FM) (hs : cP bQ fs) {nm : Bs} {f : bO} {a : Nat} {rv : Value} (hm : fO w' mf (cQ bQ (dW fs A) nm (sE a))) (u : aB [mf] w w')
  (hn : iG w' 0 a f.data.length rv f.runs) (ha : w.heap.size ≤ a) (hr : ∀ g, rv.ownBlock = some g → w.heap.size ≤ g) : dL w' mf (cQ bQ fs nm f) (fP A nm a) (fP R nm rv) (a :: (rv.ownBlock.toList ++ FM)) := by
 have hmem : ∀ p ∈ cQ bQ fs nm f, (p = (nm, f)) ∨ (p ∈ fs ∧ p.1 ≠ nm) := fun p hp => uD hs hp
 have e1 : fP A nm a nm = a := by simp [fP]
 have e2 : fP R nm rv nm = rv := by simp [fP]
 have o1 : ∀ {k}, k ≠ nm → fP A nm a k = A k := fun hk => by simp [fP, hk]
 have o2 : ∀ {k}, k ≠ nm → fP R nm rv k = R k := fun hk => by simp [fP, hk]
 have hmfl := h.map.lt
 refine ⟨by rw [Ij hs]; exact hm, fun p hp => ?_, by simp [h.mem], fun p hp => ?_, fun p hp g hg => ?_, fun p hp q hq hne => ?_, fun p hp q hq hne g hg => ?_, fun i hi => ?_⟩
 ·rcases hmem p hp with rfl | ⟨hp, hk⟩
  ·rw [e1, e2]; exact hn
  rw [o1 hk, o2 hk]
  have hnd := h.node p hp
  obtain ⟨es, clock, hb, -⟩ := h.map
  refine hnd.upd u (fun q => ?_) (fun g hg q => ?_)
  ·rw [aM.1 q] at hnd
   have := hnd.1
   rw [hb] at this
   cases this
  rw [aM.1 q] at hg
  exact qW hnd.2 hb hg
 ·rcases hmem p hp with rfl | ⟨hp, hk⟩
  ·rw [e1]; simp
  rw [o1 hk]; simp [h.memA p hp]
 ·rcases hmem p hp with rfl | ⟨hp, hk⟩
  ·rw [e2] at hg; simp [hg]
  rw [o2 hk] at hg; simp [h.memR p hp g hg]
 ·rcases hmem p hp with rfl | ⟨hp, hk⟩
  ·rcases hmem q hq with rfl | ⟨hq, hk2⟩
   ·exact absurd rfl hne
   rw [e1, o1 hk2]; intro e; have := h.lt _ (h.memA q hq); omega
  rcases hmem q hq with rfl | ⟨hq, hk2⟩
  ·rw [e1, o1 hk]; intro e; have := h.lt _ (h.memA p hp); omega
  rw [o1 hk, o1 hk2]; exact h.apA p hp q hq hne
 ·rcases hmem p hp with rfl | ⟨hp, hk⟩
  ·rcases hmem q hq with rfl | ⟨hq, hk2⟩
   ·exact absurd rfl hne
   rw [e2] at hg; rw [o2 hk2]; intro e; have := h.lt _ (h.memR q hq g e); have := hr g hg; omega
  rw [o2 hk] at hg
  rcases hmem q hq with rfl | ⟨hq, hk2⟩
  ·rw [e2]; intro e; have := h.lt _ (h.memR p hp g hg); have := hr g e; omega
  rw [o2 hk2]; exact h.apR p hp q hq hne g hg
 simp only [aJ, bK, mR] at hi
 rcases hi with rfl | hi | hi
 ·exact aH hn.1
 ·exact (hn.2.block i hi).2
 exact dN (h.lt i hi) u.size
theorem dL.del {w w' : World} {mf : Nat} {fs : aG} {A : Bs → Nat} {R : Bs → Value} {FM : List Nat} (h : dL w mf fs A R FM) {nm : Bs} (hm : fO w' mf (dJ (dW fs A) nm)) (u : aB [mf] w w') : dL w' mf (dJ fs nm) A R FM := by
 have hmem : ∀ p ∈ dJ fs nm, p ∈ fs := fun p hp => (wM.1 hp).1
 refine ⟨by rw [Pa]; exact hm, fun p hp => ?_, h.mem, fun p hp => h.memA p (hmem p hp), fun p hp => h.memR p (hmem p hp), fun p hp q hq => h.apA p (hmem p hp) q (hmem q hq), fun p hp q hq => h.apR p (hmem p hp) q (hmem q hq), fun i hi => dN (h.lt i hi) u.size⟩
 have hnd := h.node p (hmem p hp)
 obtain ⟨es, clock, hb, -⟩ := h.map
 refine hnd.upd u (fun q => ?_) (fun g hg q => ?_)
 ·rw [aM.1 q] at hnd
  have := hnd.1
  rw [hb] at this
  cases this
 rw [aM.1 q] at hg
 exact qW hnd.2 hb hg
def iI (gone : Bool) (fs : aG) (nm : Bs) : Nat := if gone = true then 2 else if nm.length = 0 ∨ 40 < nm.length then 82 else if (bF fs nm).isSome = true then 81 else if 64 ≤ fs.length then 83 else 0
def Ik (w : World) (v j p n k c q mf ml : Nat) (va : Value) (dead ld gone : Bool) (fs : aG) (A : Bs → Nat) (R : Bs → Value) (FM : List Nat) (nm : Bs) (r : Ending) (w' : World) : Prop :=
 r = .returned (.int .i64 (iI (dead || gone) fs nm)) ∧ w'.heap[v]? = some (eW j c q mf ml va (dead || gone)) ∧ bZ w' j p n k (if dead = true then ld else gone) ∧
  (iI (dead || gone) fs nm ≠ 0 → aB [v, j] w w') ∧ (iI (dead || gone) fs nm = 0 → ∃ a, w.heap.size ≤ a ∧ aB [v, j, mf] w w' ∧ dL w' mf (cQ bQ fs nm pT) (fP A nm a) (fP R nm (.slice none 0 0)) (a :: FM))
theorem Pb (w : World) {v j p n k c q mf ml : Nat} {va : Value} {dead ld : Bool} (h : w.heap[v]? = some (eW j c q mf ml va dead)) (hl : bZ w j p n k ld) {D : aI} {F : List Nat} (hd : bN w p D F) (hn : n ≤ 512) (hvj : v ≠ j)
  {fs : aG} {A : Bs → Nat} {R : Bs → Value} {FM : List Nat} (hf : dL w mf fs A R FM) (hsrt : cP bQ fs) (h64 : fs.length ≤ 64) (hvM : v ∉ FM) (hjM : j ∉ FM) (s : ByteArray) (hs : s.size ≤ maxLen) :
  Calls Tryz.prog 11 #[.pointer (some ⟨v, 0, none⟩), .string s] w (Ik w v j p n k c q mf ml va dead ld (ld || D.down) fs A R FM s.data.toList) := by
 have HU := aA (CV w h hl hd hn hvj)
 have HF := aA hf
 generalize (ld || D.down) = gone at *
 clear h hl hd hf
 have hsl : s.data.toList.length = s.size := yR
 go_in
 go_wp2_with fail
 refine HU.out.mono ?_
 rintro r w1 ⟨rfl, hb1, hl1, hu1⟩
 have hfil : dL w1 mf fs A R FM := HF.out.upd hu1 (fun i hi q => by
  simp only [aJ, cA, cG] at q
  rcases q with rfl | rfl
  ·exact hvM hi
  exact hjM hi)
 have HFI := aA hfil
 have hlook := fO.look hfil.map Tryz.underlying82 (z := .pointer none) (by kernel_rfl) s hs
 have hlen := World.ownsMap.len hfil.map Tryz.underlying82 3
 rw [vN, show (dW fs A).length = fs.length by simp [dW]] at hlen
 have HN := aA (OY w1 s)
 have d3 := aD hb1 3
 simp only [bA, bB, bS] at d3
 have H1 := aA (aC hb1 (aC hl1 hu1))
 clear hb1 hl1 hu1 hfil
 unfold Ik
 by_cases hdg : (dead || gone) = true
 ·have hc : iI (dead || gone) fs s.data.toList = 2 := by unfold iI; rw [aF hdg]
  rw [aF hdg]
  have HC := aA hc
  clear hc hlook hlen hsl
  go_wp2_with fail
  go_ret
  exact ⟨by rw [HC.out]; rfl, H1.out.1, H1.out.2.1, fun _ => H1.out.2.2, fun h => by rw [HC.out] at h; cases h⟩
 by_cases hnm : s.size = 0 ∨ 40 < s.size
 ·have hc : iI (dead || gone) fs s.data.toList = 82 := by unfold iI; rw [aE hdg, aF (by rw [hsl]; exact hnm)]
  have hdn : decide (s.size ≠ 0 ∧ s.size ≤ 40) = false := decide_eq_false (by omega)
  rw [aE hdg]
  have HC := aA hc
  rw [hdn] at HN
  clear hc hlook hlen hsl hdn hnm
  go_wp2_with fail
  refine HN.out.mono ?_
  rintro r w2 ⟨rfl, rfl⟩
  go_wp2_with fail
  go_ret
  exact ⟨by rw [HC.out]; rfl, H1.out.1, H1.out.2.1, fun _ => H1.out.2.2, fun h => by rw [HC.out] at h; cases h⟩
 have hdn : decide (s.size ≠ 0 ∧ s.size ≤ 40) = true := decide_eq_true (by omega)
 have hnm' : ¬ (s.data.toList.length = 0 ∨ 40 < s.data.toList.length) := by rw [hsl]; exact hnm
 rw [aE hdg]
 rw [hdn] at HN
 rw [rA] at hlook
 cases hg : bF fs s.data.toList with
 | some f =>
  have hc : iI (dead || gone) fs s.data.toList = 81 := by unfold iI; rw [aE hdg, aE hnm', hg]; rfl
  have HC := aA hc
  rw [hg] at hlook
  simp only [yP, tT] at hlook
  clear hc hlen hsl hdn hnm hnm'
  go_wp2_with fail
  refine HN.out.mono ?_
  rintro r w2 ⟨rfl, rfl⟩
  go_wp2_with fail
  go_ret
  exact ⟨by rw [HC.out]; rfl, H1.out.1, H1.out.2.1, fun _ => H1.out.2.2, fun h => by rw [HC.out] at h; cases h⟩
 | none =>
  rw [hg] at hlook
  simp only [Option.map_none, Option.getD_none] at hlook
  by_cases hm : 64 ≤ fs.length
  ·have hc : iI (dead || gone) fs s.data.toList = 83 := by unfold iI; rw [aE hdg, aE hnm', hg, aF hm]; rfl
   have HC := aA hc
   have hm' : (64 : Int) ≤ (fs.length : Int) := by omega
   clear hc hsl hdn hnm hnm'
   go_wp2_with fail
   refine HN.out.mono ?_
   rintro r w2 ⟨rfl, rfl⟩
   go_wp2_with fail
   go_ret
   exact ⟨by rw [HC.out]; rfl, H1.out.1, H1.out.2.1, fun _ => H1.out.2.2, fun h => by rw [HC.out] at h; cases h⟩
  have hc : iI (dead || gone) fs s.data.toList = 0 := by unfold iI; rw [aE hdg, aE hnm', hg, aE hm]; rfl
  have HC := aA hc
  have hm' : ¬ (64 : Int) ≤ (fs.length : Int) := by omega
  clear hc hsl hdn hnm hnm'
  go_wp2_with fail
  refine HN.out.mono ?_
  rintro r w2 ⟨rfl, rfl⟩
  go_wp2_with fail
  clear hlook hlen
  have HIN := aA fun X => FU X
  have HPU := aA fun (X : World) (u : aB [] w2 X) => fO.put (HFI.out.upd u (by simp)).map (qZ hsrt A) (by simp [dW]; omega) Tryz.underlying82 s hs (.pointer (some ⟨w2.heap.size, 0, none⟩))
  have hvl := aH H1.out.1
  go_region_held3 (fun X => X.cell? ⟨v, 3, none⟩ = some (.map (some mf)))
   (first
    | (with_reducible exact cN (aB.refl [] w2).drew d3)
    | (with_reducible exact cN hv6 d3)
    | (exact (iD (hgr.block v (by have := hv6.size; omega) (fun e => hvM (by have e2 := mQ e; rw [e2]; exact HFI.out.mem)))).trans (cN hv6 d3)))
   (first
    | (go_at_call 39; (with_reducible refine (HIN.out _).mono ?_); rintro e w6 ⟨rfl, hnd, hu6, hz6⟩; have hv6 : aB [] w2 w6 := (aB.refl [] w2).drew.trans hu6; obtain ⟨w7, hput, hms, hgr⟩ := HPU.out w6 hv6))
  go_wp2_with fail
  go_ret
  have hs6 := hv6.size
  have hs1 := H1.out.2.2.size
  have hu7 : aB [mf] w6 w7 := by have := aB.of_grown hgr; simpa using this
  have hvm : v ≠ mf := fun e => hvM (by rw [e]; exact HFI.out.mem)
  have hjm : j ≠ mf := fun e => hjM (by rw [e]; exact HFI.out.mem)
  have hml := HFI.out.map.lt
  have hb7 : w7.heap[v]? = some (eW j c q mf ml va (dead || gone)) := (hu7.block v (by omega) (by simp; exact hvm)).trans (gF hv6 H1.out.1)
  have hl7 := (H1.out.2.1.upd hv6 (by simp)).upd hu7 (by simp; exact hjm)
  have hn7 : iG w7 0 w2.heap.size 0 (.slice none 0 0) [] := ⟨(hu7.block _ (aH hnd.1) (by simp; omega)).trans hnd.1, aK.nil _ _⟩
  have hu27 : aB [mf] w2 w7 := (hv6.mono (by simp)).trans hu7
  have hfp := HFI.out.put (nm := s.data.toList) (f := pT) (a := w2.heap.size) (rv := .slice none 0 0) hsrt hms hu27 hn7 (aQ _) (fun g hg => by cases hg)
  exact ⟨by rw [HC.out]; rfl, hb7, hl7, fun h => absurd HC.out h, fun _ => ⟨w2.heap.size, by omega, (H1.out.2.2.mono (fun k hk _ => by simp only [aJ, cA, cG] at hk ⊢; rcases hk with rfl | rfl <;> simp)).trans (hu27.mono (by simp)), hfp⟩⟩
end Go.Proofs.YtgpefiacbipfpaaGreatDoor
