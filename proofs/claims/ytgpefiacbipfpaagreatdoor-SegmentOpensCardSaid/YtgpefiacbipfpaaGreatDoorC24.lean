/- Free, List. -/
import Derived.Test.YtgpefiacbipfpaaGreatDoorC23
set_option maxRecDepth 100000
set_option maxHeartbeats 2000000
namespace Go.Proofs.YtgpefiacbipfpaaGreatDoor
open Go.RowKit Go.Maps
theorem Pc (w : World) {v j c q mf ml : Nat} {va : Value} {dead : Bool} (h : w.heap[v]? = some (eW j c q mf ml va dead)) {base : Nat} {nv lv : Value} {now last : List Bool} (hm : fJ w base q nv lv now last) (hll : last.length = now.length) (h5 : now.length ≤ 512) :
  Calls Tryz.prog 78 #[.pointer (some ⟨v, 0, none⟩)] w fun r w' => r = .returned (.int .i64 (aY (dZ (dG now last) now.length 0))) ∧ aB [] w w' := by
 have c2 := aD h 2
 simp only [bA, bB, bS] at c2
 have HC := aA (CO w hm hll h5)
 clear h hm
 go_in
 go_wp2_with fail
 refine HC.out.mono ?_
 rintro r w1 ⟨rfl, hu⟩
 go_wp2_with fail
 go_ret
 exact ⟨rfl, hu⟩
theorem Pd (w : World) {v j c q mf ml : Nat} {va : Value} {dead : Bool} (h : w.heap[v]? = some (eW j c q mf ml va dead)) {fs : aG} {A : Bs → Nat} {R : Bs → Value} {FM : List Nat} (hf : dL w mf fs A R FM) (hs : cP bQ fs) (hl : fs.length ≤ 64) :
  Calls Tryz.prog 75 #[.pointer (some ⟨v, 0, none⟩)] w fun r w' => ∃ u, r = .returned u ∧ gV w' w.heap.size u (fs.map (·.1)) ∧ aB [] w w' := by
 have c3 := aD h 3
 simp only [bA, bB, bS] at c3
 have HK := aA (CU (some mf) w)
 have HS := aA (Ib w hf.map (qZ hs A) (by simp [dW]; omega))
 clear h hf
 go_in
 go_wp2_with fail
 refine HK.out.mono ?_
 rintro r w1 ⟨rfl, rfl⟩
 go_wp2_with fail
 refine HS.out.mono ?_
 rintro r w2 ⟨u, rfl, ho, hu⟩
 go_wp2_with fail
 go_ret
 have e : lZ (dW fs A) = fs.map (·.1) := by simp [lZ, dW]
 rw [e] at ho
 exact ⟨_, rfl, ho.base (by omega), ((aB.refl [] w).alloc _).trans hu⟩
theorem Pe {w w' : World} {b : Nat} (h : w.mapTurned w' b) : aB [b] w w' := by
 obtain ⟨es, clock, es', clock', hb, rfl⟩ := h
 exact ⟨rfl, rfl, by simp [ChangeMaps.setBlock], fun k hk hn => Kq hb _ (fun e => hn (by rw [e]; simp))⟩
def nL (gone : Bool) (fs : aG) (nm : Bs) : Nat := if gone = true then 2 else if (bF fs nm).isSome = true then 0 else 80
structure Il (now : List Bool) (f : bO) : Prop where
 few : f.runs.length ≤ 1000
 fit : ∀ r ∈ f.runs, 1 ≤ r.2 ∧ r.1 + r.2 ≤ now.length
 nd : (bY f.runs).Nodup
 use : ∀ b ∈ bY f.runs, now[b]? = some true
def Pf (w : World) (v j p n k c q mf ml : Nat) (va : Value) (dead ld gone : Bool) (base : Nat) (lv : Value) (now last : List Bool) (fs : aG) (A : Bs → Nat) (R : Bs → Value) (FM : List Nat) (nm : Bs) (r : Ending) (w' : World) : Prop :=
 r = .returned (.int .i64 (nL (dead || gone) fs nm)) ∧ w'.heap[v]? = some (eW j c q mf ml va (dead || gone)) ∧ bZ w' j p n k (if dead = true then ld else gone) ∧
  (nL (dead || gone) fs nm ≠ 0 → aB [v, j] w w') ∧ (nL (dead || gone) fs nm = 0 → ∃ f nv', bF fs nm = some f ∧ aB [v, j, q, mf] w w' ∧ dL w' mf (dJ fs nm) A R FM ∧ fJ w' base q nv' lv (kK now f.runs) last ∧ ∀ g, nv'.ownBlock = some g → w.heap.size ≤ g)
theorem Pg (w : World) {v j p n k c q mf ml : Nat} {va : Value} {dead ld : Bool} (h : w.heap[v]? = some (eW j c q mf ml va dead)) (hl : bZ w j p n k ld) {D : aI} {F : List Nat} (hd : bN w p D F) (hn : n ≤ 512) (hvj : v ≠ j)
  {fs : aG} {A : Bs → Nat} {R : Bs → Value} {FM : List Nat} (hf : dL w mf fs A R FM) (hvM : v ∉ FM) (hjM : j ∉ FM) {base : Nat} {nv lv : Value} {now last : List Bool} (hm : fJ w base q nv lv now last) (hm0 : 0 < now.length) (hm5 : now.length ≤ 512) (hqM : q ∉ FM) (hqv : q ≠ v) (hqj : q ≠ j)
  (s : ByteArray) (hs : s.size ≤ maxLen) (hin : ∀ f, bF fs s.data.toList = some f → Il now f) :
  Calls Tryz.prog 116 #[.pointer (some ⟨v, 0, none⟩), .string s] w (Pf w v j p n k c q mf ml va dead ld (ld || D.down) base lv now last fs A R FM s.data.toList) := by
 have HU := aA (Ay w h hl hd hn hvj hf hvM hjM s hs)
 have HF := aA hf
 have HM := aA (aC hm (aC h hl))
 have hdM : ∀ {g : Nat} {u : Value} {l : List Bool}, eV w base u l → u.ownBlock = some g → g ≠ v ∧ g ≠ j := fun ho hg => ⟨fun e => tH ho h (by decide) (by rw [hg, e]), fun e => tH ho hl (by decide) (by rw [hg, e])⟩
 have HDM := aA (aC (fun g (hg : nv.ownBlock = some g) => hdM hm.now hg) (fun g (hg : lv.ownBlock = some g) => hdM hm.last hg))
 generalize (ld || D.down) = gone at *
 clear h hl hd hf hm hdM
 go_in
 go_wp2_with fail
 refine HU.out.mono ?_
 rintro r w1 ⟨rfl, hb1, hl1, hu1⟩
 have hfil : dL w1 mf fs A R FM := HF.out.upd hu1 (fun i hi q => by
  simp only [aJ, cA, cG] at q
  rcases q with rfl | rfl
  ·exact hvM hi
  exact hjM hi)
 have hmap : fJ w1 base q nv lv now last := HM.out.1.upd hu1 (by simp; exact ⟨hqv, hqj⟩) (fun i hi e => by
  have := HDM.out.1 i e
  simp only [aJ, cA, cG] at hi; rcases hi with rfl | rfl; exact this.1 rfl; exact this.2 rfl) (fun i hi e => by
  have := HDM.out.2 i e
  simp only [aJ, cA, cG] at hi; rcases hi with rfl | rfl; exact this.1 rfl; exact this.2 rfl)
 have H1 := aA (aC hb1 (aC hl1 hu1))
 have HFI := aA hfil
 have HMI := aA hmap
 have d2 := aD hb1 2
 have d3 := aD hb1 3
 simp only [bA, bB, bS] at d2 d3
 clear hb1 hl1 hu1 hfil hmap
 by_cases hdg : (dead || gone) = true
 ·have hc : nL (dead || gone) fs s.data.toList = 2 := by unfold nL; rw [aF hdg]
  rw [aF hdg]
  have HC := aA hc
  clear hc
  go_wp2_with fail
  go_ret
  exact ⟨by rw [HC.out]; rfl, H1.out.1, H1.out.2.1, fun _ => H1.out.2.2, fun h => by rw [HC.out] at h; cases h⟩
 rw [aE hdg]
 cases hg : bF fs s.data.toList with
 | none =>
  have hc : nL (dead || gone) fs s.data.toList = 80 := by unfold nL; rw [aE hdg, hg]; rfl
  have HC := aA hc
  clear hc
  go_wp2_with fail
  go_ret
  exact ⟨by rw [HC.out]; rfl, H1.out.1, H1.out.2.1, fun _ => H1.out.2.2, fun h => by rw [HC.out] at h; cases h⟩
 | some f =>
  have hc : nL (dead || gone) fs s.data.toList = 0 := by unfold nL; rw [aE hdg, hg]; rfl
  have HC := aA hc
  have hu := hin f hg
  have HGA := aA hg
  have hnd := HFI.out.node _ (eU hg)
  have HRU := aA fun (X : World) (u : aB [] w1 X) => Ad X (hnd.upd u (by simp) (by simp)) (by have := hu.few; show f.runs.length ≤ _; omega)
  have HGI := aA fun (X : World) (u : aB [] w1 X) (vr : Value) (b : Nat) (ho : aK cR 148 2 X b vr f.runs) => Hr X (HMI.out.upd u (by simp) (by simp) (by simp)) hm0 hm5 (aK.rd TR ho) hu.few hu.fit hu.nd hu.use
  clear hc hg hnd hu
  go_wp2_with fail
  have hvl := aH H1.out.1
  go_region_held3 (fun X => X.cell? ⟨v, 2, none⟩ = some (.pointer (some ⟨q, 0, none⟩)))
   (first
    | (with_reducible exact cN (aB.refl [] w1).drew d2)
    | (with_reducible exact cN hv6 d2)
    | (exact (iD (hu7.block v (by have := hv6.size; omega) (by simp; exact fun e => hqv e.symm))).trans (cN hv6 d2)))
   (first
    | (go_at_call 89; (with_reducible refine (HRU.out _ ?_).mono ?_); (exact (aB.refl [] w1).drew); rintro e w6 ⟨v6, rfl, ho6, hu6⟩; have hv6 : aB [] w1 w6 := (aB.refl [] w1).drew.trans hu6; have HO6 := aA ho6)
    | (go_at_call 136; (with_reducible refine (HGI.out _ hv6 _ _ HO6.out).mono ?_); rintro e w7 ⟨rfl, nv', hm7, hu7, hn7⟩))
  have hs6 := hv6.size
  have hs1 := H1.out.2.2.size
  have hb7 : w7.heap[v]? = some (eW j c q mf ml va (dead || gone)) := (hu7.block v (by omega) (by simp; exact fun e => hqv e.symm)).trans (gF hv6 H1.out.1)
  have hl7 := (H1.out.2.1.upd hv6 (by simp)).upd hu7 (by simp; exact fun e => hqj e.symm)
  have hf7 : dL w7 mf fs A R FM := (HFI.out.upd hv6 (by simp)).upd hu7 (fun i hi e => hqM (by rw [aM.1 e] at hi; exact hi))
  have k3 := aD hb7 3
  simp only [bA, bB, bS] at k3
  have H7 := aA (aC hb7 (aC hl7 (aC hf7 (aC hm7 (aC hu7 hn7)))))
  clear hb7 hl7 hf7 hm7 hu7 hn7
  go_wp2_with (at_delete; go_loud (refine wpList_delete_own _ rfl _ _ _ _ rfl _ xG Tryz.underlying82 iN mf _ _ rfl H7.out.2.2.1.map (.string s) _ rfl (WideMaps.keyOf_string_mk Tryz.underlying9 hs) ?_; intro w8 hown8 hturn8))
  go_wp2_with fail
  go_ret
  have hu8 := Pe hturn8
  obtain ⟨hb7, hl7, hf7, hm7, hu7, hn7⟩ := H7.out
  have hvm : v ≠ mf := fun e => hvM (by rw [e]; exact HFI.out.mem)
  have hjm : j ≠ mf := fun e => hjM (by rw [e]; exact HFI.out.mem)
  have hqm : q ≠ mf := fun e => hqM (by rw [e]; exact HFI.out.mem)
  rw [Fk xE] at hown8
  have hf8 := hf7.del (fO.of hown8) hu8
  obtain ⟨es, ck, hmb, -⟩ := hf7.map
  refine ⟨by rw [HC.out]; rfl, (hu8.block v (aH hb7) (by simp; exact hvm)).trans hb7, hl7.upd hu8 (by simp; exact hjm), fun h => absurd HC.out h, fun _ => ⟨f, nv', HGA.out, ?_, hf8, ?_, fun g hg => by have := hn7 g hg; omega⟩⟩
  ·refine (((H1.out.2.2.mono (fun k hk _ => ?_)).trans (hv6.mono (by simp))).trans (hu7.mono (by simp))).trans (hu8.mono (by simp))
   simp only [aJ, cA, cG] at hk ⊢
   rcases hk with rfl | rfl <;> simp
  exact hm7.upd hu8 (by simp; exact hqm) (fun i hi e => by rw [aM.1 hi] at e; exact qW hm7.now hmb e) (fun i hi e => by rw [aM.1 hi] at e; exact qW hm7.last hmb e)
def Ph (gone : Bool) (fs : aG) (a b : Bs) : Nat := if gone = true then 2 else if (bF fs a).isSome = true then (if b.length = 0 ∨ 40 < b.length then 82 else 0) else 80
end Go.Proofs.YtgpefiacbipfpaaGreatDoor
