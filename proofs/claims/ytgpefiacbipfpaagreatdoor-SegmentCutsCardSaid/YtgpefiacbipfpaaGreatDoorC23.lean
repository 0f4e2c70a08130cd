/- Free, List. Remove. A file is called otherwise. Rename. -/
import Derived.Test.YtgpefiacbipfpaaGreatDoorC22
namespace Go.Proofs.YtgpefiacbipfpaaGreatDoor
open Go.RowKit Go.Maps
end Go.Proofs.YtgpefiacbipfpaaGreatDoor

namespace Go.Proofs.YtgpefiacbipfpaaGreatDoor
open Go.RowKit Go.Maps
theorem upd_turned {w w' : World} {b : Nat} (h : w.mapTurned w' b) : Upd [b] w w' := by
 obtain ⟨es, clock, es', clock', hb, rfl⟩ := h
 exact ⟨rfl, rfl, by simp [ChangeMaps.setBlock], fun k hk hn => ChangeMaps.heap_setBlock_other hb _ (fun e => hn (by rw [e]; simp))⟩
def codeF (gone : Bool) (fs : Files) (nm : Bs) : Nat := if gone = true then 2 else if (getA fs nm).isSome = true then 0 else 80
structure InUse (now : List Bool) (f : Fil) : Prop where
 few : f.runs.length ≤ 1000
 fit : ∀ r ∈ f.runs, 1 ≤ r.2 ∧ r.1 + r.2 ≤ now.length
 nd : (expand f.runs).Nodup
 use : ∀ b ∈ expand f.runs, now[b]? = some true
def FRemovePost (w : World) (v j p n k c q mf ml : Nat) (va : Value) (dead ld gone : Bool) (base : Nat) (lv : Value) (now last : List Bool) (fs : Files) (A : Bs → Nat) (R : Bs → Value) (FM : List Nat) (nm : Bs) (r : Ending) (w' : World) : Prop :=
 r = .returned (.int .i64 (codeF (dead || gone) fs nm)) ∧ w'.heap[v]? = some (boxF j c q mf ml va (dead || gone)) ∧ LogR w' j p n k (if dead = true then ld else gone) ∧
  (codeF (dead || gone) fs nm ≠ 0 → Upd [v, j] w w') ∧ (codeF (dead || gone) fs nm = 0 → ∃ f nv', getA fs nm = some f ∧ Upd [v, j, q, mf] w w' ∧ FilR w' mf (delA fs nm) A R FM ∧ MapR w' base q nv' lv (clearL now f.runs) last ∧ ∀ g, nv'.ownBlock = some g → w.heap.size ≤ g)
set_option maxRecDepth 100000 in
set_option maxHeartbeats 2000000 in
theorem fremove_ok (w : World) {v j p n k c q mf ml : Nat} {va : Value} {dead ld : Bool} (h : w.heap[v]? = some (boxF j c q mf ml va dead)) (hl : LogR w j p n k ld) {D : Dev} {F : List Nat} (hd : DevAt w p D F) (hn : n ≤ 512) (hvj : v ≠ j)
  {fs : Files} {A : Bs → Nat} {R : Bs → Value} {FM : List Nat} (hf : FilR w mf fs A R FM) (hvM : v ∉ FM) (hjM : j ∉ FM) {base : Nat} {nv lv : Value} {now last : List Bool} (hm : MapR w base q nv lv now last) (hm0 : 0 < now.length) (hm5 : now.length ≤ 512) (hqM : q ∉ FM) (hqv : q ≠ v) (hqj : q ≠ j)
  (s : ByteArray) (hs : s.size ≤ maxLen) (hin : ∀ f, getA fs s.data.toList = some f → InUse now f) :
  Calls Tryz.prog 116 #[.pointer (some ⟨v, 0, none⟩), .string s] w (FRemovePost w v j p n k c q mf ml va dead ld (ld || D.down) base lv now last fs A R FM s.data.toList) := by
 have HU := Lib.hid (ffind_ok w h hl hd hn hvj hf hvM hjM s hs)
 have HF := Lib.hid hf
 have HM := Lib.hid (And.intro hm (And.intro h hl))
 have hdM : ∀ {g : Nat} {u : Value} {l : List Bool}, OwB w base u l → u.ownBlock = some g → g ≠ v ∧ g ≠ j := fun ho hg => ⟨fun e => own_ne' ho h (by decide) (by rw [hg, e]), fun e => own_ne' ho hl (by decide) (by rw [hg, e])⟩
 have HDM := Lib.hid (And.intro (fun g (hg : nv.ownBlock = some g) => hdM hm.now hg) (fun g (hg : lv.ownBlock = some g) => hdM hm.last hg))
 generalize (ld || D.down) = gone at *
 clear h hl hd hf hm hdM
 go_enter Tryz.func116, Tryz.ntmps116
 go_wp2_with fail
 refine HU.out.mono ?_
 rintro r w1 ⟨rfl, hb1, hl1, hu1⟩
 have hfil : FilR w1 mf fs A R FM := HF.out.upd hu1 (fun i hi q => by
  simp only [List.mem_cons, List.not_mem_nil, or_false] at q
  rcases q with rfl | rfl
  ·exact hvM hi
  ·exact hjM hi)
 have hmap : MapR w1 base q nv lv now last := HM.out.1.upd hu1 (by simp; exact ⟨hqv, hqj⟩) (fun i hi e => by
  have := HDM.out.1 i e
  simp only [List.mem_cons, List.not_mem_nil, or_false] at hi; rcases hi with rfl | rfl; exact this.1 rfl; exact this.2 rfl) (fun i hi e => by
  have := HDM.out.2 i e
  simp only [List.mem_cons, List.not_mem_nil, or_false] at hi; rcases hi with rfl | rfl; exact this.1 rfl; exact this.2 rfl)
 have H1 := Lib.hid (And.intro hb1 (And.intro hl1 hu1))
 have HFI := Lib.hid hfil
 have HMI := Lib.hid hmap
 have d2 := cell_blk hb1 2
 have d3 := cell_blk hb1 3
 simp only [List.getElem?_toArray, List.getElem?_cons_zero, List.getElem?_cons_succ] at d2 d3
 clear hb1 hl1 hu1 hfil hmap
 by_cases hdg : (dead || gone) = true
 ·have hc : codeF (dead || gone) fs s.data.toList = 2 := by unfold codeF; rw [if_pos hdg]
  rw [if_pos hdg]
  have HC := Lib.hid hc
  clear hc
  go_wp2_with fail
  go_ret
  exact ⟨by rw [HC.out]; rfl, H1.out.1, H1.out.2.1, fun _ => H1.out.2.2, fun h => by rw [HC.out] at h; cases h⟩
 ·rw [if_neg hdg]
  cases hg : getA fs s.data.toList with
  | none =>
   have hc : codeF (dead || gone) fs s.data.toList = 80 := by unfold codeF; rw [if_neg hdg, hg]; rfl
   have HC := Lib.hid hc
   clear hc
   go_wp2_with fail
   go_ret
   exact ⟨by rw [HC.out]; rfl, H1.out.1, H1.out.2.1, fun _ => H1.out.2.2, fun h => by rw [HC.out] at h; cases h⟩
  | some f =>
   have hc : codeF (dead || gone) fs s.data.toList = 0 := by unfold codeF; rw [if_neg hdg, hg]; rfl
   have HC := Lib.hid hc
   have hu := hin f hg
   have HGA := Lib.hid hg
   have hnd := HFI.out.node _ (getA_mem hg)
   have HRU := Lib.hid fun (X : World) (u : Upd [] w1 X) => iruns_ok X (hnd.upd u (by simp) (by simp)) (by have := hu.few; show f.runs.length ≤ _; omega)
   have HGI := Lib.hid fun (X : World) (u : Upd [] w1 X) (vr : Value) (b : Nat) (ho : OwnG cR 148 2 X b vr f.runs) => agive_ok X (HMI.out.upd u (by simp) (by simp) (by simp)) hm0 hm5 (OwnG.rd TR ho) hu.few hu.fit hu.nd hu.use
   clear hc hg hnd hu
   go_wp2_with fail
   have hvl := lt_of_blk H1.out.1
   go_region_held3 (fun X => X.cell? ⟨v, 2, none⟩ = some (.pointer (some ⟨q, 0, none⟩)))
    (first
     | (with_reducible exact held1 (Upd.refl [] w1).drew d2)
     | (with_reducible exact held1 hv6 d2)
     | (exact (World.cell?_of_block (hu7.block v (by have := hv6.size; omega) (by simp; exact fun e => hqv e.symm))).trans (held1 hv6 d2)))
    (first
     | (go_at_call 89; (with_reducible refine (HRU.out _ ?_).mono ?_); (exact (Upd.refl [] w1).drew); rintro e w6 ⟨v6, rfl, ho6, hu6⟩; have hv6 : Upd [] w1 w6 := (Upd.refl [] w1).drew.trans hu6; have HO6 := Lib.hid ho6)
     | (go_at_call 136; (with_reducible refine (HGI.out _ hv6 _ _ HO6.out).mono ?_); rintro e w7 ⟨rfl, nv', hm7, hu7, hn7⟩))
   have hs6 := hv6.size
   have hs1 := H1.out.2.2.size
   have hb7 : w7.heap[v]? = some (boxF j c q mf ml va (dead || gone)) := (hu7.block v (by omega) (by simp; exact fun e => hqv e.symm)).trans (heap_keepU hv6 H1.out.1)
   have hl7 := (H1.out.2.1.upd hv6 (by simp)).upd hu7 (by simp; exact fun e => hqj e.symm)
   have hf7 : FilR w7 mf fs A R FM := (HFI.out.upd hv6 (by simp)).upd hu7 (fun i hi e => hqM (by rw [List.mem_singleton.1 e] at hi; exact hi))
   have k3 := cell_blk hb7 3
   simp only [List.getElem?_toArray, List.getElem?_cons_zero, List.getElem?_cons_succ] at k3
   have H7 := Lib.hid (And.intro hb7 (And.intro hl7 (And.intro hf7 (And.intro hm7 (And.intro hu7 hn7)))))
   clear hb7 hl7 hf7 hm7 hu7 hn7
   go_wp2_with (at_delete; go_loud (refine wpList_delete_own _ rfl _ _ _ _ rfl _ lawS Tryz.underlying82 opq mf _ _ rfl H7.out.2.2.1.map (.string s) _ rfl (WideMaps.keyOf_string_mk Tryz.underlying9 hs) ?_; intro w8 hown8 hturn8))
   go_wp2_with fail
   go_ret
   have hu8 := upd_turned hturn8
   obtain ⟨hb7, hl7, hf7, hm7, hu7, hn7⟩ := H7.out
   have hvm : v ≠ mf := fun e => hvM (by rw [e]; exact HFI.out.mem)
   have hjm : j ≠ mf := fun e => hjM (by rw [e]; exact HFI.out.mem)
   have hqm : q ≠ mf := fun e => hqM (by rw [e]; exact HFI.out.mem)
   rw [del_dataA keyS] at hown8
   have hf8 := hf7.del (MapS.of hown8) hu8
   obtain ⟨es, ck, hmb, -⟩ := hf7.map
   refine ⟨by rw [HC.out]; rfl, (hu8.block v (lt_of_blk hb7) (by simp; exact hvm)).trans hb7, hl7.upd hu8 (by simp; exact hjm), fun h => absurd HC.out h, fun _ => ⟨f, nv', HGA.out, ?_, hf8, ?_, fun g hg => by have := hn7 g hg; omega⟩⟩
   ·refine (((H1.out.2.2.mono (fun k hk _ => ?_)).trans (hv6.mono (by simp))).trans (hu7.mono (by simp))).trans (hu8.mono (by simp))
    simp only [List.mem_cons, List.not_mem_nil, or_false] at hk ⊢
    rcases hk with rfl | rfl <;> simp
   ·exact hm7.upd hu8 (by simp; exact hqm) (fun i hi e => by rw [List.mem_singleton.1 hi] at e; exact own_map hm7.now hmb e) (fun i hi e => by rw [List.mem_singleton.1 hi] at e; exact own_map hm7.last hmb e)
end Go.Proofs.YtgpefiacbipfpaaGreatDoor

namespace Go.Proofs.YtgpefiacbipfpaaGreatDoor
open Go.RowKit Go.Maps
end Go.Proofs.YtgpefiacbipfpaaGreatDoor

namespace Go.Proofs.YtgpefiacbipfpaaGreatDoor
open Go.RowKit Go.Maps
def codeN (gone : Bool) (fs : Files) (a b : Bs) : Nat := if gone = true then 2 else if (getA fs a).isSome = true then (if b.length = 0 ∨ 40 < b.length then 82 else 0) else 80
end Go.Proofs.YtgpefiacbipfpaaGreatDoor
