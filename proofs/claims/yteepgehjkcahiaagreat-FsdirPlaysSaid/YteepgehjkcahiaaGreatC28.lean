/- Remove. A file is called otherwise. Rename. -/
import Derived.Test.YteepgehjkcahiaaGreatC27
namespace Go.Proofs.YteepgehjkcahiaaGreat
open Go.RowKit Go.Maps
theorem upd_turned {w w' : World} {b : Nat} (h : w.mapTurned w' b) : Upd [b] w w' := by
 obtain ⟨es, clock, es', clock', hb, rfl⟩ := h
 exact ⟨rfl, rfl, by simp [ChangeMaps.setBlock], fun k hk hn => ChangeMaps.heap_setBlock_other hb _ (fun e => hn (by rw [e]; simp))⟩
def codeF (gone : Bool) (fs : Files) (nm : Bs) : Nat := if gone = true then 2 else if (getA fs nm).isSome = true then 0 else 80
structure InUse (now : List Bool) (f : Fil) : Prop where
 few : f.runs.length ≤ 1000
 fit : ∀ r ∈ f.runs, 1 ≤ r.2 ∧ r.1 + r.2 ≤ now.length
 nd : (expand f.runs).Nodup
 use : ∀ b ∈ expand f.runs, now[b]? = some true
def FRemovePost (w : World) (v j p n k c q mf ml : Nat) (va : Value) (dead ld gone : Bool) (base : Nat) (lv : Value) (now last : List Bool) (fs : Files) (A : Bs → Nat) (R : Bs → Value) (FM : List Nat) (nm : Bs) (r : Ending) (w' : World) : Prop :=
 r = .returned (.int .i64 (codeF (dead || gone) fs nm)) ∧ w'.heap[v]? = some (boxF j c q mf ml va (dead || gone)) ∧ LogR w' j p n k (if dead = true then ld else gone) ∧
  (codeF (dead || gone) fs nm ≠ 0 → Upd [v, j] w w') ∧ (codeF (dead || gone) fs nm = 0 → ∃ f nv', getA fs nm = some f ∧ Upd [v, j, q, mf] w w' ∧ FilR w' mf (delA fs nm) A R FM ∧ MapR w' base q nv' lv (clearL now f.runs) last ∧ ∀ g, nv'.ownBlock = some g → w.heap.size ≤ g)
set_option maxRecDepth 100000 in
set_option maxHeartbeats 2000000 in
theorem fremove_ok (w : World) {v j p n k c q mf ml : Nat} {va : Value} {dead ld : Bool} (h : w.heap[v]? = some (boxF j c q mf ml va dead)) (hl : LogR w j p n k ld) {D : Dev} {F : List Nat} (hd : DevAt w p D F) (hn : n ≤ 512) (hvj : v ≠ j)
  {fs : Files} {A : Bs → Nat} {R : Bs → Value} {FM : List Nat} (hf : FilR w mf fs A R FM) (hvM : v ∉ FM) (hjM : j ∉ FM) {base : Nat} {nv lv : Value} {now last : List Bool} (hm : MapR w base q nv lv now last) (hm0 : 0 < now.length) (hm5 : now.length ≤ 512) (hqM : q ∉ FM) (hqv : q ≠ v) (hqj : q ≠ j)
  (s : ByteArray) (hs : s.size ≤ maxLen) (hin : ∀ f, getA fs s.data.toList = some f → InUse now f) :
  Calls Tryz.prog 19 #[.pointer (some ⟨v, 0, none⟩), .string s] w (FRemovePost w v j p n k c q mf ml va dead ld (ld || D.down) base lv now last fs A R FM s.data.toList) := by
 have HU := Lib.hid (ffind_ok w h hl hd hn hvj hf hvM hjM s hs)
 have HF := Lib.hid hf
 have HM := Lib.hid (And.intro hm (And.intro h hl))
 have hdM : ∀ {g : Nat} {u : Value} {l : List Bool}, OwB w base u l → u.ownBlock = some g → g ≠ v ∧ g ≠ j := fun ho hg => ⟨fun e => own_ne' ho h (by decide) (by rw [hg, e]), fun e => own_ne' ho hl (by decide) (by rw [hg, e])⟩
 have HDM := Lib.hid (And.intro (fun g (hg : nv.ownBlock = some g) => hdM hm.now hg) (fun g (hg : lv.ownBlock = some g) => hdM hm.last hg))
 generalize (ld || D.down) = gone at *
 clear h hl hd hf hm hdM
 go_enter Tryz.func19, Tryz.ntmps19
 go_wp2_with fail
 refine HU.out.mono ?_
 rintro r w1 ⟨rfl, hb1, hl1, hu1⟩
 have hfil : FilR w1 mf fs A R FM := HF.out.upd hu1 (fun i hi q => by
  simp only [List.mem_cons, List.not_mem_nil, or_false] at q
  rcases q with rfl | rfl
  ·exact hvM hi
  ·exact hjM hi)
 have hmap : MapR w1 base q nv lv now last := HM.out.1.upd hu1 (by simp; exact ⟨hqv, hqj⟩) (fun i hi e => by
  have := HDM.out.1 i e
  simp only [List.mem_cons, List.not_mem_nil, or_false] at hi; rcases hi with rfl | rfl; exact this.1 rfl; exact this.2 rfl) (fun i hi e => by
  have := HDM.out.2 i e
  simp only [List.mem_cons, List.not_mem_nil, or_false] at hi; rcases hi with rfl | rfl; exact this.1 rfl; exact this.2 rfl)
 have H1 := Lib.hid (And.intro hb1 (And.intro hl1 hu1))
 have HFI := Lib.hid hfil
 have HMI := Lib.hid hmap
 have d2 := cell_blk hb1 2
 have d3 := cell_blk hb1 3
 simp only [List.getElem?_toArray, List.getElem?_cons_zero, List.getElem?_cons_succ] at d2 d3
 clear hb1 hl1 hu1 hfil hmap
 by_cases hdg : (dead || gone) = true
 ·have hc : codeF (dead || gone) fs s.data.toList = 2 := by unfold codeF; rw [if_pos hdg]
  rw [if_pos hdg]
  have HC := Lib.hid hc
  clear hc
  go_wp2_with fail
  go_ret
  exact ⟨by rw [HC.out]; rfl, H1.out.1, H1.out.2.1, fun _ => H1.out.2.2, fun h => by rw [HC.out] at h; cases h⟩
 ·rw [if_neg hdg]
  cases hg : getA fs s.data.toList with
  | none =>
   have hc : codeF (dead || gone) fs s.data.toList = 80 := by unfold codeF; rw [if_neg hdg, hg]; rfl
   have HC := Lib.hid hc
   clear hc
   go_wp2_with fail
   go_ret
   exact ⟨by rw [HC.out]; rfl, H1.out.1, H1.out.2.1, fun _ => H1.out.2.2, fun h => by rw [HC.out] at h; cases h⟩
  | some f =>
   have hc : codeF (dead || gone) fs s.data.toList = 0 := by unfold codeF; rw [if_neg hdg, hg]; rfl
   have HC := Lib.hid hc
   have hu := hin f hg
   have HGA := Lib.hid hg
   have hnd := HFI.out.node _ (getA_mem hg)
   have HRU := Lib.hid fun (X : World) (u : Upd [] w1 X) => iruns_ok X (hnd.upd u (by simp) (by simp)) (by have := hu.few; show f.runs.length ≤ _; omega)
   have HGI := Lib.hid fun (X : World) (u : Upd [] w1 X) (vr : Value) (b : Nat) (ho : OwnG cR 129 2 X b vr f.runs) => agive_ok X (HMI.out.upd u (by simp) (by simp) (by simp)) hm0 hm5 (OwnG.rd TR ho) hu.few hu.fit hu.nd hu.use
   clear hc hg hnd hu
   go_wp2_with fail
   have hvl := lt_of_blk H1.out.1
   go_region_held3 (fun X => X.cell? ⟨v, 2, none⟩ = some (.pointer (some ⟨q, 0, none⟩)))
    (first
     | (with_reducible exact held1 (Upd.refl [] w1).drew d2)
     | (with_reducible exact held1 hv6 d2)
     | (exact (World.cell?_of_block (hu7.block v (by have := hv6.size; omega) (by simp; exact fun e => hqv e.symm))).trans (held1 hv6 d2)))
    (first
     | (go_at_call 60; (with_reducible refine (HRU.out _ ?_).mono ?_); (exact (Upd.refl [] w1).drew); rintro e w6 ⟨v6, rfl, ho6, hu6⟩; have hv6 : Upd [] w1 w6 := (Upd.refl [] w1).drew.trans hu6; have HO6 := Lib.hid ho6)
     | (go_at_call 59; (with_reducible refine (HGI.out _ hv6 _ _ HO6.out).mono ?_); rintro e w7 ⟨rfl, nv', hm7, hu7, hn7⟩))
   have hs6 := hv6.size
   have hs1 := H1.out.2.2.size
   have hb7 : w7.heap[v]? = some (boxF j c q mf ml va (dead || gone)) := (hu7.block v (by omega) (by simp; exact fun e => hqv e.symm)).trans (heap_keepU hv6 H1.out.1)
   have hl7 := (H1.out.2.1.upd hv6 (by simp)).upd hu7 (by simp; exact fun e => hqj e.symm)
   have hf7 : FilR w7 mf fs A R FM := (HFI.out.upd hv6 (by simp)).upd hu7 (fun i hi e => hqM (by rw [List.mem_singleton.1 e] at hi; exact hi))
   have k3 := cell_blk hb7 3
   simp only [List.getElem?_toArray, List.getElem?_cons_zero, List.getElem?_cons_succ] at k3
   have H7 := Lib.hid (And.intro hb7 (And.intro hl7 (And.intro hf7 (And.intro hm7 (And.intro hu7 hn7)))))
   clear hb7 hl7 hf7 hm7 hu7 hn7
   go_wp2_with (at_delete; go_loud (refine wpList_delete_own _ rfl _ _ _ _ rfl _ lawS Tryz.underlying77 opq mf _ _ rfl H7.out.2.2.1.map (.string s) _ rfl (WideMaps.keyOf_string_mk Tryz.underlying9 hs) ?_; intro w8 hown8 hturn8))
   go_wp2_with fail
   go_ret
   have hu8 := upd_turned hturn8
   obtain ⟨hb7, hl7, hf7, hm7, hu7, hn7⟩ := H7.out
   have hvm : v ≠ mf := fun e => hvM (by rw [e]; exact HFI.out.mem)
   have hjm : j ≠ mf := fun e => hjM (by rw [e]; exact HFI.out.mem)
   have hqm : q ≠ mf := fun e => hqM (by rw [e]; exact HFI.out.mem)
   rw [del_dataA keyS] at hown8
   have hf8 := hf7.del (MapS.of hown8) hu8
   obtain ⟨es, ck, hmb, -⟩ := hf7.map
   refine ⟨by rw [HC.out]; rfl, (hu8.block v (lt_of_blk hb7) (by simp; exact hvm)).trans hb7, hl7.upd hu8 (by simp; exact hjm), fun h => absurd HC.out h, fun _ => ⟨f, nv', HGA.out, ?_, hf8, ?_, fun g hg => by have := hn7 g hg; omega⟩⟩
   ·refine (((H1.out.2.2.mono (fun k hk _ => ?_)).trans (hv6.mono (by simp))).trans (hu7.mono (by simp))).trans (hu8.mono (by simp))
    simp only [List.mem_cons, List.not_mem_nil, or_false] at hk ⊢
    rcases hk with rfl | rfl <;> simp
   ·exact hm7.upd hu8 (by simp; exact hqm) (fun i hi e => by rw [List.mem_singleton.1 hi] at e; exact own_map hm7.now hmb e) (fun i hi e => by rw [List.mem_singleton.1 hi] at e; exact own_map hm7.last hmb e)
end Go.Proofs.YteepgehjkcahiaaGreat

namespace Go.Proofs.YteepgehjkcahiaaGreat
open Go.RowKit Go.Maps
theorem FilR.move {w w' : World} {mf : Nat} {fs : Files} {A : Bs → Nat} {R : Bs → Value} {FM : List Nat} (h : FilR w mf fs A R FM) (hs : Srt ltN fs) {a b : Bs} {f : Fil} (hg : getA fs a = some f)
  (hm : MapS w' mf (putA ltN (entsL (delA fs a) A) b (ptA (A a)))) (u : Upd [mf] w w') : FilR w' mf (putA ltN (delA fs a) b f) (updF A b (A a)) (updF R b (R a)) FM := by
 have hs2 : Srt ltN (delA fs a) := srt_delA hs a
 have hfm : (a, f) ∈ fs := getA_mem hg
 have hmem : ∀ p ∈ putA ltN (delA fs a) b f, p = (b, f) ∨ (p ∈ fs ∧ p.1 ≠ b ∧ p.1 ≠ a) := fun p hp => (put_mem hs2 hp).imp id fun ⟨h1, h2⟩ => by
  obtain ⟨h3, h4⟩ := List.mem_filter.1 h1
  exact ⟨h3, h2, by simpa using h4⟩
 have e1 : updF A b (A a) b = A a := by simp [updF]
 have e2 : updF R b (R a) b = R a := by simp [updF]
 have o1 : ∀ {k}, k ≠ b → updF A b (A a) k = A k := fun hk => by simp [updF, hk]
 have o2 : ∀ {k}, k ≠ b → updF R b (R a) k = R k := fun hk => by simp [updF, hk]
 have hkeep : ∀ p ∈ fs, NodeR w' 0 (A p.1) p.2.data.length (R p.1) p.2.runs := fun p hp => by
  have hnd := h.node p hp
  obtain ⟨es, clock, hb, -⟩ := h.map
  refine hnd.upd u (fun q => ?_) (fun g hg q => ?_)
  ·rw [List.mem_singleton.1 q] at hnd
   have := hnd.1
   rw [hb] at this
   cases this
  ·rw [List.mem_singleton.1 q] at hg
   exact own_map hnd.2 hb hg
 refine ⟨by rw [entsL_put hs2]; exact hm, fun p hp => ?_, h.mem, fun p hp => ?_, fun p hp g hg => ?_, fun p hp q hq hne => ?_, fun p hp q hq hne g hg => ?_, fun i hi => Nat.lt_of_lt_of_le (h.lt i hi) u.size⟩
 ·rcases hmem p hp with rfl | ⟨hp, hk, -⟩
  ·rw [e1, e2]; exact hkeep _ hfm
  ·rw [o1 hk, o2 hk]; exact hkeep p hp
 ·rcases hmem p hp with rfl | ⟨hp, hk, -⟩
  ·rw [e1]; exact h.memA _ hfm
  ·rw [o1 hk]; exact h.memA p hp
 ·rcases hmem p hp with rfl | ⟨hp, hk, -⟩
  ·rw [e2] at hg; exact h.memR _ hfm g hg
  ·rw [o2 hk] at hg; exact h.memR p hp g hg
 ·rcases hmem p hp with rfl | ⟨hp, hk, hka⟩
  ·rcases hmem q hq with rfl | ⟨hq, hk2, hka2⟩
   ·exact absurd rfl hne
   ·rw [e1, o1 hk2]; exact h.apA _ hfm q hq fun e => hka2 e.symm
  ·rcases hmem q hq with rfl | ⟨hq, hk2, hka2⟩
   ·rw [e1, o1 hk]; exact h.apA p hp _ hfm hka
   ·rw [o1 hk, o1 hk2]; exact h.apA p hp q hq hne
 ·rcases hmem p hp with rfl | ⟨hp, hk, hka⟩
  ·rcases hmem q hq with rfl | ⟨hq, hk2, hka2⟩
   ·exact absurd rfl hne
   ·rw [e2] at hg; rw [o2 hk2]; exact h.apR _ hfm q hq (fun e => hka2 e.symm) g hg
  ·rw [o2 hk] at hg
   rcases hmem q hq with rfl | ⟨hq, hk2, hka2⟩
   ·rw [e2]; exact h.apR p hp _ hfm hka g hg
   ·rw [o2 hk2]; exact h.apR p hp q hq hne g hg
end Go.Proofs.YteepgehjkcahiaaGreat

namespace Go.Proofs.YteepgehjkcahiaaGreat
open Go.RowKit Go.Maps
theorem len_del_le {α : Type} (l : List (Bs × α)) (k : Bs) : (delA l k).length ≤ l.length := List.length_filter_le _ _
theorem entsL_len (fs : Files) (A : Bs → Nat) : (entsL fs A).length = fs.length := by simp [entsL]
def codeN (gone : Bool) (fs : Files) (a b : Bs) : Nat := if gone = true then 2 else if (getA fs a).isSome = true then (if b.length = 0 ∨ 40 < b.length then 82 else 0) else 80
def FRenamePost (w : World) (v j p n k c q mf ml : Nat) (va : Value) (dead ld gone : Bool) (base : Nat) (nv lv : Value) (now last : List Bool) (fs : Files) (A : Bs → Nat) (R : Bs → Value) (FM : List Nat) (a b : Bs) (r : Ending) (w' : World) : Prop :=
 r = .returned (.int .i64 (codeN (dead || gone) fs a b)) ∧ w'.heap[v]? = some (boxF j c q mf ml va (dead || gone)) ∧ LogR w' j p n k (if dead = true then ld else gone) ∧
  (codeN (dead || gone) fs a b ≠ 0 ∨ a = b → Upd [v, j] w w') ∧ (codeN (dead || gone) fs a b = 0 → a ≠ b → ∃ f nv' now', getA fs a = some f ∧ Upd [v, j, q, mf] w w' ∧ FilR w' mf (putA ltN (delA (delA fs b) a) b f) (updF A b (A a)) (updF R b (R a)) FM ∧ MapR w' base q nv' lv now' last ∧ (nv' = nv ∨ ∀ g, nv'.ownBlock = some g → w.heap.size ≤ g) ∧
   now' = match getA fs b with | some g => clearL now g.runs | none => now)
set_option maxRecDepth 100000 in
set_option maxHeartbeats 4000000 in
theorem frename_ok (w : World) {v j p n k c q mf ml : Nat} {va : Value} {dead ld : Bool} (h : w.heap[v]? = some (boxF j c q mf ml va dead)) (hl : LogR w j p n k ld) {D : Dev} {F : List Nat} (hd : DevAt w p D F) (hn : n ≤ 512) (hvj : v ≠ j) (hvF : v ∉ F) (hjF : j ∉ F)
  {fs : Files} {A : Bs → Nat} {R : Bs → Value} {FM : List Nat} (hf : FilR w mf fs A R FM) (hsrt : Srt ltN fs) (hl64 : fs.length ≤ 64) (hvM : v ∉ FM) (hjM : j ∉ FM) {base : Nat} {nv lv : Value} {now last : List Bool} (hm : MapR w base q nv lv now last) (hm0 : 0 < now.length) (hm5 : now.length ≤ 512) (hqM : q ∉ FM) (hqv : q ≠ v) (hqj : q ≠ j)
  (s t : ByteArray) (hs : s.size ≤ maxLen) (ht : t.size ≤ maxLen) (hin : ∀ f, getA fs t.data.toList = some f → InUse now f) :
  Calls Tryz.prog 21 #[.pointer (some ⟨v, 0, none⟩), .string s, .string t] w (FRenamePost w v j p n k c q mf ml va dead ld (ld || D.down) base nv lv now last fs A R FM s.data.toList t.data.toList) := by
 have HU := Lib.hid (ffind_ok w h hl hd hn hvj hf hvM hjM s hs)
 have HF := Lib.hid hf
 have HM := Lib.hid (And.intro hm (And.intro h (And.intro hl hd)))
 have hdM : ∀ {g : Nat} {u : Value} {l : List Bool}, OwB w base u l → u.ownBlock = some g → g ≠ v ∧ g ≠ j := fun ho hg => ⟨fun e => own_ne' ho h (by decide) (by rw [hg, e]), fun e => own_ne' ho hl (by decide) (by rw [hg, e])⟩
 have HDM := Lib.hid (And.intro (fun g (hg : nv.ownBlock = some g) => hdM hm.now hg) (fun g (hg : lv.ownBlock = some g) => hdM hm.last hg))
 obtain ⟨gone, hgone⟩ : ∃ gone, gone = (ld || D.down) := ⟨_, rfl⟩
 rw [← hgone] at HU ⊢
 have HGO := Lib.hid hgone
 clear h hl hd hf hm hdM hgone
 go_enter Tryz.func21, Tryz.ntmps21
 go_wp2_with fail
 refine HU.out.mono ?_
 rintro r w1 ⟨rfl, hb1, hl1, hu1⟩
 have hfil : FilR w1 mf fs A R FM := HF.out.upd hu1 (fun i hi q => by
  simp only [List.mem_cons, List.not_mem_nil, or_false] at q
  rcases q with rfl | rfl
  ·exact hvM hi
  ·exact hjM hi)
 have hmap : MapR w1 base q nv lv now last := HM.out.1.upd hu1 (by simp; exact ⟨hqv, hqj⟩) (fun i hi e => by
  have := HDM.out.1 i e
  simp only [List.mem_cons, List.not_mem_nil, or_false] at hi; rcases hi with rfl | rfl; exact this.1 rfl; exact this.2 rfl) (fun i hi e => by
  have := HDM.out.2 i e
  simp only [List.mem_cons, List.not_mem_nil, or_false] at hi; rcases hi with rfl | rfl; exact this.1 rfl; exact this.2 rfl)
 have hdev : DevAt w1 p D F := HM.out.2.2.2.upd hu1 (fun i hi q => by
  simp only [List.mem_cons, List.not_mem_nil, or_false] at q
  rcases q with rfl | rfl
  ·exact hvF hi
  ·exact hjF hi)
 have H1 := Lib.hid (And.intro hb1 (And.intro hl1 hu1))
 have HFI := Lib.hid hfil
 have HMI := Lib.hid hmap
 have HDI := Lib.hid hdev
 have HN := Lib.hid (named_ok w1 t)
 have hlook := MapS.look hfil.map Tryz.underlying77 (z := .pointer none) (by kernel_rfl) t ht
 have d3 := cell_blk hb1 3
 simp only [List.getElem?_toArray, List.getElem?_cons_zero, List.getElem?_cons_succ] at d3
 clear hb1 hl1 hu1 hfil hmap hdev
 have htl : t.data.toList.length = t.size := Array.length_toList
 by_cases hdg : (dead || gone) = true
 ·have hc : codeN (dead || gone) fs s.data.toList t.data.toList = 2 := by unfold codeN; rw [if_pos hdg]
  rw [if_pos hdg]
  have HC := Lib.hid hc
  clear hc hlook htl
  go_wp2_with fail
  go_ret
  exact ⟨by rw [HC.out]; rfl, H1.out.1, H1.out.2.1, fun _ => H1.out.2.2, fun h => by rw [HC.out] at h; cases h⟩
 ·rw [if_neg hdg]
  cases hg : getA fs s.data.toList with
  | none =>
   have hc : codeN (dead || gone) fs s.data.toList t.data.toList = 80 := by unfold codeN; rw [if_neg hdg, hg]; rfl
   have HC := Lib.hid hc
   clear hc hlook htl
   go_wp2_with fail
   go_ret
   exact ⟨by rw [HC.out]; rfl, H1.out.1, H1.out.2.1, fun _ => H1.out.2.2, fun h => by rw [HC.out] at h; cases h⟩
  | some f =>
   by_cases hnm : t.size = 0 ∨ 40 < t.size
   ·have hc : codeN (dead || gone) fs s.data.toList t.data.toList = 82 := by unfold codeN; rw [if_neg hdg, hg, if_pos (show (some f).isSome = true from rfl), if_pos (by rw [htl]; exact hnm)]
    have hdn : decide (t.size ≠ 0 ∧ t.size ≤ 40) = false := decide_eq_false (by omega)
    have HC := Lib.hid hc
    rw [hdn] at HN
    clear hc hlook htl hdn hnm hg
    go_wp2_with fail
    refine HN.out.mono ?_
    rintro r w2 ⟨rfl, rfl⟩
    go_wp2_with fail
    go_ret
    exact ⟨by rw [HC.out]; rfl, H1.out.1, H1.out.2.1, fun _ => H1.out.2.2, fun h => by rw [HC.out] at h; cases h⟩
   ·have hc : codeN (dead || gone) fs s.data.toList t.data.toList = 0 := by unfold codeN; rw [if_neg hdg, hg, if_pos (show (some f).isSome = true from rfl), if_neg (by rw [htl]; exact hnm)]
    have hdn : decide (t.size ≠ 0 ∧ t.size ≤ 40) = true := decide_eq_true (by omega)
    have HC := Lib.hid hc
    have HGA := Lib.hid hg
    rw [hdn] at HN
    clear hc htl hdn hnm hg
    have hdead : dead = false := by cases dead <;> simp_all
    have hgo : gone = false := by cases gone <;> simp_all
    have heqs : (s.toList == t.toList) = decide (s = t) := by rw [← beq_toListBytes, bytes_beq]
    by_cases hst : s = t
    ·subst hst
     clear hlook
     go_wp2_with fail
     refine HN.out.mono ?_
     rintro r w2 ⟨rfl, rfl⟩
     go_wp2_with fail
     go_ret
     exact ⟨by rw [HC.out]; rfl, H1.out.1, H1.out.2.1, fun _ => H1.out.2.2, fun _ h => absurd rfl h⟩
    ·rw [decide_eq_false hst] at heqs
     have hab : s.data.toList ≠ t.data.toList := fun e => hst (by
      cases s with | mk s => cases t with | mk t =>
      simp only at e
      have : s = t := Array.toList_inj.1 e
      rw [this])
     have HAB := Lib.hid hab
     subst hdead
     subst hgo
     clear hst hab hdg
     rw [getA_ents] at hlook
     cases hg2 : getA fs t.data.toList with
     | none =>
      rw [hg2] at hlook
      simp only [Option.map_none, Option.getD_none] at hlook
      have HG2 := Lib.hid hg2
      clear hg2
      go_wp2_with fail
      refine HN.out.mono ?_
      rintro r w2 ⟨rfl, rfl⟩
      go_wp2_with (at_delete; refine wpList_delete_own _ rfl _ _ _ _ rfl _ lawS Tryz.underlying77 opq mf _ _ rfl HFI.out.map (.string s) _ rfl (WideMaps.keyOf_string_mk Tryz.underlying9 hs) ?_; intro w3 hown3 hturn3; have hu3 := upd_turned hturn3; have HOW3 := Lib.hid hown3; have d33 := cell_blk ((hu3.block v (lt_of_blk H1.out.1) (by simp; exact fun e => hvM (by rw [e]; exact HFI.out.mem))).trans H1.out.1) 3; simp only [List.getElem?_toArray, List.getElem?_cons_zero, List.getElem?_cons_succ] at d33; rw [del_dataA keyS] at hown3; obtain ⟨w4, hput, hms, hgr⟩ := MapS.put (MapS.of hown3) (srt_delA (entsL_srt hsrt A) _) (Nat.lt_of_le_of_lt (len_del_le _ _) (by rw [entsL_len]; omega)) Tryz.underlying77 t ht (ptA (A s.data.toList)); clear hown3 hturn3)
      go_wp2_with fail
      go_ret
      have hu4 : Upd [mf] w3 w4 := by have := Upd.of_grown hgr; simpa using this
      have hu24 := hu3.trans hu4
      have hvm : v ≠ mf := fun e => hvM (by rw [e]; exact HFI.out.mem)
      have hjm : j ≠ mf := fun e => hjM (by rw [e]; exact HFI.out.mem)
      have hqm : q ≠ mf := fun e => hqM (by rw [e]; exact HFI.out.mem)
      obtain ⟨es, ck, hmb, -⟩ := HFI.out.map
      have hdb : delA fs t.data.toList = fs := List.filter_eq_self.2 fun p hp => by simpa using (getA_none.1 HG2.out) p hp
      rw [← entsL_del] at hms
      have hfm := HFI.out.move hsrt HGA.out hms hu24
      refine ⟨by rw [HC.out]; rfl, (hu24.block v (lt_of_blk H1.out.1) (by simp; exact hvm)).trans H1.out.1, H1.out.2.1.upd hu24 (by simp; exact hjm), fun h => ?_, fun _ _ => ⟨f, nv, now, HGA.out, ?_, by rw [hdb]; exact hfm, ?_, .inl rfl, by rw [HG2.out]⟩⟩
      ·rcases h with h | h
       ·exact absurd HC.out h
       ·exact absurd h HAB.out
      ·refine (H1.out.2.2.mono (fun k hk _ => ?_)).trans (hu24.mono (by simp))
       simp only [List.mem_cons, List.not_mem_nil, or_false] at hk ⊢
       rcases hk with rfl | rfl <;> simp
      ·exact HMI.out.upd hu24 (by simp; exact hqm) (fun i hi e => by rw [List.mem_singleton.1 hi] at e; exact own_map HMI.out.now hmb e) (fun i hi e => by rw [List.mem_singleton.1 hi] at e; exact own_map HMI.out.last hmb e)
     | some g =>
      rw [hg2] at hlook
      simp only [Option.map_some, Option.getD_some] at hlook
      have hdown : D.down = false := by have := HGO.out; cases hdd : D.down <;> simp [hdd] at this ⊢
      have hrm := fremove_ok w1 H1.out.1 H1.out.2.1 HDI.out hn hvj HFI.out hvM hjM HMI.out hm0 hm5 hqM hqv hqj t ht hin
      rw [hdown] at hrm
      have hcf : codeF false fs t.data.toList = 0 := by unfold codeF; rw [hg2]; rfl
      have HRM := Lib.hid hrm
      have HG2 := Lib.hid hg2
      have HCF := Lib.hid hcf
      clear hg2 hrm hdown hcf
      go_wp2_with fail
      refine HN.out.mono ?_
      rintro r w2 ⟨rfl, rfl⟩
      go_wp2_with fail
      refine HRM.out.mono ?_
      rintro r w3 ⟨hr3, hb3, hl3, -, hok3⟩
      obtain ⟨g', nv3, hg3, hu3, hf3, hm3, hn3⟩ := hok3 (by simpa using HCF.out)
      subst hr3
      have hgg : g' = g := by have := HG2.out; rw [hg3] at this; exact Option.some.inj this
      subst hgg
      have hb3' : w3.heap[v]? = some (boxF j c q mf ml va false) := by simpa using hb3
      have hl3' : LogR w3 j p n k false := by simpa using hl3
      have k3 := cell_blk hb3' 3
      simp only [List.getElem?_toArray, List.getElem?_cons_zero, List.getElem?_cons_succ] at k3
      have H3 := Lib.hid (And.intro hb3' (And.intro hl3' (And.intro hu3 (And.intro hf3 (And.intro hm3 hn3)))))
      have hdl : ∀ (s' : Bs) , (delA (entsL (delA fs t.data.toList) A) s').length < 1000000 := fun s' => Nat.lt_of_le_of_lt (len_del_le _ _) (by rw [entsL_len]; exact Nat.lt_of_le_of_lt (len_del_le _ _) (by omega))
      clear hb3 hl3 hok3 hb3' hl3' hu3 hf3 hm3 hn3 hg3
      go_wp2_with (at_delete; refine wpList_delete_own _ rfl _ _ _ _ rfl _ lawS Tryz.underlying77 opq mf _ _ rfl H3.out.2.2.2.1.map (.string s) _ rfl (WideMaps.keyOf_string_mk Tryz.underlying9 hs) ?_; intro w5 hown3 hturn3; have hu5 := upd_turned hturn3; have d33 := cell_blk ((hu5.block v (lt_of_blk H3.out.1) (by simp; exact fun e => hvM (by rw [e]; exact HFI.out.mem))).trans H3.out.1) 3; simp only [List.getElem?_toArray, List.getElem?_cons_zero, List.getElem?_cons_succ] at d33; rw [del_dataA keyS] at hown3; obtain ⟨w4, hput, hms, hgr⟩ := MapS.put (MapS.of hown3) (srt_delA (entsL_srt (srt_delA hsrt _) A) _) (hdl _) Tryz.underlying77 t ht (ptA (A s.data.toList)); clear hown3 hturn3)
      go_wp2_with fail
      go_ret
      have hu4 : Upd [mf] w5 w4 := by have := Upd.of_grown hgr; simpa using this
      have hu24 := hu5.trans hu4
      obtain ⟨hb3, hl3, hu3, hf3, hm3, hn3⟩ := H3.out
      have hvm : v ≠ mf := fun e => hvM (by rw [e]; exact HFI.out.mem)
      have hjm : j ≠ mf := fun e => hjM (by rw [e]; exact HFI.out.mem)
      have hqm : q ≠ mf := fun e => hqM (by rw [e]; exact HFI.out.mem)
      obtain ⟨es, ck, hmb, -⟩ := hf3.map
      have hga : getA (delA fs t.data.toList) s.data.toList = some f := by rw [getA_delA, if_neg (fun e => HAB.out e.symm)]; exact HGA.out
      rw [← entsL_del] at hms
      have hfm := hf3.move (srt_delA hsrt _) hga hms hu24
      have hs1 := H1.out.2.2.size
      refine ⟨by rw [HC.out]; rfl, (hu24.block v (lt_of_blk hb3) (by simp; exact hvm)).trans hb3, hl3.upd hu24 (by simp; exact hjm), fun h => ?_, fun _ _ => ⟨f, nv3, _, HGA.out, ?_, hfm, hm3.upd hu24 (by simp; exact hqm) (fun i hi e => by rw [List.mem_singleton.1 hi] at e; exact own_map hm3.now hmb e) (fun i hi e => by rw [List.mem_singleton.1 hi] at e; exact own_map hm3.last hmb e), .inr (fun x hx => by have := hn3 x hx; omega), by rw [HG2.out]⟩⟩
      ·rcases h with h | h
       ·exact absurd HC.out h
       ·exact absurd h HAB.out
      ·refine ((H1.out.2.2.mono (fun k hk _ => ?_)).trans hu3).trans (hu24.mono (by simp))
       simp only [List.mem_cons, List.not_mem_nil, or_false] at hk ⊢
       rcases hk with rfl | rfl <;> simp
end Go.Proofs.YteepgehjkcahiaaGreat
