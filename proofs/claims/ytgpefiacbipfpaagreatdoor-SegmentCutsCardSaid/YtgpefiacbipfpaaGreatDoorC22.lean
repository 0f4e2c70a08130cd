/- named, find, Size. Size. A file comes: the map, the node. Create. -/
import Derived.Test.YtgpefiacbipfpaaGreatDoorC21
namespace Go.Proofs.YtgpefiacbipfpaaGreatDoor
open Go.RowKit Go.Maps
theorem toList_nil (s : ByteArray) : s.toList = [] ↔ s.size = 0 := by
 have h1 : (s.toList == (⟨#[]⟩ : ByteArray).toList) = (s == (⟨#[]⟩ : ByteArray)) := (beq_toListBytes s _).symm
 rw [bytes_beq] at h1
 have h2 : (⟨#[]⟩ : ByteArray).toList = [] := by unfold ByteArray.toList ByteArray.toList.loop; rfl
 rw [h2] at h1
 constructor
 ·intro h
  rw [h] at h1
  have h3 : s = ⟨#[]⟩ := by simpa using h1.symm
  rw [h3]; rfl
 ·intro h
  have h3 : s = ⟨#[]⟩ := by
   cases s with | mk d =>
   have : d.size = 0 := h
   rw [Array.size_eq_zero_iff.1 this]
  rw [h3]; exact h2
set_option maxRecDepth 100000 in
theorem named_ok (w : World) (s : ByteArray) : Calls Tryz.prog 38 #[.string s] w fun r w' => r = .returned (.bool (decide (s.size ≠ 0 ∧ s.size ≤ 40))) ∧ w' = w := by
 go_enter Tryz.func38, Tryz.ntmps38
 go_wp2_with fail
 all_goals rename_i h
 all_goals go_ret
 all_goals refine ⟨?_, rfl⟩
 ·have hz := (toList_nil s).1 h
  simp [hz]
 ·have hz : s.size ≠ 0 := fun e => h ((toList_nil s).2 e)
  have he : s.toList.isEmpty = false := by simpa using h
  simp [hz, he]
  omega
def FFindPost (w : World) (v j p n k c q mf ml : Nat) (va : Value) (dead ld gone : Bool) (fs : Files) (A : Bs → Nat) (nm : Bs) (r : Ending) (w' : World) : Prop :=
 r = .returned (if (dead || gone) = true then .tuple #[.pointer none, .int .i64 2] else match getA fs nm with | some _ => .tuple #[ptA (A nm), .int .i64 0] | none => .tuple #[.pointer none, .int .i64 80]) ∧
  w'.heap[v]? = some (boxF j c q mf ml va (dead || gone)) ∧ LogR w' j p n k (if dead = true then ld else gone) ∧ Upd [v, j] w w'
set_option maxRecDepth 100000 in
set_option maxHeartbeats 2000000 in
theorem ffind_ok (w : World) {v j p n k c q mf ml : Nat} {va : Value} {dead ld : Bool} (h : w.heap[v]? = some (boxF j c q mf ml va dead)) (hl : LogR w j p n k ld) {D : Dev} {F : List Nat} (hd : DevAt w p D F) (hn : n ≤ 512) (hvj : v ≠ j)
  {fs : Files} {A : Bs → Nat} {R : Bs → Value} {FM : List Nat} (hf : FilR w mf fs A R FM) (hvM : v ∉ FM) (hjM : j ∉ FM) (s : ByteArray) (hs : s.size ≤ maxLen) :
  Calls Tryz.prog 40 #[.pointer (some ⟨v, 0, none⟩), .string s] w (FFindPost w v j p n k c q mf ml va dead ld (ld || D.down) fs A s.data.toList) := by
 have HU := Lib.hid (fuse_ok' w h hl hd hn hvj)
 have HF := Lib.hid hf
 generalize (ld || D.down) = gone at *
 clear h hl hd hf
 go_enter Tryz.func40, Tryz.ntmps40
 go_wp2_with fail
 refine HU.out.mono ?_
 rintro r w1 ⟨rfl, hb1, hl1, hu1⟩
 have hmap : MapS w1 mf (entsL fs A) := (HF.out.upd hu1 (fun i hi q => by
  simp only [List.mem_cons, List.not_mem_nil, or_false] at q
  rcases q with rfl | rfl
  ·exact hvM hi
  ·exact hjM hi)).map
 have hlook := MapS.look hmap Tryz.underlying82 (z := .pointer none) (by kernel_rfl) s hs
 have d3 := cell_blk hb1 3
 simp only [List.getElem?_toArray, List.getElem?_cons_zero, List.getElem?_cons_succ] at d3
 have H1 := Lib.hid (And.intro hb1 (And.intro hl1 hu1))
 clear hb1 hl1 hu1 hmap
 by_cases hdg : (dead || gone) = true
 ·rw [if_pos hdg]
  have HDG := Lib.hid hdg
  clear hdg hlook
  go_wp2_with fail
  go_ret2
  exact ⟨by rw [if_pos HDG.out]; rfl, H1.out⟩
 ·rw [if_neg hdg]
  have HDG := Lib.hid hdg
  clear hdg
  rw [getA_ents] at hlook
  unfold FFindPost
  cases hg : getA fs s.data.toList with
  | none =>
   rw [hg] at hlook
   simp only [Option.map_none, Option.getD_none] at hlook
   go_wp2_with fail
   go_ret2
   exact ⟨by rw [if_neg HDG.out, hg]; rfl, H1.out⟩
  | some f =>
   rw [hg] at hlook
   simp only [Option.map_some, Option.getD_some] at hlook
   go_wp2_with fail
   go_ret2
   exact ⟨by rw [if_neg HDG.out, hg]; rfl, H1.out⟩
end Go.Proofs.YtgpefiacbipfpaaGreatDoor

namespace Go.Proofs.YtgpefiacbipfpaaGreatDoor
open Go.RowKit Go.Maps
def FSizePost (w : World) (v j p n k c q mf ml : Nat) (va : Value) (dead ld gone : Bool) (fs : Files) (nm : Bs) (r : Ending) (w' : World) : Prop :=
 r = .returned (if (dead || gone) = true then .tuple #[.int .i64 0, .int .i64 2] else match getA fs nm with | some f => .tuple #[.int .i64 f.data.length, .int .i64 0] | none => .tuple #[.int .i64 0, .int .i64 80]) ∧
  w'.heap[v]? = some (boxF j c q mf ml va (dead || gone)) ∧ LogR w' j p n k (if dead = true then ld else gone) ∧ Upd [v, j] w w'
set_option maxRecDepth 100000 in
set_option maxHeartbeats 2000000 in
theorem fsize_ok (w : World) {v j p n k c q mf ml : Nat} {va : Value} {dead ld : Bool} (h : w.heap[v]? = some (boxF j c q mf ml va dead)) (hl : LogR w j p n k ld) {D : Dev} {F : List Nat} (hd : DevAt w p D F) (hn : n ≤ 512) (hvj : v ≠ j)
  {fs : Files} {A : Bs → Nat} {R : Bs → Value} {FM : List Nat} (hf : FilR w mf fs A R FM) (hvM : v ∉ FM) (hjM : j ∉ FM) (s : ByteArray) (hs : s.size ≤ maxLen) :
  Calls Tryz.prog 54 #[.pointer (some ⟨v, 0, none⟩), .string s] w (FSizePost w v j p n k c q mf ml va dead ld (ld || D.down) fs s.data.toList) := by
 have HU := Lib.hid (ffind_ok w h hl hd hn hvj hf hvM hjM s hs)
 have HF := Lib.hid hf
 generalize (ld || D.down) = gone at *
 clear h hl hd hf
 go_enter Tryz.func54, Tryz.ntmps54
 go_wp2_with fail
 refine HU.out.mono ?_
 rintro r w1 ⟨rfl, hb1, hl1, hu1⟩
 have hfil : FilR w1 mf fs A R FM := HF.out.upd hu1 (fun i hi q => by
  simp only [List.mem_cons, List.not_mem_nil, or_false] at q
  rcases q with rfl | rfl
  ·exact hvM hi
  ·exact hjM hi)
 have H1 := Lib.hid (And.intro hb1 (And.intro hl1 hu1))
 clear hb1 hl1 hu1
 by_cases hdg : (dead || gone) = true
 ·rw [if_pos hdg]
  have HDG := Lib.hid hdg
  clear hdg hfil
  have HZ := isize_nil w1
  go_wp2_with fail
  refine HZ.mono ?_
  rintro r w2 ⟨rfl, rfl⟩
  go_wp2_with fail
  go_ret2
  exact ⟨by rw [if_pos HDG.out]; rfl, H1.out⟩
 ·rw [if_neg hdg]
  have HDG := Lib.hid hdg
  clear hdg
  unfold FSizePost
  cases hg : getA fs s.data.toList with
  | none =>
   have HZ := isize_nil w1
   clear hfil
   go_wp2_with fail
   refine HZ.mono ?_
   rintro r w2 ⟨rfl, rfl⟩
   go_wp2_with fail
   go_ret2
   exact ⟨by rw [if_neg HDG.out, hg]; rfl, H1.out⟩
  | some f =>
   have HZ := isize_ok w1 (hfil.node _ (getA_mem hg))
   clear hfil
   go_wp2_with fail
   refine HZ.mono ?_
   rintro r w2 ⟨rfl, rfl⟩
   go_wp2_with fail
   go_ret2
   exact ⟨by rw [if_neg HDG.out, hg]; rfl, H1.out⟩
end Go.Proofs.YtgpefiacbipfpaaGreatDoor

namespace Go.Proofs.YtgpefiacbipfpaaGreatDoor
open Go.RowKit Go.Maps
theorem MapS.put {w : World} {mb : Nat} {L : List (Bs × Value)} (h : MapS w mb L) (hs : Srt ltN L) (hn : L.length < 1000000) {t e : TypeId} (ht : Tryz.prog.underlying t = some (.map 9 e)) (s : ByteArray) (hss : s.size ≤ maxLen) (v : Value) :
  ∃ w', (Instr.mapUpdate t (.map (some mb)) (.string s) v).run Tryz.prog w = .ok () w' ∧ MapS w' mb (putA ltN L s.data.toList v) ∧ w.grownBy w' (some mb) := by
 obtain ⟨w', h1, h2, h3⟩ := World.ownsMap.update h lawS ht (by unfold maxLen; omega) (WideMaps.keyOf_string_mk Tryz.underlying9 hss) (show opq v = some (.held v, []) from rfl)
 rw [put_dataA keyS hs] at h2
 exact ⟨w', h1, MapS.of h2, h3⟩
def updF {β : Type} (A : Bs → β) (nm : Bs) (a : β) : Bs → β := fun k => if k = nm then a else A k
theorem entsL_put {fs : Files} (hs : Srt ltN fs) (A : Bs → Nat) (nm : Bs) (f : Fil) (a : Nat) : entsL (putA ltN fs nm f) (updF A nm a) = putA ltN (entsL fs A) nm (ptA a) := by
 refine srt_ext ordN (entsL_srt (srt_putA ordN hs nm f) _) (srt_putA ordN (entsL_srt hs A) nm _) fun k => ?_
 rw [getA_ents, getA_putA ordN hs, getA_putA ordN (entsL_srt hs A), getA_ents]
 unfold updF
 by_cases h : nm = k
 ·subst h; simp
 ·have h' : ¬ k = nm := fun e => h e.symm
  rw [if_neg h, if_neg h, if_neg h']
theorem entsL_del (fs : Files) (A : Bs → Nat) (nm : Bs) : entsL (delA fs nm) A = delA (entsL fs A) nm := by
 unfold entsL delA
 rw [List.filter_map]
 rfl
theorem FilR.put {w w' : World} {mf : Nat} {fs : Files} {A : Bs → Nat} {R : Bs → Value} {FM : List Nat} (h : FilR w mf fs A R FM) (hs : Srt ltN fs) {nm : Bs} {f : Fil} {a : Nat} {rv : Value} (hm : MapS w' mf (putA ltN (entsL fs A) nm (ptA a))) (u : Upd [mf] w w')
  (hn : NodeR w' 0 a f.data.length rv f.runs) (ha : w.heap.size ≤ a) (hr : ∀ g, rv.ownBlock = some g → w.heap.size ≤ g) : FilR w' mf (putA ltN fs nm f) (updF A nm a) (updF R nm rv) (a :: (rv.ownBlock.toList ++ FM)) := by
 have hmem : ∀ p ∈ putA ltN fs nm f, (p = (nm, f)) ∨ (p ∈ fs ∧ p.1 ≠ nm) := fun p hp => put_mem hs hp
 have e1 : updF A nm a nm = a := by simp [updF]
 have e2 : updF R nm rv nm = rv := by simp [updF]
 have o1 : ∀ {k}, k ≠ nm → updF A nm a k = A k := fun hk => by simp [updF, hk]
 have o2 : ∀ {k}, k ≠ nm → updF R nm rv k = R k := fun hk => by simp [updF, hk]
 have hmfl := h.map.lt
 refine ⟨by rw [entsL_put hs]; exact hm, fun p hp => ?_, by simp [h.mem], fun p hp => ?_, fun p hp g hg => ?_, fun p hp q hq hne => ?_, fun p hp q hq hne g hg => ?_, fun i hi => ?_⟩
 ·rcases hmem p hp with rfl | ⟨hp, hk⟩
  ·rw [e1, e2]; exact hn
  ·rw [o1 hk, o2 hk]
   have hnd := h.node p hp
   obtain ⟨es, clock, hb, -⟩ := h.map
   refine hnd.upd u (fun q => ?_) (fun g hg q => ?_)
   ·rw [List.mem_singleton.1 q] at hnd
    have := hnd.1
    rw [hb] at this
    cases this
   ·rw [List.mem_singleton.1 q] at hg
    exact own_map hnd.2 hb hg
 ·rcases hmem p hp with rfl | ⟨hp, hk⟩
  ·rw [e1]; simp
  ·rw [o1 hk]; simp [h.memA p hp]
 ·rcases hmem p hp with rfl | ⟨hp, hk⟩
  ·rw [e2] at hg; simp [hg]
  ·rw [o2 hk] at hg; simp [h.memR p hp g hg]
 ·rcases hmem p hp with rfl | ⟨hp, hk⟩
  ·rcases hmem q hq with rfl | ⟨hq, hk2⟩
   ·exact absurd rfl hne
   ·rw [e1, o1 hk2]; intro e; have := h.lt _ (h.memA q hq); omega
  ·rcases hmem q hq with rfl | ⟨hq, hk2⟩
   ·rw [e1, o1 hk]; intro e; have := h.lt _ (h.memA p hp); omega
   ·rw [o1 hk, o1 hk2]; exact h.apA p hp q hq hne
 ·rcases hmem p hp with rfl | ⟨hp, hk⟩
  ·rcases hmem q hq with rfl | ⟨hq, hk2⟩
   ·exact absurd rfl hne
   ·rw [e2] at hg; rw [o2 hk2]; intro e; have := h.lt _ (h.memR q hq g e); have := hr g hg; omega
  ·rw [o2 hk] at hg
   rcases hmem q hq with rfl | ⟨hq, hk2⟩
   ·rw [e2]; intro e; have := h.lt _ (h.memR p hp g hg); have := hr g e; omega
   ·rw [o2 hk2]; exact h.apR p hp q hq hne g hg
 ·simp only [List.mem_cons, List.mem_append, Option.mem_toList] at hi
  rcases hi with rfl | hi | hi
  ·exact lt_of_blk hn.1
  ·exact (hn.2.block i hi).2
  ·exact Nat.lt_of_lt_of_le (h.lt i hi) u.size
theorem FilR.del {w w' : World} {mf : Nat} {fs : Files} {A : Bs → Nat} {R : Bs → Value} {FM : List Nat} (h : FilR w mf fs A R FM) {nm : Bs} (hm : MapS w' mf (delA (entsL fs A) nm)) (u : Upd [mf] w w') : FilR w' mf (delA fs nm) A R FM := by
 have hmem : ∀ p ∈ delA fs nm, p ∈ fs := fun p hp => (List.mem_filter.1 hp).1
 refine ⟨by rw [entsL_del]; exact hm, fun p hp => ?_, h.mem, fun p hp => h.memA p (hmem p hp), fun p hp => h.memR p (hmem p hp), fun p hp q hq => h.apA p (hmem p hp) q (hmem q hq), fun p hp q hq => h.apR p (hmem p hp) q (hmem q hq), fun i hi => Nat.lt_of_lt_of_le (h.lt i hi) u.size⟩
 have hnd := h.node p (hmem p hp)
 obtain ⟨es, clock, hb, -⟩ := h.map
 refine hnd.upd u (fun q => ?_) (fun g hg q => ?_)
 ·rw [List.mem_singleton.1 q] at hnd
  have := hnd.1
  rw [hb] at this
  cases this
 ·rw [List.mem_singleton.1 q] at hg
  exact own_map hnd.2 hb hg
end Go.Proofs.YtgpefiacbipfpaaGreatDoor

namespace Go.Proofs.YtgpefiacbipfpaaGreatDoor
open Go.RowKit Go.Maps
def codeC (gone : Bool) (fs : Files) (nm : Bs) : Nat := if gone = true then 2 else if nm.length = 0 ∨ 40 < nm.length then 82 else if (getA fs nm).isSome = true then 81 else if 64 ≤ fs.length then 83 else 0
def FCreatePost (w : World) (v j p n k c q mf ml : Nat) (va : Value) (dead ld gone : Bool) (fs : Files) (A : Bs → Nat) (R : Bs → Value) (FM : List Nat) (nm : Bs) (r : Ending) (w' : World) : Prop :=
 r = .returned (.int .i64 (codeC (dead || gone) fs nm)) ∧ w'.heap[v]? = some (boxF j c q mf ml va (dead || gone)) ∧ LogR w' j p n k (if dead = true then ld else gone) ∧
  (codeC (dead || gone) fs nm ≠ 0 → Upd [v, j] w w') ∧ (codeC (dead || gone) fs nm = 0 → ∃ a, w.heap.size ≤ a ∧ Upd [v, j, mf] w w' ∧ FilR w' mf (putA ltN fs nm emptyF) (updF A nm a) (updF R nm (.slice none 0 0)) (a :: FM))
set_option maxRecDepth 100000 in
set_option maxHeartbeats 2000000 in
theorem fcreate_ok (w : World) {v j p n k c q mf ml : Nat} {va : Value} {dead ld : Bool} (h : w.heap[v]? = some (boxF j c q mf ml va dead)) (hl : LogR w j p n k ld) {D : Dev} {F : List Nat} (hd : DevAt w p D F) (hn : n ≤ 512) (hvj : v ≠ j)
  {fs : Files} {A : Bs → Nat} {R : Bs → Value} {FM : List Nat} (hf : FilR w mf fs A R FM) (hsrt : Srt ltN fs) (h64 : fs.length ≤ 64) (hvM : v ∉ FM) (hjM : j ∉ FM) (s : ByteArray) (hs : s.size ≤ maxLen) :
  Calls Tryz.prog 11 #[.pointer (some ⟨v, 0, none⟩), .string s] w (FCreatePost w v j p n k c q mf ml va dead ld (ld || D.down) fs A R FM s.data.toList) := by
 have HU := Lib.hid (fuse_ok' w h hl hd hn hvj)
 have HF := Lib.hid hf
 generalize (ld || D.down) = gone at *
 clear h hl hd hf
 have hsl : s.data.toList.length = s.size := Array.length_toList
 go_enter Tryz.func11, Tryz.ntmps11
 go_wp2_with fail
 refine HU.out.mono ?_
 rintro r w1 ⟨rfl, hb1, hl1, hu1⟩
 have hfil : FilR w1 mf fs A R FM := HF.out.upd hu1 (fun i hi q => by
  simp only [List.mem_cons, List.not_mem_nil, or_false] at q
  rcases q with rfl | rfl
  ·exact hvM hi
  ·exact hjM hi)
 have HFI := Lib.hid hfil
 have hlook := MapS.look hfil.map Tryz.underlying82 (z := .pointer none) (by kernel_rfl) s hs
 have hlen := World.ownsMap.len hfil.map Tryz.underlying82 3
 rw [size_dataA, show (entsL fs A).length = fs.length by simp [entsL]] at hlen
 have HN := Lib.hid (named_ok w1 s)
 have d3 := cell_blk hb1 3
 simp only [List.getElem?_toArray, List.getElem?_cons_zero, List.getElem?_cons_succ] at d3
 have H1 := Lib.hid (And.intro hb1 (And.intro hl1 hu1))
 clear hb1 hl1 hu1 hfil
 unfold FCreatePost
 by_cases hdg : (dead || gone) = true
 ·have hc : codeC (dead || gone) fs s.data.toList = 2 := by unfold codeC; rw [if_pos hdg]
  rw [if_pos hdg]
  have HC := Lib.hid hc
  clear hc hlook hlen hsl
  go_wp2_with fail
  go_ret
  exact ⟨by rw [HC.out]; rfl, H1.out.1, H1.out.2.1, fun _ => H1.out.2.2, fun h => by rw [HC.out] at h; cases h⟩
 ·by_cases hnm : s.size = 0 ∨ 40 < s.size
  ·have hc : codeC (dead || gone) fs s.data.toList = 82 := by unfold codeC; rw [if_neg hdg, if_pos (by rw [hsl]; exact hnm)]
   have hdn : decide (s.size ≠ 0 ∧ s.size ≤ 40) = false := decide_eq_false (by omega)
   rw [if_neg hdg]
   have HC := Lib.hid hc
   rw [hdn] at HN
   clear hc hlook hlen hsl hdn hnm
   go_wp2_with fail
   refine HN.out.mono ?_
   rintro r w2 ⟨rfl, rfl⟩
   go_wp2_with fail
   go_ret
   exact ⟨by rw [HC.out]; rfl, H1.out.1, H1.out.2.1, fun _ => H1.out.2.2, fun h => by rw [HC.out] at h; cases h⟩
  ·have hdn : decide (s.size ≠ 0 ∧ s.size ≤ 40) = true := decide_eq_true (by omega)
   have hnm' : ¬ (s.data.toList.length = 0 ∨ 40 < s.data.toList.length) := by rw [hsl]; exact hnm
   rw [if_neg hdg]
   rw [hdn] at HN
   rw [getA_ents] at hlook
   cases hg : getA fs s.data.toList with
   | some f =>
    have hc : codeC (dead || gone) fs s.data.toList = 81 := by unfold codeC; rw [if_neg hdg, if_neg hnm', hg]; rfl
    have HC := Lib.hid hc
    rw [hg] at hlook
    simp only [Option.map_some, Option.getD_some] at hlook
    clear hc hlen hsl hdn hnm hnm'
    go_wp2_with fail
    refine HN.out.mono ?_
    rintro r w2 ⟨rfl, rfl⟩
    go_wp2_with fail
    go_ret
    exact ⟨by rw [HC.out]; rfl, H1.out.1, H1.out.2.1, fun _ => H1.out.2.2, fun h => by rw [HC.out] at h; cases h⟩
   | none =>
    rw [hg] at hlook
    simp only [Option.map_none, Option.getD_none] at hlook
    by_cases hm : 64 ≤ fs.length
    ·have hc : codeC (dead || gone) fs s.data.toList = 83 := by unfold codeC; rw [if_neg hdg, if_neg hnm', hg, if_pos hm]; rfl
     have HC := Lib.hid hc
     have hm' : (64 : Int) ≤ (fs.length : Int) := by omega
     clear hc hsl hdn hnm hnm'
     go_wp2_with fail
     refine HN.out.mono ?_
     rintro r w2 ⟨rfl, rfl⟩
     go_wp2_with fail
     go_ret
     exact ⟨by rw [HC.out]; rfl, H1.out.1, H1.out.2.1, fun _ => H1.out.2.2, fun h => by rw [HC.out] at h; cases h⟩
    ·have hc : codeC (dead || gone) fs s.data.toList = 0 := by unfold codeC; rw [if_neg hdg, if_neg hnm', hg, if_neg hm]; rfl
     have HC := Lib.hid hc
     have hm' : ¬ (64 : Int) ≤ (fs.length : Int) := by omega
     clear hc hsl hdn hnm hnm'
     go_wp2_with fail
     refine HN.out.mono ?_
     rintro r w2 ⟨rfl, rfl⟩
     go_wp2_with fail
     clear hlook hlen
     have HIN := Lib.hid fun X => inew_ok X
     have HPU := Lib.hid fun (X : World) (u : Upd [] w2 X) => MapS.put (HFI.out.upd u (by simp)).map (entsL_srt hsrt A) (by simp [entsL]; omega) Tryz.underlying82 s hs (.pointer (some ⟨w2.heap.size, 0, none⟩))
     have hvl := lt_of_blk H1.out.1
     go_region_held3 (fun X => X.cell? ⟨v, 3, none⟩ = some (.map (some mf)))
      (first
       | (with_reducible exact held1 (Upd.refl [] w2).drew d3)
       | (with_reducible exact held1 hv6 d3)
       | (exact (World.cell?_of_block (hgr.block v (by have := hv6.size; omega) (fun e => hvM (by have e2 := Option.some.inj e; rw [e2]; exact HFI.out.mem)))).trans (held1 hv6 d3)))
      (first
       | (go_at_call 39; (with_reducible refine (HIN.out _).mono ?_); rintro e w6 ⟨rfl, hnd, hu6, hz6⟩; have hv6 : Upd [] w2 w6 := (Upd.refl [] w2).drew.trans hu6; obtain ⟨w7, hput, hms, hgr⟩ := HPU.out w6 hv6))
     go_wp2_with fail
     go_ret
     have hs6 := hv6.size
     have hs1 := H1.out.2.2.size
     have hu7 : Upd [mf] w6 w7 := by have := Upd.of_grown hgr; simpa using this
     have hvm : v ≠ mf := fun e => hvM (by rw [e]; exact HFI.out.mem)
     have hjm : j ≠ mf := fun e => hjM (by rw [e]; exact HFI.out.mem)
     have hml := HFI.out.map.lt
     have hb7 : w7.heap[v]? = some (boxF j c q mf ml va (dead || gone)) := (hu7.block v (by omega) (by simp; exact hvm)).trans (heap_keepU hv6 H1.out.1)
     have hl7 := (H1.out.2.1.upd hv6 (by simp)).upd hu7 (by simp; exact hjm)
     have hn7 : NodeR w7 0 w2.heap.size 0 (.slice none 0 0) [] := ⟨(hu7.block _ (lt_of_blk hnd.1) (by simp; omega)).trans hnd.1, OwnG.nil _ _⟩
     have hu27 : Upd [mf] w2 w7 := (hv6.mono (by simp)).trans hu7
     have hfp := HFI.out.put (nm := s.data.toList) (f := emptyF) (a := w2.heap.size) (rv := .slice none 0 0) hsrt hms hu27 hn7 (Nat.le_refl _) (fun g hg => by cases hg)
     exact ⟨by rw [HC.out]; rfl, hb7, hl7, fun h => absurd HC.out h, fun _ => ⟨w2.heap.size, by omega, (H1.out.2.2.mono (fun k hk _ => by simp only [List.mem_cons, List.not_mem_nil, or_false] at hk ⊢; rcases hk with rfl | rfl <;> simp)).trans (hu27.mono (by simp)), hfp⟩⟩
end Go.Proofs.YtgpefiacbipfpaaGreatDoor
