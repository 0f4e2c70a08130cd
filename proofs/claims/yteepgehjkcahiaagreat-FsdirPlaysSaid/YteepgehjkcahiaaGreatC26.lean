/- FS in memory; use, named, ended. named, find, Size. Size. -/
import Derived.Test.YteepgehjkcahiaaGreatC25
namespace Go.Proofs.YteepgehjkcahiaaGreat
open Go.RowKit Go.Maps
abbrev boxF (j c q mf ml : Nat) (va : Value) (dead : Bool) : Obj := .cells #[.pointer (some ⟨j, 0, none⟩), .pointer (some ⟨c, 0, none⟩), .pointer (some ⟨q, 0, none⟩), .map (some mf), .map (some ml), va, .bool dead] 79 (0, 0)
theorem boxF_dead {w : World} {v j c q mf ml : Nat} {va : Value} {dead : Bool} (h : w.heap[v]? = some (boxF j c q mf ml va dead)) (b : Bool) : (w.setCell ⟨v, 6, none⟩ (.bool b)).heap[v]? = some (boxF j c q mf ml va b) := by
 rw [heap_setCell, if_pos rfl, h]; rfl
def FUsePost (w : World) (v j p n k c q mf ml : Nat) (va : Value) (dead ld gone : Bool) (r : Ending) (w' : World) : Prop :=
 r = .returned (.int .i64 (if (dead || gone) = true then 2 else 0)) ∧ w'.heap[v]? = some (boxF j c q mf ml va (dead || gone)) ∧ LogR w' j p n k (if dead = true then ld else gone) ∧ Upd [v, j] w w'
set_option maxRecDepth 100000 in
set_option maxHeartbeats 2000000 in
theorem fuse_ok' (w : World) {v j p n k c q mf ml : Nat} {va : Value} {dead ld : Bool} (h : w.heap[v]? = some (boxF j c q mf ml va dead)) (hl : LogR w j p n k ld) {D : Dev} {F : List Nat} (hd : DevAt w p D F) (hn : n ≤ 512) (hvj : v ≠ j) :
  Calls Tryz.prog 41 #[.pointer (some ⟨v, 0, none⟩)] w (FUsePost w v j p n k c q mf ml va dead ld (ld || D.down)) := by
 have c0 := cell_blk h 0
 have c6 := cell_blk h 6
 simp only [List.getElem?_toArray, List.getElem?_cons_zero, List.getElem?_cons_succ] at c0 c6
 have HB := Lib.hid h
 have HL := Lib.hid hl
 have hvl := lt_of_blk h
 have HJ := Lib.hid (jread_bad w hl hd hn (-1) (by simp [useE]; split <;> omega))
 clear h hl hd
 generalize hg : (ld || D.down) = gone at *
 clear hg
 cases dead
 ·cases gone
  ·have e1 : useE false (-1) n false = 42 := by simp [useE]
   rw [e1] at HJ
   go_enter Tryz.func41, Tryz.ntmps41
   go_wp2_with fail
   refine HJ.out.mono ?_
   rintro r w1 ⟨rfl, hl1, hu1⟩
   have hb1 := (hu1.block v hvl (by simp; exact hvj)).trans HB.out
   have H1 := Lib.hid (And.intro hl1 (And.intro hu1 hb1))
   clear hl1 hu1 hb1
   go_wp2_with fail
   go_ret
   exact ⟨rfl, H1.out.2.2, H1.out.1, H1.out.2.1.mono (by simp)⟩
  ·have e1 : useE true (-1) n false = 2 := by simp [useE]
   rw [e1] at HJ
   go_enter Tryz.func41, Tryz.ntmps41
   go_wp2_with fail
   refine HJ.out.mono ?_
   rintro r w1 ⟨rfl, hl1, hu1⟩
   have hb1 := (hu1.block v hvl (by simp; exact hvj)).trans HB.out
   have H1 := Lib.hid (And.intro hl1 (And.intro hu1 hb1))
   have d6 := cell_blk hb1 6
   have f6 := frozen_blk hb1 6
   simp only [List.getElem?_toArray, List.getElem?_cons_zero, List.getElem?_cons_succ] at d6
   clear hl1 hu1 hb1
   go_wp2_with fail
   go_ret
   exact ⟨rfl, boxF_dead H1.out.2.2 _, H1.out.1.upd ((Upd.refl [v] _).setCell (by simp) _ _) (by simp; exact fun e => hvj e.symm), (H1.out.2.1.mono (by simp)).setCell (by simp) _ _⟩
 ·go_enter Tryz.func41, Tryz.ntmps41
  go_wp2_with fail
  go_ret
  exact ⟨rfl, HB.out, HL.out, Upd.refl _ _⟩
set_option maxRecDepth 100000 in
theorem fended_ok (w : World) {v j c q mf ml : Nat} {va : Value} {dead : Bool} (h : w.heap[v]? = some (boxF j c q mf ml va dead)) (e : Nat) :
  Calls Tryz.prog 51 #[.pointer (some ⟨v, 0, none⟩), .int .i64 e] w fun r w' => r = .returned (.int .i64 e) ∧ w'.heap[v]? = some (boxF j c q mf ml va (dead || decide (e = 2))) ∧ Upd [v] w w' := by
 have c6 := cell_blk h 6
 have f6 := frozen_blk h 6
 simp only [List.getElem?_toArray, List.getElem?_cons_zero, List.getElem?_cons_succ] at c6
 have HB := Lib.hid h
 clear h
 cases dead
 ·by_cases he : e = 2
  ·subst he
   go_enter Tryz.func51, Tryz.ntmps51
   go_wp2_with fail
   go_ret
   exact ⟨rfl, boxF_dead HB.out _, (Upd.refl _ _).setCell (by simp) _ _⟩
  ·have he' : ((e : Int) == 2) = false := by simp; omega
   have hed : decide (e = 2) = false := by simp [he]
   rw [hed]
   have HE := Lib.hid he
   clear he hed
   go_enter Tryz.func51, Tryz.ntmps51
   go_wp2_with fail
   go_ret
   exact ⟨rfl, by rw [boxF_dead HB.out]; rfl, (Upd.refl _ _).setCell (by simp) _ _⟩
 ·go_enter Tryz.func51, Tryz.ntmps51
  go_wp2_with fail
  go_ret
  exact ⟨rfl, boxF_dead HB.out _, (Upd.refl _ _).setCell (by simp) _ _⟩
end Go.Proofs.YteepgehjkcahiaaGreat

namespace Go.Proofs.YteepgehjkcahiaaGreat
open Go.RowKit Go.Maps
theorem toList_nil (s : ByteArray) : s.toList = [] ↔ s.size = 0 := by
 have h1 : (s.toList == (⟨#[]⟩ : ByteArray).toList) = (s == (⟨#[]⟩ : ByteArray)) := (beq_toListBytes s _).symm
 rw [bytes_beq] at h1
 have h2 : (⟨#[]⟩ : ByteArray).toList = [] := by unfold ByteArray.toList ByteArray.toList.loop; rfl
 rw [h2] at h1
 constructor
 ·intro h
  rw [h] at h1
  have h3 : s = ⟨#[]⟩ := by simpa using h1.symm
  rw [h3]; rfl
 ·intro h
  have h3 : s = ⟨#[]⟩ := by
   cases s with | mk d =>
   have : d.size = 0 := h
   rw [Array.size_eq_zero_iff.1 this]
  rw [h3]; exact h2
set_option maxRecDepth 100000 in
theorem named_ok (w : World) (s : ByteArray) : Calls Tryz.prog 42 #[.string s] w fun r w' => r = .returned (.bool (decide (s.size ≠ 0 ∧ s.size ≤ 40))) ∧ w' = w := by
 go_enter Tryz.func42, Tryz.ntmps42
 go_wp2_with fail
 all_goals rename_i h
 all_goals go_ret
 all_goals refine ⟨?_, rfl⟩
 ·have hz := (toList_nil s).1 h
  simp [hz]
 ·have hz : s.size ≠ 0 := fun e => h ((toList_nil s).2 e)
  have he : s.toList.isEmpty = false := by simpa using h
  simp [hz, he]
  omega
def FFindPost (w : World) (v j p n k c q mf ml : Nat) (va : Value) (dead ld gone : Bool) (fs : Files) (A : Bs → Nat) (nm : Bs) (r : Ending) (w' : World) : Prop :=
 r = .returned (if (dead || gone) = true then .tuple #[.pointer none, .int .i64 2] else match getA fs nm with | some _ => .tuple #[ptA (A nm), .int .i64 0] | none => .tuple #[.pointer none, .int .i64 80]) ∧
  w'.heap[v]? = some (boxF j c q mf ml va (dead || gone)) ∧ LogR w' j p n k (if dead = true then ld else gone) ∧ Upd [v, j] w w'
set_option maxRecDepth 100000 in
set_option maxHeartbeats 2000000 in
theorem ffind_ok (w : World) {v j p n k c q mf ml : Nat} {va : Value} {dead ld : Bool} (h : w.heap[v]? = some (boxF j c q mf ml va dead)) (hl : LogR w j p n k ld) {D : Dev} {F : List Nat} (hd : DevAt w p D F) (hn : n ≤ 512) (hvj : v ≠ j)
  {fs : Files} {A : Bs → Nat} {R : Bs → Value} {FM : List Nat} (hf : FilR w mf fs A R FM) (hvM : v ∉ FM) (hjM : j ∉ FM) (s : ByteArray) (hs : s.size ≤ maxLen) :
  Calls Tryz.prog 44 #[.pointer (some ⟨v, 0, none⟩), .string s] w (FFindPost w v j p n k c q mf ml va dead ld (ld || D.down) fs A s.data.toList) := by
 have HU := Lib.hid (fuse_ok' w h hl hd hn hvj)
 have HF := Lib.hid hf
 generalize (ld || D.down) = gone at *
 clear h hl hd hf
 go_enter Tryz.func44, Tryz.ntmps44
 go_wp2_with fail
 refine HU.out.mono ?_
 rintro r w1 ⟨rfl, hb1, hl1, hu1⟩
 have hmap : MapS w1 mf (entsL fs A) := (HF.out.upd hu1 (fun i hi q => by
  simp only [List.mem_cons, List.not_mem_nil, or_false] at q
  rcases q with rfl | rfl
  ·exact hvM hi
  ·exact hjM hi)).map
 have hlook := MapS.look hmap Tryz.underlying77 (z := .pointer none) (by kernel_rfl) s hs
 have d3 := cell_blk hb1 3
 simp only [List.getElem?_toArray, List.getElem?_cons_zero, List.getElem?_cons_succ] at d3
 have H1 := Lib.hid (And.intro hb1 (And.intro hl1 hu1))
 clear hb1 hl1 hu1 hmap
 by_cases hdg : (dead || gone) = true
 ·rw [if_pos hdg]
  have HDG := Lib.hid hdg
  clear hdg hlook
  go_wp2_with fail
  go_ret2
  exact ⟨by rw [if_pos HDG.out]; rfl, H1.out⟩
 ·rw [if_neg hdg]
  have HDG := Lib.hid hdg
  clear hdg
  rw [getA_ents] at hlook
  unfold FFindPost
  cases hg : getA fs s.data.toList with
  | none =>
   rw [hg] at hlook
   simp only [Option.map_none, Option.getD_none] at hlook
   go_wp2_with fail
   go_ret2
   exact ⟨by rw [if_neg HDG.out, hg]; rfl, H1.out⟩
  | some f =>
   rw [hg] at hlook
   simp only [Option.map_some, Option.getD_some] at hlook
   go_wp2_with fail
   go_ret2
   exact ⟨by rw [if_neg HDG.out, hg]; rfl, H1.out⟩
end Go.Proofs.YteepgehjkcahiaaGreat

namespace Go.Proofs.YteepgehjkcahiaaGreat
open Go.RowKit Go.Maps
def FSizePost (w : World) (v j p n k c q mf ml : Nat) (va : Value) (dead ld gone : Bool) (fs : Files) (nm : Bs) (r : Ending) (w' : World) : Prop :=
 r = .returned (if (dead || gone) = true then .tuple #[.int .i64 0, .int .i64 2] else match getA fs nm with | some f => .tuple #[.int .i64 f.data.length, .int .i64 0] | none => .tuple #[.int .i64 0, .int .i64 80]) ∧
  w'.heap[v]? = some (boxF j c q mf ml va (dead || gone)) ∧ LogR w' j p n k (if dead = true then ld else gone) ∧ Upd [v, j] w w'
set_option maxRecDepth 100000 in
set_option maxHeartbeats 2000000 in
theorem fsize_ok (w : World) {v j p n k c q mf ml : Nat} {va : Value} {dead ld : Bool} (h : w.heap[v]? = some (boxF j c q mf ml va dead)) (hl : LogR w j p n k ld) {D : Dev} {F : List Nat} (hd : DevAt w p D F) (hn : n ≤ 512) (hvj : v ≠ j)
  {fs : Files} {A : Bs → Nat} {R : Bs → Value} {FM : List Nat} (hf : FilR w mf fs A R FM) (hvM : v ∉ FM) (hjM : j ∉ FM) (s : ByteArray) (hs : s.size ≤ maxLen) :
  Calls Tryz.prog 24 #[.pointer (some ⟨v, 0, none⟩), .string s] w (FSizePost w v j p n k c q mf ml va dead ld (ld || D.down) fs s.data.toList) := by
 have HU := Lib.hid (ffind_ok w h hl hd hn hvj hf hvM hjM s hs)
 have HF := Lib.hid hf
 generalize (ld || D.down) = gone at *
 clear h hl hd hf
 go_enter Tryz.func24, Tryz.ntmps24
 go_wp2_with fail
 refine HU.out.mono ?_
 rintro r w1 ⟨rfl, hb1, hl1, hu1⟩
 have hfil : FilR w1 mf fs A R FM := HF.out.upd hu1 (fun i hi q => by
  simp only [List.mem_cons, List.not_mem_nil, or_false] at q
  rcases q with rfl | rfl
  ·exact hvM hi
  ·exact hjM hi)
 have H1 := Lib.hid (And.intro hb1 (And.intro hl1 hu1))
 clear hb1 hl1 hu1
 by_cases hdg : (dead || gone) = true
 ·rw [if_pos hdg]
  have HDG := Lib.hid hdg
  clear hdg hfil
  have HZ := isize_nil w1
  go_wp2_with fail
  refine HZ.mono ?_
  rintro r w2 ⟨rfl, rfl⟩
  go_wp2_with fail
  go_ret2
  exact ⟨by rw [if_pos HDG.out]; rfl, H1.out⟩
 ·rw [if_neg hdg]
  have HDG := Lib.hid hdg
  clear hdg
  unfold FSizePost
  cases hg : getA fs s.data.toList with
  | none =>
   have HZ := isize_nil w1
   clear hfil
   go_wp2_with fail
   refine HZ.mono ?_
   rintro r w2 ⟨rfl, rfl⟩
   go_wp2_with fail
   go_ret2
   exact ⟨by rw [if_neg HDG.out, hg]; rfl, H1.out⟩
  | some f =>
   have HZ := isize_ok w1 (hfil.node _ (getA_mem hg))
   clear hfil
   go_wp2_with fail
   refine HZ.mono ?_
   rintro r w2 ⟨rfl, rfl⟩
   go_wp2_with fail
   go_ret2
   exact ⟨by rw [if_neg HDG.out, hg]; rfl, H1.out⟩
end Go.Proofs.YteepgehjkcahiaaGreat
