/- What calls do to files, in plain words, and what a crash leaves of that. No program in sight. The ground of the walks: what a call leaves of the memory; rows of things of k cells, that are read, or of the call's own. A cache: doubly linked lists in blocks, a map: no program in sight. (Turned from wip/bcache.) -/
import Derived.WalkKit
import Derived.ProofKit
import Derived.OpenShut
import Derived.Handy
import Derived.Lib.Hide
import Derived.Deep.LoopGhost
import Derived.Below
import Derived.Deep.RegionHeld3
import Derived.Deep.AppendLies
import Derived.Deep.RegionLaw
import Derived.Maps.AppendAt
import Derived.Laws.AppendOwn
import Derived.Test.YteepgehjkcahiaaGreatC01
import Derived.Test.YteepgehjkcahiaaGreatChecked
namespace Go.Proofs.YteepgehjkcahiaaGreat
theorem bsLess_trans : ∀ x y z : List UInt8, Op.bytesLess x y = true → Op.bytesLess y z = true → Op.bytesLess x z = true
 | _, [], _, h, _ => by cases ‹List UInt8› <;> simp [Op.bytesLess] at h
 | x, b :: y, [], _, h => by simp [Op.bytesLess] at h
 | [], b :: y, c :: z, _, _ => rfl
 | a :: x, b :: y, c :: z, h, g => by
  simp only [Op.bytesLess, Bool.or_eq_true, Bool.and_eq_true, decide_eq_true_eq, beq_iff_eq, UInt8.lt_iff_toNat_lt] at h g ⊢
  rcases h with h | ⟨rfl, h⟩
  ·rcases g with g | ⟨rfl, g⟩
   ·exact Or.inl (by omega)
   ·exact Or.inl h
  ·rcases g with g | ⟨rfl, g⟩
   ·exact Or.inl g
   ·exact Or.inr ⟨rfl, bsLess_trans x y z h g⟩
theorem bsLess_irrefl : ∀ x : List UInt8, Op.bytesLess x x = false
 | [] => rfl
 | a :: x => by simp [Op.bytesLess, bsLess_irrefl x]
theorem bsLess_total : ∀ x y : List UInt8, x = y ∨ Op.bytesLess x y = true ∨ Op.bytesLess y x = true
 | [], [] => Or.inl rfl
 | [], _ :: _ => Or.inr (Or.inl rfl)
 | _ :: _, [] => Or.inr (Or.inr rfl)
 | a :: x, b :: y => by
  simp only [Op.bytesLess, Bool.or_eq_true, Bool.and_eq_true, decide_eq_true_eq, beq_iff_eq, UInt8.lt_iff_toNat_lt, List.cons.injEq]
  rcases Nat.lt_trichotomy a.toNat b.toNat with h | h | h
  ·exact Or.inr (Or.inl (Or.inl h))
  ·have h := UInt8.toNat_inj.1 h
   subst h
   rcases bsLess_total x y with rfl | h | h
   ·exact Or.inl ⟨rfl, rfl⟩
   ·exact Or.inr (Or.inl (Or.inr ⟨rfl, h⟩))
   ·exact Or.inr (Or.inr (Or.inr ⟨rfl, h⟩))
  ·exact Or.inr (Or.inr (Or.inl h))
theorem ordN : Ord ltN := ⟨bsLess_irrefl, bsLess_trans, bsLess_total⟩
theorem FsInv.crash {l l' : Nat → Cell} {room k s : Nat} {fs last : Files} (h : FsInv l room k s fs last) (c : CrashOf l l') : Rest l' room k last where
 few := h.few
 recov := ⟨s, .inl (h.quiet.crash c)⟩
 sized := fun i b hb => by
  obtain ⟨h1, h2⟩ := c i
  rw [Cell.poss, h1, List.mem_singleton] at hb
  subst hb
  exact h.sized i _ h2
 ok := h.was
 pend := fun i => (c i).1
 holds := fun p hp => h.sure p hp _ fun b => by
  obtain ⟨h1, h2⟩ := c (36 + b)
  show (l' (36 + b)).view ∈ _
  rw [Cell.view, h1]
  exact h2
theorem mem_all {fs : Files} {p : Bs × Fil} (hp : p ∈ fs) {b : Nat} (hb : b ∈ p.2.blks) : b ∈ allBlks fs := List.mem_flatMap.2 ⟨p, hp, hb⟩
theorem apart_of {fs : Files} (h : (allBlks fs).Nodup) : ∀ {p q : Bs × Fil}, p ∈ fs → q ∈ fs → p.1 ≠ q.1 → ∀ b ∈ p.2.blks, b ∉ q.2.blks := by
 induction fs with
 | nil => intro p q hp; simp at hp
 | cons x fs ih =>
  intro p q hp hq hne b hb hb'
  simp only [allBlks, List.flatMap_cons, List.nodup_append] at h
  obtain ⟨-, h2, h3⟩ := h
  rcases List.mem_cons.1 hp with hp1 | hp1
  ·rcases List.mem_cons.1 hq with hq1 | hq1
   ·exact hne (by rw [hp1, hq1])
   ·exact h3 b (by rw [← hp1]; exact hb) b (mem_all (fs := fs) hq1 hb') rfl
  ·rcases List.mem_cons.1 hq with hq1 | hq1
   ·exact h3 b (by rw [← hq1]; exact hb') b (mem_all (fs := fs) hp1 hb) rfl
   ·exact ih h2 hp1 hq1 hne b hb hb'
theorem del_ok {room : Nat} {fs : Files} (h : FilesOk room fs) (nm : Bs) : FilesOk room (delA fs nm) where
 srt := srt_delA h.srt nm
 few := Nat.le_trans (List.length_filter_le ..) h.few
 name := fun p hp => h.name p (mem_delA.1 hp).1
 ok := fun p hp => h.ok p (mem_delA.1 hp).1
 nodup := by
  have : (allBlks (delA fs nm)).Sublist (allBlks fs) := by
   have h0 : (delA fs nm).Sublist fs := List.filter_sublist
   clear h
   generalize delA fs nm = r at h0
   unfold allBlks
   induction h0 with
   | slnil => exact .slnil
   | cons a _ ih => rw [List.flatMap_cons]; exact ih.trans (List.sublist_append_right ..)
   | cons_cons a _ ih => rw [List.flatMap_cons, List.flatMap_cons]; exact (List.Sublist.refl _).append ih
  exact h.nodup.sublist this
theorem FsInv.remove {l : Nat → Cell} {room k s : Nat} {fs last : Files} (h : FsInv l room k s fs last) (nm : Bs) : FsInv l room k s (delA fs nm) last :=
 ⟨h.few, h.quiet, h.sized, del_ok h.now nm, h.was, fun p hp => h.holds p (mem_delA.1 hp).1, h.sure, fun p hp => h.kin p (mem_delA.1 hp).1⟩
theorem perm_all {a b : Files} (h : a.Perm b) : (allBlks a).Perm (allBlks b) := h.flatMap_right _
theorem put_ok {room : Nat} {fs : Files} (h : FilesOk room fs) {nm : Bs} {f : Fil} (hn : 1 ≤ nm.length ∧ nm.length ≤ 40) (hf : FilOk room f) (h64 : (putA ltN fs nm f).length ≤ 64)
  (hnd : f.blks.Nodup) (hd : ∀ b ∈ f.blks, b ∉ allBlks (delA fs nm)) : FilesOk room (putA ltN fs nm f) where
 srt := srt_putA ordN h.srt nm f
 few := h64
 name := fun p hp => by rcases mem_putA hp with rfl | hp; exact hn; exact h.name p hp
 ok := fun p hp => by rcases mem_putA hp with rfl | hp; exact hf; exact h.ok p hp
 nodup := by
  rw [(perm_all (putA_perm ordN h.srt nm f)).nodup_iff]
  simp only [allBlks, List.flatMap_cons, List.nodup_append]
  exact ⟨hnd, (del_ok h nm).nodup, fun a ha b hb e => hd a ha (e ▸ hb)⟩
theorem put_mem {fs : Files} (h : Srt ltN fs) {nm : Bs} {f : Fil} {p : Bs × Fil} (hp : p ∈ putA ltN fs nm f) : p = (nm, f) ∨ (p ∈ fs ∧ p.1 ≠ nm) := by
 have := (putA_perm ordN h nm f).mem_iff.1 hp
 rcases List.mem_cons.1 this with h | h
 ·exact .inl h
 ·exact .inr (mem_delA.1 h)
def emptyF : Fil := ⟨[], []⟩
theorem emptyF_ok (room : Nat) : FilOk room emptyF := ⟨trivial, by simp [emptyF], rfl, by simp [emptyF]⟩
theorem emptyF_blks : emptyF.blks = [] := rfl
theorem FsInv.create {l : Nat → Cell} {room k s : Nat} {fs last : Files} (h : FsInv l room k s fs last) {nm : Bs} (hn : 1 ≤ nm.length ∧ nm.length ≤ 40) (hg : getA fs nm = none) (h64 : fs.length < 64) : FsInv l room k s (putA ltN fs nm emptyF) last :=
 ⟨h.few, h.quiet, h.sized, put_ok h.now hn (emptyF_ok room) (by rw [len_putA ordN h.now.srt, hg]; exact h64) (by simp [emptyF_blks]) (by simp [emptyF_blks]), h.was,
  fun p hp => by
   rcases put_mem h.now.srt hp with rfl | ⟨hp, -⟩
   ·intro j b i hj; simp [emptyF_blks] at hj
   ·exact h.holds p hp,
  h.sure, fun p hp => by
   rcases put_mem h.now.srt hp with rfl | ⟨hp, -⟩
   ·intro q _; exact .inl (by simp [emptyF_blks])
   ·exact h.kin p hp⟩
theorem FsInv.rename {l : Nat → Cell} {room k s : Nat} {fs last : Files} (h : FsInv l room k s fs last) {a b : Bs} {f : Fil} (hn : 1 ≤ b.length ∧ b.length ≤ 40) (hf : getA fs a = some f) (hne : a ≠ b) :
  FsInv l room k s (putA ltN (delA (delA fs b) a) b f) last := by
 have h1 := h.remove b
 have h2 := h1.remove a
 have hm := getA_mem hf
 have hm1 : (a, f) ∈ delA fs b := mem_delA.2 ⟨hm, hne⟩
 have hg1 : getA (delA fs b) a = some f := by rw [getA_delA, if_neg (Ne.symm hne), hf]
 have hgb : getA (delA (delA fs b) a) b = none := by rw [getA_delA, if_neg hne, getA_delA, if_pos rfl]
 have hlen := len_delA ordN h1.now.srt hg1
 refine ⟨h.few, h.quiet, h.sized, put_ok h2.now hn (h.now.ok _ hm) ?_ ?_ ?_, h.was, fun p hp => ?_, h.sure, fun p hp => ?_⟩
 ·rw [len_putA ordN h2.now.srt, hgb]
  have := h1.now.few
  show _ + 1 ≤ 64
  omega
 ·have : f.blks.Sublist (allBlks fs) := by
   obtain ⟨u, v, rfl⟩ := List.append_of_mem hm
   unfold allBlks
   rw [List.flatMap_append, List.flatMap_cons]
   exact (List.sublist_append_left ..).trans (List.sublist_append_right ..)
  exact h.now.nodup.sublist this
 ·intro x hx hx'
  obtain ⟨p, hp, hx'⟩ := List.mem_flatMap.1 hx'
  have hp1 := (mem_delA.1 (mem_delA.1 hp).1)
  exact apart_of h.now.nodup hm (mem_delA.1 hp1.1).1 (fun e => hp1.2 e.symm) x hx hx'
 ·rcases put_mem h2.now.srt hp with rfl | ⟨hp, -⟩
  ·exact h.holds (a, f) hm
  ·exact h2.holds p hp
 ·rcases put_mem h2.now.srt hp with rfl | ⟨hp, -⟩
  ·exact h.kin (a, f) hm
  ·exact h2.kin p hp
theorem kin_refl (f : Fil) : Kin f f := .inr ⟨List.prefix_refl _, List.prefix_refl _⟩
theorem FilesOk.kin {room : Nat} {fs : Files} (h : FilesOk room fs) : ∀ p ∈ fs, ∀ q ∈ fs, Kin p.2 q.2 := by
 intro p hp q hq
 by_cases e : p.1 = q.1
 ·have h1 := getA_of_mem ordN h.srt hp
  have h2 := getA_of_mem ordN h.srt hq
  rw [e, h2] at h1
  rw [Option.some.inj h1]
  exact kin_refl _
 ·exact .inl (apart_of h.nodup hp hq e)
theorem FsInv.reset {l : Nat → Cell} {room k s : Nat} {fs last : Files} (h : FsInv l room k s fs last) : FsInv l room k s last last :=
 ⟨h.few, h.quiet, h.sized, h.was, h.was, fun p hp => (h.sure p hp).holds, h.sure, h.was.kin⟩
def syncT (k s : Nat) (fs last : Files) : List DOp := commitT (k + 1) s (writesF (dirB last) (dirB fs))
theorem FsInv.sync {l : Nat → Cell} {room k s : Nat} {fs last : Files} (h : FsInv l room k s fs last) (hk : k < 2 ^ 61) :
  Along (fun l1 => ∀ l', CrashOf l1 l' → ∃ k', k' ≤ k + 1 ∧ (Rest l' room k' last ∨ Rest l' room k' fs)) (syncT k s fs last) l ∧ FsInv (exec (syncT k s fs last) l) room (k + 1) (1 - s) fs fs := by
 have hfew := h.few
 have hd := h.now.dir_len (by omega)
 have ho := over_writesF (a := dirB last) hd
 obtain ⟨h1, h2, h3⟩ := h.quiet.commit ho (by omega : k < 2 ^ 62)
 have hsz : ∀ o ∈ syncT k s fs last, OpSized o := sized_commit (by omega) ho.wok
 have hs := h.quiet.slots.two
 refine ⟨fun p q e l' c => ?_, ?_⟩
 ·have hszp : Sized (exec p l) := h.sized.exec fun o hp => hsz o (by rw [e]; simp [hp])
  have hsz' : Sized l' := fun i b hb => by
   obtain ⟨c1, c2⟩ := c i
   rw [Cell.poss, c1, List.mem_singleton] at hb
   subst hb
   exact hszp i _ c2
  have hR : ∀ {k'}, Recov l' k' (blkOf (dirB last)) → Rest l' room k' last := fun hr => ⟨hfew, hr, hsz', h.was, fun i => (c i).1, fun x hx => h.sure x hx _ fun b => by
   obtain ⟨c1, c2⟩ := c (36 + b)
   show (l' (36 + b)).view ∈ _
   rw [Cell.view, c1]
   refine (poss_exec p fun o hp => ?_).2 _ c2
   exact not_commit ho.wok ho.low hs (by omega) o (by rw [show commitT (k + 1) s (writesF (dirB last) (dirB fs)) = p ++ q from e]; simp [hp])⟩
  rcases h1 p q e l' c with hr | ⟨hr, hi⟩
  ·exact ⟨k, by omega, .inl (hR hr)⟩
  ·have hF : ∀ {k'}, Recov l' k' (blkOf (dirB fs)) → Rest l' room k' fs := fun hr => ⟨hfew, hr, hsz', h.now, fun i => (c i).1, fun x hx => (h.holds x hx).congr fun b _ => by
    show (l' (36 + b)).view = (l (36 + b)).view
    rw [hi _ (by omega)]; rfl⟩
   rcases hr with hr | hr
   ·exact ⟨k, by omega, .inr (hF hr)⟩
   ·exact ⟨k + 1, by omega, .inr (hF hr)⟩
 ·have hH : ∀ x ∈ fs, Holds (dataV (exec (syncT k s fs last) l)) x.2 := fun x hx => (h.holds x hx).congr fun b _ => by
   show (exec (syncT k s fs last) l (36 + b)).view = _
   unfold syncT
   rw [h3 _ (by omega)]; rfl
  exact ⟨hfew, h2, h.sized.exec hsz, h.now, h.now, hH, fun x hx => sure_of_still (hH x hx) fun b _ => by unfold syncT; rw [h3 _ (by omega)], h.now.kin⟩
theorem Rest.mount {l : Nat → Cell} {room k : Nat} {fs : Files} (h : Rest l room k fs) (hk : k < 2 ^ 61) : ∃ s w, s < 2 ∧ WOk w ∧ (∀ x ∈ w, x.1 < 16) ∧ ((w = [] ∧ Quiet l k s (blkOf (dirB fs))) ∨ Redo l k s w (blkOf (dirB fs))) ∧
  Along (fun l1 => ∀ l', CrashOf l1 l' → ∃ k', k' ≤ k + 1 ∧ Rest l' room k' fs) (openT k s w) l ∧ FsInv (exec (openT k s w) l) room (k + 1) (1 - s) fs fs := by
 have hfew := h.few
 have hmain : ∀ {s w}, s < 2 → WOk w → (∀ x ∈ w, x.1 < 16) → Along (Opens k (blkOf (dirB fs))) (openT k s w) l → Quiet (exec (openT k s w) l) (k + 1) (1 - s) (blkOf (dirB fs)) →
   Along (fun l1 => ∀ l', CrashOf l1 l' → ∃ k', k' ≤ k + 1 ∧ Rest l' room k' fs) (openT k s w) l ∧ FsInv (exec (openT k s w) l) room (k + 1) (1 - s) fs fs := by
  intro s w hs hw hl h1 h2
  have hsz : ∀ o ∈ openT k s w, OpSized o := sized_open (by omega) hw
  have hst : ∀ i, 36 ≤ i → ∀ t q, openT k s w = t ++ q → exec t l i = l i := by
   intro i hi t q e
   have hp := h.pend i
   have e0 : l i = ⟨(l i).safe, []⟩ := by cases hc : l i with | mk a p => rw [hc] at hp; simp at hp; rw [hp]
   have := still_exec t e0 fun o ho => not_open hl hs hi o (by rw [e]; simp [ho])
   rw [this, ← e0]
  refine ⟨fun p q e l' c => ?_, ?_⟩
  ·have hszp : Sized (exec p l) := h.sized.exec fun o hp => hsz o (by rw [e]; simp [hp])
   have hF : ∀ {k'}, Recov l' k' (blkOf (dirB fs)) → Rest l' room k' fs := fun hr => ⟨hfew, hr, fun i b hb => by
     obtain ⟨c1, c2⟩ := c i
     rw [Cell.poss, c1, List.mem_singleton] at hb
     subst hb
     exact hszp i _ c2, h.ok, fun i => (c i).1, fun x hx => (h.holds x hx).congr fun b _ => by
    show (l' (36 + b)).view = (l (36 + b)).view
    have e1 := hst (36 + b) (by omega) p q e
    rw [c.still (by rw [e1]; exact h.pend _), e1]⟩
   rcases h1 p q e l' c with hr | hr
   ·exact ⟨k, by omega, hF hr⟩
   ·exact ⟨k + 1, by omega, hF hr⟩
  ·have e1 : ∀ i, 36 ≤ i → exec (openT k s w) l i = l i := fun i hi => hst i hi _ [] (by simp)
   have hH : ∀ x ∈ fs, Holds (dataV (exec (openT k s w) l)) x.2 := fun x hx => (h.holds x hx).congr fun b _ => by
    show (exec (openT k s w) l (36 + b)).view = _
    rw [e1 _ (by omega)]; rfl
   exact ⟨hfew, h2, h.sized.exec hsz, h.ok, h.ok, hH, fun x hx => sure_of_still (hH x hx) fun b _ => by rw [e1 _ (by omega)]; exact h.pend _, h.ok.kin⟩
 obtain ⟨s, hq | ⟨w, hr⟩⟩ := h.recov
 ·obtain ⟨h1, h2⟩ := quiet_open hq (by omega : k < 2 ^ 62)
  have hw : WOk [] := ⟨by simp, by simp, by simp⟩
  exact ⟨s, [], hq.slots.two, hw, by simp, .inl ⟨rfl, hq⟩, hmain hq.slots.two hw (by simp) h1 h2⟩
 ·obtain ⟨h1, h2⟩ := redo_open hr (by omega : k < 2 ^ 62)
  exact ⟨s, w, hr.slots.two, hr.wok, hr.low, .inr hr, hmain hr.slots.two hr.wok hr.low h1 h2⟩
end Go.Proofs.YteepgehjkcahiaaGreat

namespace Go.Proofs.YteepgehjkcahiaaGreat
open Go.RowKit
def Obj.put (o : Nat) (v : Value) : Obj → Obj
 | .cells c e f => .cells (c.setIfInBounds o v) e f
 | x => x
theorem heap_setCell (w : World) (b o : Nat) (v : Value) (k : Nat) :
  (w.setCell ⟨b, o, none⟩ v).heap[k]? = if k = b then (w.heap[k]?).map (Obj.put o v) else w.heap[k]? := by
 simp only [World.setCell, Array.getElem?_modify]
 by_cases h : b = k
 ·subst h
  simp only [if_true]
  cases w.heap[b]? with
  | none => rfl
  | some x => cases x <;> rfl
 ·rw [if_neg h, if_neg (fun e => h e.symm)]
theorem heap_alloc (w : World) (o : Obj) (k : Nat) : (w.alloc o).heap[k]? = if k = w.heap.size then some o else w.heap[k]? := by
 show (w.heap.push o)[k]? = _
 rw [Array.getElem?_push]
theorem heap_drew (w : World) : w.drew.heap = w.heap := rfl
theorem cell_blk {w : World} {b : Nat} {c : Array Value} {e : TypeId} {f : Nat × Nat} (h : w.heap[b]? = some (.cells c e f)) (o : Nat) : w.cell? ⟨b, o, none⟩ = c[o]? := by
 simp [World.cell?, h]
theorem frozen_blk {w : World} {b : Nat} {c : Array Value} {e : TypeId} (h : w.heap[b]? = some (.cells c e (0, 0))) (o : Nat) : w.frozen? ⟨b, o, none⟩ = false := by
 simp [World.frozen?, h]
theorem lt_of_blk {w : World} {b : Nat} {o : Obj} (h : w.heap[b]? = some o) : b < w.heap.size := by
 rcases Nat.lt_or_ge b w.heap.size with h' | h'
 ·exact h'
 ·simp [Array.getElem?_eq_none h'] at h
structure Upd (F : List Nat) (w w' : World) : Prop where
 os : w'.os = w.os
 output : w'.output = w.output
 size : w.heap.size ≤ w'.heap.size
 block : ∀ k, k < w.heap.size → k ∉ F → w'.heap[k]? = w.heap[k]?
theorem Upd.refl (F : List Nat) (w : World) : Upd F w w := ⟨rfl, rfl, Nat.le_refl _, fun _ _ _ => rfl⟩
theorem Upd.trans {F : List Nat} {a b c : World} (h : Upd F a b) (g : Upd F b c) : Upd F a c :=
 ⟨g.os.trans h.os, g.output.trans h.output, Nat.le_trans h.size g.size, fun k hk hn => (g.block k (Nat.lt_of_lt_of_le hk h.size) hn).trans (h.block k hk hn)⟩
theorem Upd.next {F G : List Nat} {a b c : World} (h : Upd F a b) (g : Upd G b c) (hs : ∀ k, k ∈ G → k < a.heap.size → k ∈ F) : Upd F a c :=
 ⟨g.os.trans h.os, g.output.trans h.output, Nat.le_trans h.size g.size, fun k hk hn => (g.block k (Nat.lt_of_lt_of_le hk h.size) (fun q => hn (hs k q hk))).trans (h.block k hk hn)⟩
theorem Upd.mono {F G : List Nat} {w w' : World} (h : Upd F w w') (hs : ∀ k, k ∈ F → k < w.heap.size → k ∈ G) : Upd G w w' :=
 ⟨h.os, h.output, h.size, fun k hk hn => h.block k hk (fun hf => hn (hs k hf hk))⟩
theorem Upd.alike {F : List Nat} {w w' w'' : World} (h : Upd F w w') (g : w''.Alike w') : Upd F w w'' :=
 ⟨g.2.1.trans h.os, g.2.2.trans h.output, by rw [g.1]; exact h.size, fun k hk hn => by rw [g.1]; exact h.block k hk hn⟩
theorem Upd.setCell {F : List Nat} {w w' : World} (h : Upd F w w') {b : Nat} (hb : b ∈ F) (o : Nat) (v : Value) : Upd F w (w'.setCell ⟨b, o, none⟩ v) :=
 h.trans ⟨rfl, rfl, by simp, fun k _ hn => by rw [heap_setCell, if_neg (by rintro rfl; exact hn hb)]⟩
theorem Upd.setCellNew {F : List Nat} {w w' : World} (h : Upd F w w') {b : Nat} (hb : w.heap.size ≤ b) (o : Nat) (v : Value) : Upd F w (w'.setCell ⟨b, o, none⟩ v) :=
 ⟨h.os, h.output, by simpa using h.size, fun k hk hn => by rw [heap_setCell, if_neg (by omega)]; exact h.block k hk hn⟩
theorem Upd.alloc {F : List Nat} {w w' : World} (h : Upd F w w') (o : Obj) : Upd F w (w'.alloc o) :=
 h.trans ⟨rfl, rfl, by simp, fun k hk _ => by rw [heap_alloc, if_neg (by omega)]⟩
theorem Upd.drew {F : List Nat} {w w' : World} (h : Upd F w w') : Upd F w w'.drew := ⟨h.os, h.output, h.size, h.block⟩
theorem alike_drew (w : World) : w.drew.Alike w := ⟨rfl, rfl, rfl⟩
theorem alike_refl (w : World) : w.Alike w := ⟨rfl, rfl, rfl⟩
theorem bytes_beq (a b : ByteArray) : (a == b) = decide (a = b) := by
 cases a with | mk a => cases b with | mk b =>
 rw [Bool.eq_iff_iff]
 show ByteArray.beq ⟨a⟩ ⟨b⟩ = true ↔ _
 simp only [ByteArray.beq, decide_eq_true_eq, ByteArray.mk.injEq]
 exact beq_iff_eq
theorem Upd.grown {F : List Nat} {w a b : World} {row : Option Nat} (h : Upd F w a) (hg : a.grownBy b row) (hr : ∀ k, row = some k → w.heap.size ≤ k) : Upd F w b :=
 ⟨hg.os.trans h.os, hg.output.trans h.output, Nat.le_trans h.size hg.size, fun k hk hn => (hg.block k (Nat.lt_of_lt_of_le hk h.size) (fun e => by have := hr k e.symm; omega)).trans (h.block k hk hn)⟩
theorem own_upd {F : List Nat} {w w' : World} {base : Nat} {e : TypeId} {size : Nat} {v : Value} {n : Nat} {xs : List Value} (h : w.ownsRow base e size v n xs) (u : Upd F w w') (hF : ∀ k ∈ F, v.ownBlock ≠ some k) : w'.ownsRow base e size v n xs := by
 have hlt := h.lt
 obtain ⟨h1, h2⟩ := h
 refine ⟨h1, ?_⟩
 rcases h2 with h2 | ⟨g, cap, cur, hv, hg, hh, r⟩
 ·exact Or.inl h2
 ·subst hv
  have := (hlt g rfl).2
  exact Or.inr ⟨g, cap, cur, rfl, hg, by rw [u.block g this (fun q => hF g q rfl)]; exact hh, r⟩
theorem Upd.below {F : List Nat} {w a b : World} (h : Upd F w a) {B : Nat} (g : Below B a b) (hB : w.heap.size ≤ B) : Upd F w b :=
 ⟨g.os.trans h.os, g.output.trans h.output, Nat.le_trans h.size g.size, fun k hk hn => (g.block k (Nat.lt_of_lt_of_le hk hB)).trans (h.block k hk hn)⟩
theorem cell_keep {w w' : World} (u : Upd [] w w') {b o : Nat} {v : Value} (h : w.cell? ⟨b, o, none⟩ = some v) : w'.cell? ⟨b, o, none⟩ = some v :=
 (World.cell?_of_block (u.block b (World.block_lt_of_cell? _ _ h) (by simp))).trans h
def SlAt {α : Type} (k : Nat) (At : World → Nat → Nat → α → Prop) (w : World) (v : Value) (l : List α) : Prop :=
 ∃ a cap, v = .slice a l.length cap ∧ l.length ≤ cap ∧ cap ≤ maxLen ∧ ∀ i (h : i < l.length), ∃ b off, a = some ⟨b, off, none⟩ ∧ At w b (off + i * k) l[i]
theorem SlAt.keep {α : Type} {k : Nat} {At : World → Nat → Nat → α → Prop} {w w' : World} (hA : ∀ b o x, At w b o x → At w' b o x) {v : Value} {l : List α} (h : SlAt k At w v l) : SlAt k At w' v l := by
 obtain ⟨a, cap, hv, h1, h2, h3⟩ := h
 exact ⟨a, cap, hv, h1, h2, fun i hi => by obtain ⟨b, off, e, hc⟩ := h3 i hi; exact ⟨b, off, e, hA _ _ _ hc⟩⟩
section
variable {α : Type}
def flatG (f : α → List Value) (l : List α) : List Value := l.flatMap f
structure RowT (f : α → List Value) (k bytes : Nat) (st e : TypeId) : Prop where
 len : ∀ x, (f x).length = k
 pos : 0 < k
 und : Tryz.prog.underlying st = some (.slice e)
 info : ∃ i z, Tryz.prog.info? e = some i ∧ i.zero = some z ∧ i.size = k ∧ i.bytes = bytes ∧ z.cells.size = k
variable {f : α → List Value} {k bytes : Nat} {st e : TypeId}
theorem flatG_len (T : RowT f k bytes st e) (l : List α) : (flatG f l).length = l.length * k := by
 induction l with
 | nil => simp [flatG]
 | cons x l ih =>
  simp only [flatG, List.flatMap_cons, List.length_append, List.length_cons] at ih ⊢
  rw [ih, T.len, Nat.add_mul]
  omega
theorem flatG_app (l r : List α) : flatG f (l ++ r) = flatG f l ++ flatG f r := by simp [flatG]
theorem flatG_one {l : List α} (h : ∀ x ∈ l, ∀ u ∈ f x, u.oneCell' = true) : ∀ u ∈ flatG f l, u.oneCell' = true := by
 intro u hu
 obtain ⟨x, hx, hu⟩ := List.mem_flatMap.1 hu
 exact h x hx u hu
theorem flatG_at (T : RowT f k bytes st e) : ∀ (l : List α) (i : Nat) (hi : i < l.length) (j : Nat), j < k → (flatG f l)[i * k + j]? = (f l[i])[j]? := by
 intro l
 induction l with
 | nil => intro i hi; simp at hi
 | cons x l ih =>
  intro i hi j hj
  have e0 : flatG f (x :: l) = f x ++ flatG f l := rfl
  rw [e0]
  cases i with
  | zero =>
   rw [List.getElem?_append_left (by rw [T.len]; omega)]
   simp
  | succ i =>
   have h := ih i (by simpa using hi) j hj
   rw [List.getElem?_append_right (by rw [T.len, Nat.succ_mul]; omega), T.len]
   simp only [List.getElem_cons_succ]
   rw [← h]
   congr 1
   rw [Nat.succ_mul]
   omega
def CellsAt (f : α → List Value) (w : World) (b o : Nat) (x : α) : Prop := ∀ j u, (f x)[j]? = some u → w.cell? ⟨b, o + j, none⟩ = some u
theorem CellsAt.same {w w' : World} {b o : Nat} {x : α} (h : CellsAt f w b o x) (e : w'.heap[b]? = w.heap[b]?) : CellsAt f w' b o x := fun j u hu => (World.cell?_of_block e).trans (h j u hu)
def SrcG (f : α → List Value) (w : World) (A : Option Addr) (r : List α) : Prop := (A = none → r = []) ∧ ∀ ad, A = some ad → ∀ j u, (flatG f r)[j]? = some u → w.cell? (ad.add j) = some u
theorem add_plainG (b o j : Nat) : (⟨b, o, none⟩ : Addr).add j = ⟨b, o + j, none⟩ := by
 unfold Addr.add
 split
 ·subst_vars; rfl
 ·rfl
def OwnG (f : α → List Value) (e : TypeId) (k : Nat) (w : World) (base : Nat) (v : Value) (l : List α) : Prop := w.ownsRow base e k v l.length (flatG f l)
theorem OwnG.nil (w : World) (base : Nat) : OwnG f e k w base (.slice none 0 0) [] := World.ownsRow_nil _ _ _ _
theorem OwnG.empty (_T : RowT f k bytes st e) {w : World} {B base : Nat} (hB : w.heap[B]? = some (.cells #[] e (0, 0))) (hb : base ≤ B) : OwnG f e k w base (.slice (some ⟨B, 0, none⟩) 0 0) [] :=
 ⟨by simp [flatG], .inr ⟨B, 0, #[], rfl, hb, hB, Nat.le_refl _, by unfold maxLen; omega, by simp, by simp [flatG]⟩⟩
theorem append_G (T : RowT f k bytes st e) {w : World} {base : Nat} {v : Value} {l : List α} (hown : OwnG f e k w base v l) {A : Option Addr} (c : Nat) {r : List α} (hr : SrcG f w A r) (hs : ∀ x ∈ r, ∀ u ∈ f x, u.oneCell' = true) (hb : (l.length + r.length) * bytes ≤ 140737488355328) (h63 : l.length + r.length ≤ 140737488355328) (hbase : base ≤ w.heap.size) (ty : TypeId) :
  ∃ v' w', (Builtin.append_ #[st, st] ty #[v, .slice A r.length c]).run Tryz.prog w = .ok v' w' ∧ OwnG f e k w' base v' (l ++ r) ∧ w.grownBy w' v.ownBlock ∧ (v'.ownBlock = v.ownBlock ∨ ∀ g, v'.ownBlock = some g → w.heap.size ≤ g) := by
 obtain ⟨i0, z, hi0, hz0, hz1, hz2, hz3⟩ := T.info
 rcases A with _ | ad
 ·obtain rfl := hr.1 rfl
  refine ⟨v, w, ?_, by simpa [OwnG] using hown, World.grownBy.refl w _, Or.inl rfl⟩
  rcases hown.2 with ⟨rfl, hn⟩ | ⟨g, cap, cur, rfl, _, _, hnc, _⟩
  ·simp [Builtin.append_, run_underlying T.und, sizeOf, typeInfo, hi0, Builtin.lenOf, Builtin.firstCells]
  ·simp [Builtin.append_, run_underlying T.und, sizeOf, typeInfo, hi0, Builtin.lenOf, Builtin.firstCells, hnc, storeCells]
 ·obtain ⟨v', w', hrun, h2, h3, _, h5⟩ := run_append_own_at (P := Tryz.prog) w base st ty e i0 z k bytes T.und hi0 hz0 hz1 hz2 hz3 T.pos v l.length (flatG f l) hown ad r.length c (flatG f r) (flatG_len T r) (hr.2 ad rfl) (flatG_one hs) (by unfold maxLen; omega) hb hbase
  refine ⟨v', w', hrun, by unfold OwnG; rw [flatG_app, List.length_append]; exact h2, h3, ?_⟩
  rcases h5 with h5 | h5
  ·exact Or.inl h5
  ·exact Or.inr fun g hg => by rw [h5] at hg; cases hg; exact Nat.le_refl _
theorem wpList_append_G (T : RowT f k bytes st e) {w : World} {ops : Array Oper} {rest : List Oper} {o : Oper} {a : Act} {Q : Exit → Act → World → Prop} (hgd : o.guard = none) (s x : Operand)
  (ho : o.op = .call { callee := .builtin .append, args := #[s, x], argTypes := #[st, st] }) {base : Nat} {v : Value} {l : List α} (hs : a.eval s = v) (hown : OwnG f e k w base v l)
  {A : Option Addr} {c : Nat} {r : List α} (hx : a.eval x = .slice A r.length c) (hr : SrcG f w A r) (hsl : ∀ x ∈ r, ∀ u ∈ f x, u.oneCell' = true) (hb : (l.length + r.length) * bytes ≤ 140737488355328) (h63 : l.length + r.length ≤ 140737488355328) (hbase : base ≤ w.heap.size)
  (h : ∀ v' w', OwnG f e k w' base v' (l ++ r) → w.grownBy w' v.ownBlock → (v'.ownBlock = v.ownBlock ∨ ∀ g, v'.ownBlock = some g → w.heap.size ≤ g) → wpList Tryz.prog ops Q rest (a.put o.dst v') w') : wpList Tryz.prog ops Q (o :: rest) a w :=
 wpList_plain hgd fun K hK => by
  obtain ⟨v', w', hrun, h2, h3, h4⟩ := append_G T hown c hr hsl hb h63 hbase o.type
  unfold Oper.wp execOp
  simp only [ho, resolve, invoke, builtin, Sem.run_bind, Sem.run_pure, Result.andThen_ok, List.map_toArray, List.map_cons, List.map_nil, hs, hx, hrun]
  exact hK _ _ (h v' w' h2 h3 h4)
theorem OwnG.slice {w : World} {base : Nat} {v : Value} {l : List α} (h : OwnG f e k w base v l) : ∃ a c, v = .slice a l.length c := by
 rcases h.2 with ⟨rfl, hn⟩ | ⟨g, cap, cur, rfl, -⟩
 ·exact ⟨none, 0, by rw [hn]⟩
 ·exact ⟨_, _, rfl⟩
theorem OwnG.src (T : RowT f k bytes st e) {w : World} {base : Nat} {a : Option Addr} {n c : Nat} {l : List α} (h : OwnG f e k w base (.slice a n c) l) : SrcG f w a l := by
 obtain ⟨h0, h2⟩ := h
 rcases h2 with ⟨hv, hn⟩ | ⟨g, cap, cur, hv, hg, hh, r1, r2, r3, r4⟩
 ·have : l = [] := List.eq_nil_of_length_eq_zero hn
  subst this
  exact ⟨fun _ => rfl, fun ad _ j u hu => by simp [flatG] at hu⟩
 ·simp only [Value.slice.injEq] at hv
  obtain ⟨rfl, -, -⟩ := hv
  refine ⟨fun q => absurd q (by simp), fun ad q j u hu => ?_⟩
  cases q
  have hj : j < l.length * k := by
   rcases Nat.lt_or_ge j (l.length * k) with h | h
   ·exact h
   ·rw [List.getElem?_eq_none (by rw [flatG_len T]; exact h)] at hu; cases hu
  rw [add_plainG, cell_blk hh, Nat.zero_add, ← Array.getElem?_toList]
  have : (cur.toList.take (l.length * k))[j]? = (flatG f l)[j]? := by rw [r4]
  rw [List.getElem?_take_of_lt hj] at this
  rw [this]
  exact hu
theorem OwnG.at (T : RowT f k bytes st e) {w : World} {base : Nat} {a : Option Addr} {n c : Nat} {l : List α} (h : OwnG f e k w base (.slice a n c) l) : n = l.length ∧ n ≤ c ∧ c ≤ maxLen ∧ ∀ i (_ : i < l.length), ∃ g, a = some ⟨g, 0, none⟩ ∧ base ≤ g ∧ (∀ o, w.frozen? ⟨g, o, none⟩ = false) ∧ CellsAt f w g (i * k) l[i] := by
 have hs := h.src T
 obtain ⟨h0, h2⟩ := h
 rcases h2 with ⟨hv, hn⟩ | ⟨g, cap, cur, hv, hg, hh, r1, r2, r3, r4⟩
 ·have : l = [] := List.eq_nil_of_length_eq_zero hn
  subst this
  simp only [Value.slice.injEq] at hv
  obtain ⟨-, rfl, rfl⟩ := hv
  exact ⟨rfl, by omega, by unfold maxLen; omega, fun i hi => absurd hi (by simp)⟩
 ·simp only [Value.slice.injEq] at hv
  obtain ⟨rfl, rfl, rfl⟩ := hv
  refine ⟨rfl, r1, r2, fun i hi => ⟨g, rfl, hg, frozen_blk hh, fun j u hu => ?_⟩⟩
  have hj : j < k := by
   rcases Nat.lt_or_ge j k with h | h
   ·exact h
   ·rw [List.getElem?_eq_none (by rw [T.len]; exact h)] at hu; cases hu
  have := hs.2 ⟨g, 0, none⟩ rfl (i * k + j) u (by rw [flatG_at T l i hi j hj]; exact hu)
  rwa [add_plainG, Nat.zero_add] at this
theorem OwnG.base {w : World} {a b : Nat} {v : Value} {l : List α} (h : OwnG f e k w a v l) (hb : b ≤ a) : OwnG f e k w b v l := by
 obtain ⟨h1, h2⟩ := h
 refine ⟨h1, ?_⟩
 rcases h2 with h2 | ⟨g, cap, cur, e, hge, r⟩
 ·exact .inl h2
 ·exact .inr ⟨g, cap, cur, e, Nat.le_trans hb hge, r⟩
theorem OwnG.upd {F : List Nat} {w w' : World} {base : Nat} {v : Value} {l : List α} (h : OwnG f e k w base v l) (u : Upd F w w') (hF : ∀ j ∈ F, v.ownBlock ≠ some j) : OwnG f e k w' base v l := own_upd h u hF
theorem OwnG.sl (T : RowT f k bytes st e) {w : World} {base : Nat} {v : Value} {l : List α} (h : OwnG f e k w base v l) : SlAt k (CellsAt f) w v l := by
 obtain ⟨a, c, rfl⟩ := h.slice
 obtain ⟨-, h1, h2, h3⟩ := h.at T
 exact ⟨a, c, rfl, h1, h2, fun i hi => by obtain ⟨g, e, -, -, hc⟩ := h3 i hi; exact ⟨g, 0, e, by rw [Nat.zero_add]; exact hc⟩⟩
theorem OwnG.block {w : World} {base : Nat} {v : Value} {l : List α} (h : OwnG f e k w base v l) : ∀ g, v.ownBlock = some g → base ≤ g ∧ g < w.heap.size := fun g hg => World.ownsRow.lt h g hg
theorem SlAt.srcG (T : RowT f k bytes st e) {At : World → Nat → Nat → α → Prop} {w : World} {a : Option Addr} {n cap : Nat} {l : List α} (hA : ∀ b o x, At w b o x → CellsAt f w b o x) (h : SlAt k At w (.slice a n cap) l) : SrcG f w a l := by
 obtain ⟨a', cap', hv, h1, h2, h3⟩ := h
 simp only [Value.slice.injEq] at hv
 obtain ⟨rfl, rfl, rfl⟩ := hv
 refine ⟨fun q => ?_, fun ad q j u hu => ?_⟩
 ·cases l with
  | nil => rfl
  | cons x l => obtain ⟨b, off, e, _⟩ := h3 0 (by simp); rw [q] at e; cases e
 ·have hj : j < l.length * k := by
   rcases Nat.lt_or_ge j (l.length * k) with h | h
   ·exact h
   ·rw [List.getElem?_eq_none (by rw [flatG_len T]; exact h)] at hu; cases hu
  have hk := T.pos
  have hi : j / k < l.length := Nat.div_lt_of_lt_mul (by rw [Nat.mul_comm]; exact hj)
  obtain ⟨b, off, e, hx⟩ := h3 (j / k) hi
  rw [q] at e
  cases e
  have hm : j % k < k := Nat.mod_lt _ hk
  have e2 : j / k * k + j % k = j := by rw [Nat.mul_comm]; exact Nat.div_add_mod j k
  rw [add_plainG]
  have := hA _ _ _ hx (j % k) u (by rw [← flatG_at T l (j / k) hi (j % k) hm, e2]; exact hu)
  rw [Nat.add_assoc, e2] at this
  exact this
end
end Go.Proofs.YteepgehjkcahiaaGreat

namespace Go.Proofs.YteepgehjkcahiaaGreat.Bc
open Go.RowKit
def pt (o : Option Nat) : Value := .pointer (o.map fun b => ⟨b, 0, none⟩)
structure It (κ ν : Type) where
 k : κ
 v : ν
 d : Bool
 p : Nat
structure Nd (κ ν : Type) where
 a : Nat
 it : It κ ν
structure Cfg (κ ν : Type) where
 ek : κ → Value
 ev : ν → Value
 tc : TypeId
 ti : TypeId
section
variable {κ ν : Type} (C : Cfg κ ν)
def nodeObj (x : It κ ν) (prev next : Option Nat) : Obj := .cells #[C.ek x.k, C.ev x.v, .bool x.d, .int .i64 x.p, pt prev, pt next] C.ti (0, 0)
def cacheObj (most : Int) (m : Nat) (oldest first : Option Nat) : Obj := .cells #[.int .i64 most, .map (some m), pt oldest, pt first] C.tc (0, 0)
def hd : List (Nd κ ν) → Option Nat → Option Nat
 | [], q => q
 | n :: _, _ => some n.a
def lst : List (Nd κ ν) → Option Nat → Option Nat
 | [], p => p
 | n :: r, _ => lst r (some n.a)
def Chain (H : Nat → Option Obj) : Option Nat → List (Nd κ ν) → Option Nat → Prop
 | _, [], _ => True
 | p, n :: r, q => H n.a = some (nodeObj C n.it p (hd r q)) ∧ Chain H (some n.a) r q
theorem hd_app (l r : List (Nd κ ν)) (q : Option Nat) : hd (l ++ r) q = hd l (hd r q) := by cases l <;> rfl
theorem lst_app (l r : List (Nd κ ν)) (p : Option Nat) : lst (l ++ r) p = lst r (lst l p) := by
 induction l generalizing p with
 | nil => rfl
 | cons n l ih => exact ih _
theorem chain_app (H : Nat → Option Obj) (p : Option Nat) (l r : List (Nd κ ν)) (q : Option Nat) :
  Chain C H p (l ++ r) q ↔ Chain C H p l (hd r q) ∧ Chain C H (lst l p) r q := by
 induction l generalizing p with
 | nil => simp [Chain, lst]
 | cons n l ih => simp [Chain, lst, hd_app, ih, and_assoc]
theorem chain_congr {H H' : Nat → Option Obj} {p : Option Nat} {l : List (Nd κ ν)} {q : Option Nat} (h : ∀ n ∈ l, H' n.a = H n.a) (hc : Chain C H p l q) : Chain C H' p l q := by
 induction l generalizing p with
 | nil => trivial
 | cons n l ih =>
  obtain ⟨h1, h2⟩ := hc
  exact ⟨by rw [h n (by simp)]; exact h1, ih (fun x hx => h x (by simp [hx])) h2⟩
theorem chain_at {H : Nat → Option Obj} {p : Option Nat} {l : List (Nd κ ν)} {q : Option Nat} (hc : Chain C H p l q) {n : Nd κ ν} (hn : n ∈ l) : ∃ a b, H n.a = some (nodeObj C n.it a b) := by
 induction l generalizing p with
 | nil => simp at hn
 | cons x l ih =>
  obtain ⟨h1, h2⟩ := hc
  rcases List.mem_cons.1 hn with rfl | hn
  ·exact ⟨_, _, h1⟩
  ·exact ih h2 hn
structure Lay (w : World) (c m : Nat) (most : Int) (l : List (Nd κ ν)) : Prop where
 cache : w.heap[c]? = some (cacheObj C most m (hd l none) (lst l none))
 chain : Chain C (fun k => w.heap[k]?) none l none
 nodup : (c :: m :: l.map (·.a)).Nodup
abbrev foot (c m : Nat) (l : List (Nd κ ν)) : List Nat := c :: m :: l.map (·.a)
theorem Lay.congr {w w' : World} {c m : Nat} {most : Int} {l : List (Nd κ ν)} (h : Lay C w c m most l) (hh : ∀ k ∈ foot c m l, w'.heap[k]? = w.heap[k]?) : Lay C w' c m most l :=
 ⟨by rw [hh c (by simp)]; exact h.cache, chain_congr C (fun n hn => hh n.a (by simp; right; right; exact ⟨n, hn, rfl⟩)) h.chain, h.nodup⟩
theorem Lay.alike {w w' : World} {c m : Nat} {most : Int} {l : List (Nd κ ν)} (h : Lay C w c m most l) (g : w'.Alike w) : Lay C w' c m most l :=
 h.congr C (fun k _ => by rw [g.1])
theorem Lay.lt {w : World} {c m : Nat} {most : Int} {l : List (Nd κ ν)} (h : Lay C w c m most l) {n : Nd κ ν} (hn : n ∈ l) : n.a < w.heap.size := by
 obtain ⟨a, b, hb⟩ := chain_at C h.chain hn
 exact lt_of_blk hb
end
section
variable {κ ν : Type} (C : Cfg κ ν)
theorem hd_nil (q : Option Nat) : hd ([] : List (Nd κ ν)) q = q := rfl
theorem hd_cons (n : Nd κ ν) (r : List (Nd κ ν)) (q : Option Nat) : hd (n :: r) q = some n.a := rfl
theorem lst_nil (q : Option Nat) : lst ([] : List (Nd κ ν)) q = q := rfl
theorem lst_cons (n : Nd κ ν) (r : List (Nd κ ν)) (q : Option Nat) : lst (n :: r) q = lst r (some n.a) := rfl
def unlinkW (w : World) (c x : Nat) (prev next : Option Nat) : World :=
 let w1 := match prev with | some y => w.setCell ⟨y, 5, none⟩ (pt next) | none => w.setCell ⟨c, 2, none⟩ (pt next)
 let w2 := match next with | some z => w1.setCell ⟨z, 4, none⟩ (pt prev) | none => w1.setCell ⟨c, 3, none⟩ (pt prev)
 (w2.setCell ⟨x, 4, none⟩ (pt none)).setCell ⟨x, 5, none⟩ (pt none)
theorem put_node4 (x : It κ ν) (a b : Option Nat) (u : Option Nat) : Obj.put 4 (pt u) (nodeObj C x a b) = nodeObj C x u b := rfl
theorem put_node5 (x : It κ ν) (a b : Option Nat) (u : Option Nat) : Obj.put 5 (pt u) (nodeObj C x a b) = nodeObj C x a u := rfl
theorem put_cache2 (most : Int) (m : Nat) (a b u : Option Nat) : Obj.put 2 (pt u) (cacheObj C most m a b) = cacheObj C most m u b := rfl
theorem put_cache3 (most : Int) (m : Nat) (a b u : Option Nat) : Obj.put 3 (pt u) (cacheObj C most m a b) = cacheObj C most m a u := rfl
theorem lay_unlink {w w' : World} {c m : Nat} {most : Int} {l1 l2 : List (Nd κ ν)} {x : Nd κ ν} (h : Lay C w c m most (l1 ++ x :: l2))
  (hw : w'.Alike (unlinkW w c x.a (lst l1 none) (hd l2 none))) :
  Lay C w' c m most (l1 ++ l2) ∧ w'.heap[x.a]? = some (nodeObj C x.it none none) ∧ Upd (c :: (l1 ++ x :: l2).map (·.a)) w w' := by
 obtain ⟨h1, h2, h3⟩ := h
 have hnd : (c :: m :: (l1 ++ l2).map (·.a)).Nodup := h3.sublist (by simp)
 rw [chain_app] at h2
 obtain ⟨h2, h4, h5⟩ := h2
 rcases List.eq_nil_or_concat l1 with rfl | ⟨l1, y, rfl⟩
 ·rcases l2 with _ | ⟨z, l2⟩
  ·simp [unlinkW, lst_nil, lst_cons, hd_nil, hd_cons] at hw h1 h3 h4 ⊢
   have hh := hw.1
   refine ⟨⟨?_, trivial, ?_⟩, ?_, ?_⟩
   ·rw [hh]; simp [heap_setCell, h1, h3, put_cache2, put_cache3, hd_nil, lst_nil]
   ·simp; exact h3.1.1
   ·rw [hh]; simp [heap_setCell, h4, put_node4, put_node5, Ne.symm h3.1.2]
   ·exact ((((Upd.refl _ _).setCell (by simp) _ _).setCell (by simp) _ _).setCell (by simp) _ _ |>.setCell (by simp) _ _).alike hw
  ·obtain ⟨h5, h6⟩ := h5
   simp [unlinkW, lst_nil, lst_cons, hd_cons] at hw h1 h3 h4 h5 h6 ⊢
   have hh := hw.1
   obtain ⟨⟨n1, n2, n3, n4⟩, ⟨n5, n6, n7⟩, ⟨n8, n9⟩, n10, n11⟩ := h3
   refine ⟨⟨?_, ⟨?_, ?_⟩, ?_⟩, ?_, ?_⟩
   ·rw [hh]; simp [heap_setCell, h1, n2, n3, put_cache2, hd_cons, lst_cons]
   ·simp only [hh]; simp [heap_setCell, h5, Ne.symm n3, Ne.symm n8, put_node4]
   ·refine chain_congr C (fun n hn => ?_) h6
    have q1 := n4 n hn; have q2 := n7 n hn; have q3 := n9 n hn; have q4 := n10 n hn
    simp only [hh]; simp [heap_setCell, q1, q3, q4]
   ·simp; exact ⟨⟨n1, n3, n4⟩, ⟨n6, n7⟩, n10, n11⟩
   ·rw [hh]; simp [heap_setCell, h4, put_node4, put_node5, n8, Ne.symm n2]
   ·exact ((((Upd.refl _ _).setCell (by simp) _ _).setCell (by simp) _ _).setCell (by simp) _ _ |>.setCell (by simp) _ _).alike hw
 ·simp only [List.concat_eq_append, List.append_assoc] at *
  rw [chain_app] at h2
  obtain ⟨h2, h7, _⟩ := h2
  rcases l2 with _ | ⟨z, l2⟩
  ·simp [unlinkW, lst_nil, lst_cons, hd_nil, hd_cons, lst_app, hd_app, List.nodup_append] at hw h1 h2 h3 h4 h5 h7 ⊢
   have hh := hw.1
   obtain ⟨⟨n1, n2, n3, n4⟩, ⟨n5, n6, n7⟩, n8, n9, n10⟩ := h3
   refine ⟨⟨?_, (chain_app ..).2 ⟨?_, ?_, trivial⟩, ?_⟩, ?_, ?_⟩
   ·rw [hh]; simp [heap_setCell, h1, n3, n4, put_cache3, hd_app, hd_cons, lst_app, lst_cons, lst_nil]
   ·refine chain_congr C (fun n hn => ?_) h2
    have q1 := n2 n hn; have q2 := n10 n hn
    simp only [hh]; simp [heap_setCell, q1, q2.1, q2.2]
   ·simp only [hh]; simp [heap_setCell, h7, Ne.symm n3, n9, put_node5, hd_nil]
   ·simpa using hnd
   ·rw [hh]; simp [heap_setCell, h4, put_node4, put_node5, Ne.symm n9, Ne.symm n4]
   ·exact ((((Upd.refl _ _).setCell (by simp) _ _).setCell (by simp) _ _).setCell (by simp) _ _ |>.setCell (by simp) _ _).alike hw
  ·obtain ⟨h5, h6⟩ := h5
   simp [unlinkW, lst_nil, lst_cons, hd_nil, hd_cons, lst_app, hd_app, List.nodup_append] at hw h1 h2 h3 h4 h5 h6 h7 ⊢
   have hh := hw.1
   obtain ⟨⟨n1, n2, n3, n4, n5, n6⟩, ⟨n7, n8, n9, n10, n11⟩, n12, ⟨⟨n13, n14, n15⟩, ⟨n16, n17⟩, n18, n19⟩, n20⟩ := h3
   refine ⟨⟨?_, (chain_app ..).2 ⟨?_, ?_, ?_, ?_⟩, ?_⟩, ?_, ?_⟩
   ·rw [hh]; simp [heap_setCell, h1, n3, n4, n5, hd_app, hd_cons, lst_app, lst_cons]
   ·refine chain_congr C (fun n hn => ?_) h2
    have q1 := n2 n hn; have q2 := n20 n hn
    simp only [hh]; simp [heap_setCell, q2.1, q2.2.1, q2.2.2.1]
   ·simp only [hh]; simp [heap_setCell, h7, n13, n14, put_node5, hd_cons]
   ·simp only [hh]; simp [heap_setCell, h5, Ne.symm n14, Ne.symm n16, put_node4]
   ·refine chain_congr C (fun n hn => ?_) h6
    have q1 := n15 n hn; have q2 := n17 n hn; have q3 := n18 n hn
    simp only [hh]; simp [heap_setCell, q1, q2, q3]
   ·simpa using hnd
   ·rw [hh]; simp [heap_setCell, h4, put_node4, put_node5, Ne.symm n13, n16]
   ·exact ((((Upd.refl _ _).setCell (by simp) _ _).setCell (by simp) _ _).setCell (by simp) _ _ |>.setCell (by simp) _ _).alike hw
def linkW (w : World) (c x : Nat) (last : Option Nat) : World :=
 let w1 := w.setCell ⟨x, 4, none⟩ (pt last)
 let w2 := match last with | some y => w1.setCell ⟨y, 5, none⟩ (pt (some x)) | none => w1.setCell ⟨c, 2, none⟩ (pt (some x))
 w2.setCell ⟨c, 3, none⟩ (pt (some x))
theorem lay_link {w w' : World} {c m : Nat} {most : Int} {l : List (Nd κ ν)} {x : Nd κ ν} (h : Lay C w c m most l) (hx : w.heap[x.a]? = some (nodeObj C x.it none none))
  (hnd : (c :: m :: (l ++ [x]).map (·.a)).Nodup) (hw : w'.Alike (linkW w c x.a (lst l none))) :
  Lay C w' c m most (l ++ [x]) ∧ Upd (c :: (l ++ [x]).map (·.a)) w w' := by
 obtain ⟨h1, h2, h3⟩ := h
 have hnd' := hnd
 rcases List.eq_nil_or_concat l with rfl | ⟨l1, y, rfl⟩
 ·simp [linkW, lst_nil, hd_nil] at hw h1 hnd ⊢
  have hh := hw.1
  refine ⟨⟨?_, ⟨?_, trivial⟩, by simpa using hnd'⟩, ?_⟩
  ·rw [hh]; simp [heap_setCell, h1, hnd, put_cache2, put_cache3, hd_cons, lst_nil, lst_cons]
  ·simp only [hh]; simp [heap_setCell, hx, Ne.symm hnd.1.2, put_node4, hd_nil]
  ·exact ((((Upd.refl _ _).setCell (by simp) _ _).setCell (by simp) _ _).setCell (by simp) _ _).alike hw
 ·simp only [List.concat_eq_append] at *
  rw [chain_app] at h2
  obtain ⟨h2, h7, _⟩ := h2
  simp [linkW, lst_nil, lst_cons, hd_nil, hd_cons, lst_app, hd_app, List.nodup_append] at hw h1 h2 h7 hnd ⊢
  have hh := hw.1
  obtain ⟨⟨n1, n2, n3, n4⟩, ⟨n5, n6, n7⟩, n8, n9, n10⟩ := hnd
  refine ⟨⟨?_, (chain_app ..).2 ⟨?_, ?_, ?_, trivial⟩, by simpa using hnd'⟩, ?_⟩
  ·rw [hh]; simp [heap_setCell, h1, n3, n4, put_cache3, hd_app, hd_cons, lst_app, lst_cons, lst_nil]
  ·refine chain_congr C (fun n hn => ?_) h2
   have q1 := n2 n hn; have q2 := n10 n hn
   simp only [hh]; simp [heap_setCell, q1, q2.1, q2.2]
  ·simp only [hh]; simp [heap_setCell, h7, n9, Ne.symm n3, put_node5, hd_cons]
  ·simp only [hh]; simp [heap_setCell, hx, Ne.symm n9, Ne.symm n4, put_node4, hd_nil]
  ·exact ((((Upd.refl _ _).setCell (by simp) _ _).setCell (by simp) _ _).setCell (by simp) _ _).alike hw
end
section
variable {κ ν : Type} (C : Cfg κ ν)
def MapRep (es : Array MapEntry) (l : List (Nd κ ν)) : Prop := (es.toList.map fun e => (e.key, e.val)).Perm (l.map fun n => (C.ek n.it.k, pt (some n.a)))
theorem mapRep_mem {es : Array MapEntry} {l : List (Nd κ ν)} (h : MapRep C es l) {e : MapEntry} (he : e ∈ es.toList) : ∃ n ∈ l, e.key = C.ek n.it.k ∧ e.val = pt (some n.a) := by
 have : (e.key, e.val) ∈ l.map fun n => (C.ek n.it.k, pt (some n.a)) := h.mem_iff.1 (List.mem_map.2 ⟨e, he, rfl⟩)
 obtain ⟨n, hn, hq⟩ := List.mem_map.1 this
 simp only [Prod.mk.injEq] at hq
 exact ⟨n, hn, hq.1.symm, hq.2.symm⟩
theorem mapRep_size {es : Array MapEntry} {l : List (Nd κ ν)} (h : MapRep C es l) : es.size = l.length := by
 have := h.length_eq; simpa using this
theorem mapRep_push {es : Array MapEntry} {l : List (Nd κ ν)} (h : MapRep C es l) (x : Nd κ ν) (b : Nat) : MapRep C (es.push { key := C.ek x.it.k, val := pt (some x.a), born := b }) (l ++ [x]) := by
 unfold MapRep at *
 simp only [Array.toList_push, List.map_append, List.map_cons, List.map_nil]
 exact h.append_right _
end
section
variable {κ ν : Type} [DecidableEq κ] (C : Cfg κ ν)
structure Keys (P : Program) (K : TypeId) : Prop where
 plain : P.underlying K = some (.int .i64) ∨ P.underlying K = some .string
 same : ∀ D, P.underlying K = some D → ∀ a b : κ, Instr.sameNow D (C.ek a) (C.ek b) = some (decide (a = b))
 bits : ∀ a : κ, Instr.sameBits 10000 (C.ek a) (C.ek a) = true
theorem run_check {P : Program} {K : TypeId} (hK : P.underlying K = some (.int .i64) ∨ P.underlying K = some .string) (w : World) (e : Bool) (v : Value) : (Instr.checkKey e 10000 K v).run P w = .ok () w := by
 unfold Instr.checkKey
 rcases hK with h | h <;> simp [run_underlying h]
theorem findNow_miss {D : TypeDesc} (hS : ∀ a b : κ, Instr.sameNow D (C.ek a) (C.ek b) = some (decide (a = b))) (k : κ) : ∀ (es : List MapEntry) (i : Nat), (∀ e ∈ es, ∃ k', e.key = C.ek k' ∧ k' ≠ k) →
  Instr.findNow D (C.ek k) es i = some none := by
 intro es
 induction es with
 | nil => intro i _; rfl
 | cons e es ih =>
  intro i h
  obtain ⟨k', h1, h2⟩ := h e (by simp)
  simp only [Instr.findNow, h1, hS, decide_eq_false (fun (q : k = k') => h2 q.symm)]
  exact ih _ (fun x hx => h x (by simp [hx]))
theorem findNow_hit {D : TypeDesc} (hS : ∀ a b : κ, Instr.sameNow D (C.ek a) (C.ek b) = some (decide (a = b))) (k : κ) : ∀ (es : List MapEntry) (i : Nat), (∀ e ∈ es, ∃ k', e.key = C.ek k') → (∃ e ∈ es, e.key = C.ek k) →
  ∃ j e, es[j]? = some e ∧ e.key = C.ek k ∧ Instr.findNow D (C.ek k) es i = some (some (i + j, e.val)) := by
 intro es
 induction es with
 | nil => intro i _ h; obtain ⟨e, he, _⟩ := h; simp at he
 | cons e es ih =>
  intro i h hx
  obtain ⟨k', h1⟩ := h e (by simp)
  by_cases hk : k = k'
  ·subst hk
   exact ⟨0, e, rfl, h1, by simp [Instr.findNow, h1, hS]⟩
  ·have hx' : ∃ e ∈ es, e.key = C.ek k := by
    obtain ⟨x, hx1, hx2⟩ := hx
    rcases List.mem_cons.1 hx1 with rfl | hx1
    ·rw [h1] at hx2
     have := hS k k'; rw [hx2, hS k k] at this; simp [hk] at this
    ·exact ⟨x, hx1, hx2⟩
   obtain ⟨j, e', g1, g2, g3⟩ := ih (i + 1) (fun x hx => h x (by simp [hx])) hx'
   exact ⟨j + 1, e', by simpa using g1, g2, by simp [Instr.findNow, h1, hS, hk, g3]; omega⟩
variable {P : Program} {K : TypeId} (HK : Keys C P K)
include HK
theorem find_miss {es : Array MapEntry} {l : List (Nd κ ν)} (h : MapRep C es l) {k : κ} (hk : ∀ n ∈ l, n.it.k ≠ k) (w : World) : (Instr.findKey K (C.ek k) es.toList).run P w = .ok none w := by
 have hex : ∃ D, P.underlying K = some D := by rcases HK.plain with h | h <;> exact ⟨_, h⟩
 obtain ⟨D, hD⟩ := hex
 have := findNow_miss C (HK.same D hD) k es.toList 0 (fun e he => by obtain ⟨n, hn, h1, _⟩ := mapRep_mem C h he; exact ⟨_, h1, hk n hn⟩)
 simp [Instr.findKey, run_underlying hD, this]
theorem ek_inj {a b : κ} (h : C.ek a = C.ek b) : a = b := by
 have hex : ∃ D, P.underlying K = some D := by rcases HK.plain with h | h <;> exact ⟨_, h⟩
 obtain ⟨D, hD⟩ := hex
 have h1 := HK.same D hD a b
 rw [← h, HK.same D hD a a] at h1
 simpa using h1
theorem find_hit {es : Array MapEntry} {l1 l2 : List (Nd κ ν)} {x : Nd κ ν} (h : MapRep C es (l1 ++ x :: l2)) (hnd : ((l1 ++ x :: l2).map (·.it.k)).Nodup) (w : World) :
  ∃ j, (Instr.findKey K (C.ek x.it.k) es.toList).run P w = .ok (some (j, pt (some x.a))) w ∧ j < es.size ∧ ((es[j]?).map (·.key)) = some (C.ek x.it.k) ∧ MapRep C (es.eraseIdxIfInBounds j) (l1 ++ l2) := by
 have hex : ∃ D, P.underlying K = some D := by rcases HK.plain with h | h <;> exact ⟨_, h⟩
 obtain ⟨D, hD⟩ := hex
 have hin : ∃ e ∈ es.toList, e.key = C.ek x.it.k := by
  have : (C.ek x.it.k, pt (some x.a)) ∈ es.toList.map fun e => (e.key, e.val) := h.mem_iff.2 (List.mem_map.2 ⟨x, by simp, rfl⟩)
  obtain ⟨e, he, hq⟩ := List.mem_map.1 this
  simp only [Prod.mk.injEq] at hq
  exact ⟨e, he, hq.1⟩
 obtain ⟨j, e, g1, g2, g3⟩ := findNow_hit C (HK.same D hD) x.it.k es.toList 0 (fun e he => by obtain ⟨n, hn, h1, _⟩ := mapRep_mem C h he; exact ⟨_, h1⟩) hin
 have hm : e ∈ es.toList := List.mem_of_getElem? g1
 obtain ⟨n, hn, h1, h2⟩ := mapRep_mem C h hm
 have hkn : n.it.k = x.it.k := ek_inj C HK (h1.symm.trans g2)
 have hnx : n = x := by
  rw [List.map_append, List.map_cons, List.nodup_append] at hnd
  obtain ⟨_, hnd2, hnd3⟩ := hnd
  rcases List.mem_append.1 hn with hn | hn
  ·exact (hnd3 _ (List.mem_map.2 ⟨n, hn, rfl⟩) x.it.k (by simp) hkn).elim
  ·rcases List.mem_cons.1 hn with rfl | hn
   ·rfl
   ·exact ((List.nodup_cons.1 hnd2).1 (List.mem_map.2 ⟨n, hn, hkn⟩)).elim
 subst hnx
 have hj : j < es.size := by
  rcases Nat.lt_or_ge j es.size with h' | h'
  ·exact h'
  ·rw [List.getElem?_eq_none (by simpa using h')] at g1; cases g1
 refine ⟨j, by simp [Instr.findKey, run_underlying hD, g3, h2], hj, ?_, ?_⟩
 ·have : es[j]? = some e := by simpa using g1
  rw [this]; simp [g2]
 ·have hl : es.toList = es.toList.take j ++ e :: es.toList.drop (j + 1) := by
   rw [List.getElem?_eq_getElem (by simpa using hj)] at g1
   cases g1
   rw [List.getElem_cons_drop, List.take_append_drop]
  have he : (es.eraseIdxIfInBounds j).toList = es.toList.take j ++ es.toList.drop (j + 1) := by
   simp [Array.eraseIdxIfInBounds, hj, List.eraseIdx_eq_take_drop_succ]
  unfold MapRep at h ⊢
  rw [he]
  rw [hl] at h
  have h' : ((e.key, e.val) :: (es.toList.take j ++ es.toList.drop (j + 1)).map fun e => (e.key, e.val)).Perm ((C.ek n.it.k, pt (some n.a)) :: (l1 ++ l2).map fun n => (C.ek n.it.k, pt (some n.a))) := by
   refine List.Perm.trans ?_ (h.trans ?_)
   ·simp only [List.map_append, List.map_cons]; exact List.perm_middle.symm
   ·simp only [List.map_append, List.map_cons]; exact List.perm_middle
  rw [h1, h2] at h'
  exact h'.cons_inv
end
section
variable {κ ν : Type} [DecidableEq κ] {C : Cfg κ ν} {P : Program} {T K E : TypeId} {w : World} {m clock : Nat} {es : Array MapEntry}
theorem run_lookup_hit (HK : Keys C P K) (ht : P.underlying T = some (.map K E)) (hb : w.heap[m]? = some (.map es clock)) {l1 l2 : List (Nd κ ν)} {x : Nd κ ν} (h : MapRep C es (l1 ++ x :: l2)) (hnd : ((l1 ++ x :: l2).map (·.it.k)).Nodup) {k : κ} (hk : x.it.k = k) :
  (Instr.lookup T (.map (some m)) (C.ek k) false).run P w = .ok (pt (some x.a)) w := by
 subst hk
 obtain ⟨j, h1, _⟩ := find_hit C HK h hnd w
 simp [Instr.lookup, run_underlying ht, MapKept.run_getObj_map hb, run_check HK.plain, h1, Result.andThen]
theorem run_lookup_miss (HK : Keys C P K) (ht : P.underlying T = some (.map K E)) (hz : (zeroValue E).run P w = .ok (.pointer none) w) (hb : w.heap[m]? = some (.map es clock)) {l : List (Nd κ ν)} (h : MapRep C es l) {k : κ} (hk : ∀ n ∈ l, n.it.k ≠ k) :
  (Instr.lookup T (.map (some m)) (C.ek k) false).run P w = .ok (pt none) w := by
 simp [Instr.lookup, run_underlying ht, MapKept.run_getObj_map hb, run_check HK.plain, find_miss C HK h hk w, Result.andThen, hz, pt]
theorem run_store_new (HK : Keys C P K) (ht : P.underlying T = some (.map K E)) (hb : w.heap[m]? = some (.map es clock)) {l : List (Nd κ ν)} (h : MapRep C es l) {k : κ} (hk : ∀ n ∈ l, n.it.k ≠ k) (v : Value) :
  (Instr.mapUpdate T (.map (some m)) (C.ek k) v).run P w = .ok () (ChangeMaps.setBlock w m (.map (es.push { key := C.ek k, val := v, born := clock }) (clock + 1))) := by
 simp [Instr.mapUpdate, run_underlying ht, MapKept.run_getObj_map hb, run_check HK.plain, find_miss C HK h hk w, Result.andThen, MapKept.run_setObj_map _ hb, ChangeMaps.setBlock]
theorem run_delete_hit (HK : Keys C P K) (ht : P.underlying T = some (.map K E)) (hb : w.heap[m]? = some (.map es clock)) {l1 l2 : List (Nd κ ν)} {x : Nd κ ν} (h : MapRep C es (l1 ++ x :: l2)) (hnd : ((l1 ++ x :: l2).map (·.it.k)).Nodup) {k : κ} (hk : x.it.k = k) (k2 ty : TypeId) :
  ∃ es', (Builtin.delete_ #[T, k2] ty #[.map (some m), C.ek k]).run P w = .ok (.tuple #[]) (ChangeMaps.setBlock w m (.map es' clock)) ∧ MapRep C es' (l1 ++ l2) := by
 subst hk
 obtain ⟨j, h1, h2, h3, h4⟩ := find_hit C HK h hnd w
 refine ⟨_, ?_, h4⟩
 simp [Builtin.delete_, run_underlying ht, MapKept.run_getObj_map hb, run_check HK.plain, h1, Result.andThen, MapKept.run_setObj_map _ hb, ChangeMaps.setBlock]
theorem run_len_map (ht : P.underlying T = some (.map K E)) (hb : w.heap[m]? = some (.map es clock)) (ty : TypeId) :
  (Builtin.len_ #[T] ty #[.map (some m)]).run P w = .ok (.int .i64 es.size) w := by
 simp [Builtin.len_, run_underlying ht, MapKept.run_getObj_map hb, goInt, Result.andThen]
theorem heap_setBlock (w : World) (b : Nat) (o : Obj) (k : Nat) (h : b < w.heap.size) : (ChangeMaps.setBlock w b o).heap[k]? = if k = b then some o else w.heap[k]? := by
 unfold ChangeMaps.setBlock
 simp only [Array.getElem?_setIfInBounds, h, if_true]
 by_cases e : b = k
 ·subst e; simp
 ·rw [if_neg e, if_neg (fun q => e q.symm)]
end
section
variable {κ ν : Type} (C : Cfg κ ν)
structure Rep (w : World) (c m : Nat) (most : Int) (l : List (Nd κ ν)) : Prop where
 lay : Lay C w c m most l
 map : ∃ es clock, w.heap[m]? = some (.map es clock) ∧ MapRep C es l
 keys : (l.map (·.it.k)).Nodup
theorem Rep.alike {w w' : World} {c m : Nat} {most : Int} {l : List (Nd κ ν)} (h : Rep C w c m most l) (g : w'.Alike w) : Rep C w' c m most l :=
 ⟨h.lay.alike C g, by obtain ⟨es, k, h1, h2⟩ := h.map; exact ⟨es, k, by rw [g.1]; exact h1, h2⟩, h.keys⟩
end
section
variable {κ ν : Type} (C : Cfg κ ν)
theorem new_rep (w : World) (most : Int) : Rep C ((w.alloc (.map #[] 0)).alloc (.cells #[.int .i64 most, .map (some w.heap.size), .pointer none, .pointer none] C.tc)) (w.heap.size + 1) w.heap.size most [] := by
 refine ⟨⟨?_, trivial, ?_⟩, ⟨#[], 0, ?_, .refl _⟩, .nil⟩
 ·rw [heap_alloc, if_pos (by simp)]; rfl
 ·simp
 ·rw [heap_alloc, if_neg (by simp), heap_alloc, if_pos rfl]
theorem lay_cells {w : World} {c m : Nat} {most : Int} {l : List (Nd κ ν)} (h : Lay C w c m most l) :
  w.cell? ⟨c, 0, none⟩ = some (.int .i64 most) ∧ w.cell? ⟨c, 1, none⟩ = some (.map (some m)) ∧ w.cell? ⟨c, 2, none⟩ = some (pt (hd l none)) ∧ w.cell? ⟨c, 3, none⟩ = some (pt (lst l none)) ∧ (∀ o, w.frozen? ⟨c, o, none⟩ = false) :=
 ⟨cell_blk h.cache 0, cell_blk h.cache 1, cell_blk h.cache 2, cell_blk h.cache 3, frozen_blk h.cache⟩
theorem node_cells {w : World} {a : Nat} {x : It κ ν} {p q : Option Nat} (h : w.heap[a]? = some (nodeObj C x p q)) :
  w.cell? ⟨a, 0, none⟩ = some (C.ek x.k) ∧ w.cell? ⟨a, 1, none⟩ = some (C.ev x.v) ∧ w.cell? ⟨a, 2, none⟩ = some (.bool x.d) ∧ w.cell? ⟨a, 3, none⟩ = some (.int .i64 x.p) ∧ w.cell? ⟨a, 4, none⟩ = some (pt p) ∧ w.cell? ⟨a, 5, none⟩ = some (pt q) ∧ (∀ o, w.frozen? ⟨a, o, none⟩ = false) :=
 ⟨cell_blk h 0, cell_blk h 1, cell_blk h 2, cell_blk h 3, cell_blk h 4, cell_blk h 5, frozen_blk h⟩
theorem pt_none : pt none = .pointer none := rfl
theorem pt_some (a : Nat) : pt (some a) = .pointer (some ⟨a, 0, none⟩) := rfl
end
section
variable {κ ν : Type} {C : Cfg κ ν}
theorem Lay.m_not {w : World} {c m : Nat} {most : Int} {l : List (Nd κ ν)} (h : Lay C w c m most l) : m ∉ c :: l.map (·.a) := by
 have := h.nodup
 simp only [List.nodup_cons, List.mem_cons, not_or] at this ⊢
 exact ⟨fun e => this.1.1 e.symm, this.2.1⟩
theorem rep_used {w w1 w2 : World} {c m : Nat} {most : Int} {l1 l2 : List (Nd κ ν)} {x : Nd κ ν} (h : Rep C w c m most (l1 ++ x :: l2)) (u1 : Upd (c :: (l1 ++ x :: l2).map (·.a)) w w1)
  (hL : Lay C w2 c m most (l1 ++ l2 ++ [x])) (u2 : Upd (c :: (l1 ++ l2 ++ [x]).map (·.a)) w1 w2) : Rep C w2 c m most (l1 ++ l2 ++ [x]) ∧ Upd (c :: (l1 ++ x :: l2).map (·.a)) w w2 := by
 have u2' : Upd (c :: (l1 ++ x :: l2).map (·.a)) w1 w2 := u2.mono (fun k hk _ => by simp at hk ⊢; grind)
 have u := u1.trans u2'
 obtain ⟨es, ck, h1, h2⟩ := h.map
 have hp : (l1 ++ x :: l2).Perm (l1 ++ l2 ++ [x]) := by
  rw [List.append_assoc]
  exact List.Perm.append_left _ (List.perm_append_singleton x l2).symm
 refine ⟨⟨hL, ⟨es, ck, ?_, h2.trans (hp.map _)⟩, ((hp.map _).nodup_iff).1 h.keys⟩, u⟩
 rw [u.block m (lt_of_blk h1) h.lay.m_not]; exact h1
theorem used_nodup {c m : Nat} {l1 l2 : List (Nd κ ν)} {x : Nd κ ν} (h : (c :: m :: (l1 ++ x :: l2).map (·.a)).Nodup) : (c :: m :: (l1 ++ l2 ++ [x]).map (·.a)).Nodup := by
 have hp : (l1 ++ x :: l2).Perm (l1 ++ l2 ++ [x]) := by
  rw [List.append_assoc]
  exact List.Perm.append_left _ (List.perm_append_singleton x l2).symm
 exact ((((hp.map (·.a)).cons m).cons c).nodup_iff).1 h
end
section
variable {κ ν : Type} {C : Cfg κ ν}
theorem Rep.congr {w w' : World} {c m : Nat} {most : Int} {l : List (Nd κ ν)} (h : Rep C w c m most l) (hh : ∀ k ∈ foot c m l, w'.heap[k]? = w.heap[k]?) : Rep C w' c m most l :=
 ⟨h.lay.congr C hh, by obtain ⟨es, k, h1, h2⟩ := h.map; exact ⟨es, k, by rw [hh m (by simp)]; exact h1, h2⟩, h.keys⟩
theorem Rep.lt {w : World} {c m : Nat} {most : Int} {l : List (Nd κ ν)} (h : Rep C w c m most l) {k : Nat} (hk : k ∈ foot c m l) : k < w.heap.size := by
 simp at hk
 rcases hk with rfl | rfl | ⟨n, hn, rfl⟩
 ·exact lt_of_blk h.lay.cache
 ·obtain ⟨es, k, h1, h2⟩ := h.map; exact lt_of_blk h1
 ·exact h.lay.lt C hn
theorem Rep.keep {w w' : World} {c m : Nat} {most : Int} {l : List (Nd κ ν)} (h : Rep C w c m most l) {F : List Nat} (u : Upd F w w') (hF : ∀ k ∈ foot c m l, k ∉ F) : Rep C w' c m most l :=
 h.congr fun k hk => u.block k (h.lt hk) (hF k hk)
theorem Rep.alloc {w : World} {c m : Nat} {most : Int} {l : List (Nd κ ν)} (h : Rep C w c m most l) (o : Obj) : Rep C (w.alloc o) c m most l :=
 h.keep ((Upd.refl [] w).alloc o) (by simp)
theorem Rep.node {w : World} {c m : Nat} {most : Int} {l1 l2 : List (Nd κ ν)} {x : Nd κ ν} (h : Rep C w c m most (l1 ++ x :: l2)) : w.heap[x.a]? = some (nodeObj C x.it (lst l1 none) (hd l2 none)) := by
 have := h.lay.chain
 rw [chain_app] at this
 exact this.2.1
theorem Rep.change {w w' : World} {c m : Nat} {most : Int} {l1 l2 : List (Nd κ ν)} {x : Nd κ ν} (h : Rep C w c m most (l1 ++ x :: l2)) (it : It κ ν) (hk : it.k = x.it.k)
  (hx : w'.heap[x.a]? = some (nodeObj C it (lst l1 none) (hd l2 none))) (hh : ∀ k ∈ foot c m (l1 ++ x :: l2), k ≠ x.a → w'.heap[k]? = w.heap[k]?) : Rep C w' c m most (l1 ++ ⟨x.a, it⟩ :: l2) := by
 obtain ⟨⟨h1, h2, h3⟩, ⟨es, ck, h4, h5⟩, h6⟩ := h
 rw [chain_app] at h2
 obtain ⟨h2, h7, h8⟩ := h2
 have h3' := h3
 simp [List.nodup_append] at h3
 obtain ⟨⟨n1, n2, n3, n4⟩, ⟨n5, n6, n7⟩, n8, ⟨n9, n10⟩, n11⟩ := h3
 refine ⟨⟨?_, (chain_app ..).2 ⟨?_, ?_, ?_⟩, by simpa using h3'⟩, ⟨es, ck, ?_, ?_⟩, ?_⟩
 ·rw [hh c (by simp) n3, h1]
  simp only [hd_app, lst_app, hd_cons, lst_cons]
 ·exact chain_congr C (fun n hn => hh n.a (by simp; right; right; left; exact ⟨n, hn, rfl⟩) (n11 n hn).1) h2
 ·exact hx
 ·exact chain_congr C (fun n hn => hh n.a (by simp; right; right; right; right; exact ⟨n, hn, rfl⟩) (n9 n hn)) h8
 ·rw [hh m (by simp) n6]; exact h4
 ·simpa [MapRep, hk] using h5
 ·simpa [hk] using h6
theorem rep_new {w1 w2 : World} {c m : Nat} {most : Int} {l : List (Nd κ ν)} {x : Nd κ ν} {es : Array MapEntry} {ck : Nat}
  (h1 : w1.heap[m]? = some (.map es ck)) (h2 : MapRep C es (l ++ [x])) (hk : ((l ++ [x]).map (·.it.k)).Nodup) (hL : Lay C w2 c m most (l ++ [x])) (u : Upd (c :: (l ++ [x]).map (·.a)) w1 w2) : Rep C w2 c m most (l ++ [x]) :=
 ⟨hL, ⟨es, ck, by rw [u.block m (lt_of_blk h1) hL.m_not]; exact h1, h2⟩, hk⟩
end
section
variable {κ ν : Type} {C : Cfg κ ν}
theorem Rep.set12 {w w' : World} {c m : Nat} {most : Int} {l : List (Nd κ ν)} {x : Nd κ ν} (h : Rep C w c m most (l ++ [x])) (v : ν) (b : Bool)
  (hw : w'.Alike ((w.setCell ⟨x.a, 1, none⟩ (C.ev v)).setCell ⟨x.a, 2, none⟩ (.bool b))) : Rep C w' c m most (l ++ [⟨x.a, { x.it with v := v, d := b }⟩]) := by
 have hx := h.node
 refine h.change _ rfl ?_ (fun k _ hk => ?_)
 ·rw [hw.1]; simp [heap_setCell, hx, nodeObj, Obj.put]
 ·rw [hw.1]; simp [heap_setCell, hk]
theorem Rep.new_not {w : World} {c m : Nat} {most : Int} {l : List (Nd κ ν)} (h : Rep C w c m most l) : w.heap.size ∉ foot c m l := fun hk => Nat.lt_irrefl _ (h.lt hk)
end
section
variable {κ ν : Type} {C : Cfg κ ν}
theorem put_new_pre {w0 W2 : World} {c m ck : Nat} {most : Int} {l : List (Nd κ ν)} {es : Array MapEntry} (h : Lay C w0 c m most l) (hb : w0.heap[m]? = some (.map es ck)) (it : It κ ν)
  (hW : W2.Alike (ChangeMaps.setBlock (w0.alloc (nodeObj C it none none)) m (.map (es.push { key := C.ek it.k, val := pt (some w0.heap.size), born := ck }) (ck + 1)))) :
  Lay C W2 c m most l ∧ W2.heap[w0.heap.size]? = some (nodeObj C it none none) ∧ W2.heap[m]? = some (.map (es.push { key := C.ek it.k, val := pt (some w0.heap.size), born := ck }) (ck + 1)) ∧
   Upd [m] w0 W2 ∧ (c :: m :: (l ++ [(⟨w0.heap.size, it⟩ : Nd κ ν)]).map (·.a)).Nodup := by
 have hm := lt_of_blk hb
 have hs : m < (w0.alloc (nodeObj C it none none)).heap.size := by simp; omega
 have hcm := h.nodup
 simp only [List.nodup_cons, List.mem_cons, not_or] at hcm
 obtain ⟨⟨q1, q2⟩, q3, q4⟩ := hcm
 have hc := lt_of_blk h.cache
 have keep : ∀ k, k < w0.heap.size → k ≠ m → W2.heap[k]? = w0.heap[k]? := fun k hk hn => by
  rw [hW.1, heap_setBlock _ _ _ _ hs, if_neg hn, heap_alloc, if_neg (by omega)]
 refine ⟨⟨by rw [keep c hc q1]; exact h.cache, chain_congr C (fun n hn => keep n.a (h.lt C hn) (fun e => q3 (List.mem_map.2 ⟨n, hn, e⟩))) h.chain, h.nodup⟩, ?_, ?_, ⟨hW.2.1, hW.2.2, ?_, fun k hk hn => keep k hk (by simpa using hn)⟩, ?_⟩
 ·have hne : w0.heap.size ≠ m := by omega
  rw [hW.1, heap_setBlock _ _ _ _ hs, if_neg hne, heap_alloc, if_pos rfl]
 ·rw [hW.1, heap_setBlock _ _ _ _ hs, if_pos rfl]
 ·rw [hW.1]; simp [ChangeMaps.setBlock]
 ·have hl : ∀ n ∈ l, n.a < w0.heap.size := fun n hn => h.lt C hn
  simp [List.nodup_append]
  simp at q2 q3
  refine ⟨⟨q1, fun n hn => q2 n hn, by omega⟩, ⟨fun n hn => q3 n hn, by omega⟩, q4, fun n hn => by have := hl n hn; omega⟩
end
theorem cast0 : ((0 : Nat) : Int) = 0 := rfl
theorem Rep.c_lt {κ ν : Type} {C : Cfg κ ν} {w : World} {c m : Nat} {most : Int} {l : List (Nd κ ν)} (h : Rep C w c m most l) : c < w.heap.size := h.lt (by simp)
theorem Rep.m_lt {κ ν : Type} {C : Cfg κ ν} {w : World} {c m : Nat} {most : Int} {l : List (Nd κ ν)} (h : Rep C w c m most l) : m < w.heap.size := h.lt (by simp)
theorem store6 {w w' : World} {g : Nat} {a0 a1 a2 a3 a4 a5 b0 b1 b2 b3 b4 b5 : Value} {t : TypeId} (h : w.heap[g]? = some (.cells #[a0, a1, a2, a3, a4, a5] t (0, 0)))
  (hw : w'.Alike ((((((w.setCell ⟨g, 0, none⟩ b0).setCell ⟨g, 1, none⟩ b1).setCell ⟨g, 2, none⟩ b2).setCell ⟨g, 3, none⟩ b3).setCell ⟨g, 4, none⟩ b4).setCell ⟨g, 5, none⟩ b5)) :
  w'.heap[g]? = some (.cells #[b0, b1, b2, b3, b4, b5] t (0, 0)) ∧ Upd [g] w w' := by
 refine ⟨?_, ?_⟩
 ·rw [hw.1]; simp [heap_setCell, h, Obj.put]
 ·exact (((((((Upd.refl _ _).setCell (by simp) _ _).setCell (by simp) _ _).setCell (by simp) _ _).setCell (by simp) _ _).setCell (by simp) _ _).setCell (by simp) _ _).alike hw
section
variable {κ ν : Type} {C : Cfg κ ν}
theorem rep_gone {w w1 w2 : World} {c m ck : Nat} {most : Int} {l1 l2 : List (Nd κ ν)} {x : Nd κ ν} {es es' : Array MapEntry} (h : Rep C w c m most (l1 ++ x :: l2)) (hb : w1.heap[m]? = some (.map es ck))
  (hL : Lay C w1 c m most (l1 ++ l2)) (hm : MapRep C es' (l1 ++ l2)) (hW : w2.Alike (ChangeMaps.setBlock w1 m (.map es' ck))) : Rep C w2 c m most (l1 ++ l2) ∧ Upd [m] w1 w2 := by
 have hm1 := lt_of_blk hb
 have keep : ∀ k, k ≠ m → w2.heap[k]? = w1.heap[k]? := fun k hn => by rw [hW.1, heap_setBlock _ _ _ _ hm1, if_neg hn]
 have hnd := hL.nodup
 simp only [List.nodup_cons, List.mem_cons, not_or] at hnd
 refine ⟨⟨⟨by rw [keep c hnd.1.1]; exact hL.cache, chain_congr C (fun n hn => keep n.a (fun e => hnd.2.1 (List.mem_map.2 ⟨n, hn, e⟩))) hL.chain, hL.nodup⟩, ⟨es', ck, ?_, hm⟩, ?_⟩, ⟨hW.2.1, hW.2.2, ?_, fun k _ hn => keep k (by simpa using hn)⟩⟩
 ·rw [hW.1, heap_setBlock _ _ _ _ hm1, if_pos rfl]
 ·exact h.keys.sublist (by simp)
 ·rw [hW.1]; simp [ChangeMaps.setBlock]
end
section
variable {κ ν : Type} {C : Cfg κ ν}
end
end Go.Proofs.YteepgehjkcahiaaGreat.Bc
