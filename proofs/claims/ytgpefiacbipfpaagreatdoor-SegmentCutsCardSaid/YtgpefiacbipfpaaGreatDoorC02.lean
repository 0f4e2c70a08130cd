/- What calls do to files, in plain words, and what a crash leaves of that. No program in sight. The ground of the walks: what a call leaves of the memory; rows of things of k cells, that are read, or of the call's own. Bytes in memory; appending to what came in without room, or to a row of the call's own. The codec's walks: room, PutUint, PutText, Put32. -/
import Derived.WalkKit
import Derived.ProofKit
import Derived.OpenShut
import Derived.Handy
import Derived.Lib.Hide
import Derived.Deep.LoopGhost
import Derived.Below
import Derived.Deep.RegionHeld3
import Derived.Deep.AppendLies
import Derived.Deep.RegionLaw
import Derived.Maps.AppendAt
import Derived.Laws.AppendOwn
import Derived.Test.YtgpefiacbipfpaaGreatDoorC01
import Derived.Test.YtgpefiacbipfpaaGreatDoorChecked
namespace Go.Proofs.YtgpefiacbipfpaaGreatDoor
theorem bsLess_trans : ∀ x y z : List UInt8, Op.bytesLess x y = true → Op.bytesLess y z = true → Op.bytesLess x z = true
 | _, [], _, h, _ => by cases ‹List UInt8› <;> simp [Op.bytesLess] at h
 | x, b :: y, [], _, h => by simp [Op.bytesLess] at h
 | [], b :: y, c :: z, _, _ => rfl
 | a :: x, b :: y, c :: z, h, g => by
  simp only [Op.bytesLess, Bool.or_eq_true, Bool.and_eq_true, decide_eq_true_eq, beq_iff_eq, UInt8.lt_iff_toNat_lt] at h g ⊢
  rcases h with h | ⟨rfl, h⟩
  ·rcases g with g | ⟨rfl, g⟩
   ·exact Or.inl (by omega)
   ·exact Or.inl h
  ·rcases g with g | ⟨rfl, g⟩
   ·exact Or.inl g
   ·exact Or.inr ⟨rfl, bsLess_trans x y z h g⟩
theorem bsLess_irrefl : ∀ x : List UInt8, Op.bytesLess x x = false
 | [] => rfl
 | a :: x => by simp [Op.bytesLess, bsLess_irrefl x]
theorem bsLess_total : ∀ x y : List UInt8, x = y ∨ Op.bytesLess x y = true ∨ Op.bytesLess y x = true
 | [], [] => Or.inl rfl
 | [], _ :: _ => Or.inr (Or.inl rfl)
 | _ :: _, [] => Or.inr (Or.inr rfl)
 | a :: x, b :: y => by
  simp only [Op.bytesLess, Bool.or_eq_true, Bool.and_eq_true, decide_eq_true_eq, beq_iff_eq, UInt8.lt_iff_toNat_lt, List.cons.injEq]
  rcases Nat.lt_trichotomy a.toNat b.toNat with h | h | h
  ·exact Or.inr (Or.inl (Or.inl h))
  ·have h := UInt8.toNat_inj.1 h
   subst h
   rcases bsLess_total x y with rfl | h | h
   ·exact Or.inl ⟨rfl, rfl⟩
   ·exact Or.inr (Or.inl (Or.inr ⟨rfl, h⟩))
   ·exact Or.inr (Or.inr (Or.inr ⟨rfl, h⟩))
  ·exact Or.inr (Or.inr (Or.inl h))
theorem ordN : Ord ltN := ⟨bsLess_irrefl, bsLess_trans, bsLess_total⟩
theorem FsInv.crash {l l' : Nat → Cell} {room k s : Nat} {fs last : Files} (h : FsInv l room k s fs last) (c : CrashOf l l') : Rest l' room k last where
 few := h.few
 recov := ⟨s, .inl (h.quiet.crash c)⟩
 sized := fun i b hb => by
  obtain ⟨h1, h2⟩ := c i
  rw [Cell.poss, h1, List.mem_singleton] at hb
  subst hb
  exact h.sized i _ h2
 ok := h.was
 pend := fun i => (c i).1
 holds := fun p hp => h.sure p hp _ fun b => by
  obtain ⟨h1, h2⟩ := c (36 + b)
  show (l' (36 + b)).view ∈ _
  rw [Cell.view, h1]
  exact h2
theorem mem_all {fs : Files} {p : Bs × Fil} (hp : p ∈ fs) {b : Nat} (hb : b ∈ p.2.blks) : b ∈ allBlks fs := List.mem_flatMap.2 ⟨p, hp, hb⟩
theorem apart_of {fs : Files} (h : (allBlks fs).Nodup) : ∀ {p q : Bs × Fil}, p ∈ fs → q ∈ fs → p.1 ≠ q.1 → ∀ b ∈ p.2.blks, b ∉ q.2.blks := by
 induction fs with
 | nil => intro p q hp; simp at hp
 | cons x fs ih =>
  intro p q hp hq hne b hb hb'
  simp only [allBlks, List.flatMap_cons, List.nodup_append] at h
  obtain ⟨-, h2, h3⟩ := h
  rcases List.mem_cons.1 hp with hp1 | hp1
  ·rcases List.mem_cons.1 hq with hq1 | hq1
   ·exact hne (by rw [hp1, hq1])
   ·exact h3 b (by rw [← hp1]; exact hb) b (mem_all (fs := fs) hq1 hb') rfl
  ·rcases List.mem_cons.1 hq with hq1 | hq1
   ·exact h3 b (by rw [← hq1]; exact hb') b (mem_all (fs := fs) hp1 hb) rfl
   ·exact ih h2 hp1 hq1 hne b hb hb'
theorem del_ok {room : Nat} {fs : Files} (h : FilesOk room fs) (nm : Bs) : FilesOk room (delA fs nm) where
 srt := srt_delA h.srt nm
 few := Nat.le_trans (List.length_filter_le ..) h.few
 name := fun p hp => h.name p (mem_delA.1 hp).1
 ok := fun p hp => h.ok p (mem_delA.1 hp).1
 nodup := by
  have : (allBlks (delA fs nm)).Sublist (allBlks fs) := by
   have h0 : (delA fs nm).Sublist fs := List.filter_sublist
   clear h
   generalize delA fs nm = r at h0
   unfold allBlks
   induction h0 with
   | slnil => exact .slnil
   | cons a _ ih => rw [List.flatMap_cons]; exact ih.trans (List.sublist_append_right ..)
   | cons_cons a _ ih => rw [List.flatMap_cons, List.flatMap_cons]; exact (List.Sublist.refl _).append ih
  exact h.nodup.sublist this
theorem FsInv.remove {l : Nat → Cell} {room k s : Nat} {fs last : Files} (h : FsInv l room k s fs last) (nm : Bs) : FsInv l room k s (delA fs nm) last :=
 ⟨h.few, h.quiet, h.sized, del_ok h.now nm, h.was, fun p hp => h.holds p (mem_delA.1 hp).1, h.sure, fun p hp => h.kin p (mem_delA.1 hp).1⟩
theorem perm_all {a b : Files} (h : a.Perm b) : (allBlks a).Perm (allBlks b) := h.flatMap_right _
theorem put_ok {room : Nat} {fs : Files} (h : FilesOk room fs) {nm : Bs} {f : Fil} (hn : 1 ≤ nm.length ∧ nm.length ≤ 40) (hf : FilOk room f) (h64 : (putA ltN fs nm f).length ≤ 64)
  (hnd : f.blks.Nodup) (hd : ∀ b ∈ f.blks, b ∉ allBlks (delA fs nm)) : FilesOk room (putA ltN fs nm f) where
 srt := srt_putA ordN h.srt nm f
 few := h64
 name := fun p hp => by rcases mem_putA hp with rfl | hp; exact hn; exact h.name p hp
 ok := fun p hp => by rcases mem_putA hp with rfl | hp; exact hf; exact h.ok p hp
 nodup := by
  rw [(perm_all (putA_perm ordN h.srt nm f)).nodup_iff]
  simp only [allBlks, List.flatMap_cons, List.nodup_append]
  exact ⟨hnd, (del_ok h nm).nodup, fun a ha b hb e => hd a ha (e ▸ hb)⟩
theorem put_mem {fs : Files} (h : Srt ltN fs) {nm : Bs} {f : Fil} {p : Bs × Fil} (hp : p ∈ putA ltN fs nm f) : p = (nm, f) ∨ (p ∈ fs ∧ p.1 ≠ nm) := by
 have := (putA_perm ordN h nm f).mem_iff.1 hp
 rcases List.mem_cons.1 this with h | h
 ·exact .inl h
 ·exact .inr (mem_delA.1 h)
def emptyF : Fil := ⟨[], []⟩
theorem emptyF_ok (room : Nat) : FilOk room emptyF := ⟨trivial, by simp [emptyF], rfl, by simp [emptyF]⟩
theorem emptyF_blks : emptyF.blks = [] := rfl
theorem FsInv.create {l : Nat → Cell} {room k s : Nat} {fs last : Files} (h : FsInv l room k s fs last) {nm : Bs} (hn : 1 ≤ nm.length ∧ nm.length ≤ 40) (hg : getA fs nm = none) (h64 : fs.length < 64) : FsInv l room k s (putA ltN fs nm emptyF) last :=
 ⟨h.few, h.quiet, h.sized, put_ok h.now hn (emptyF_ok room) (by rw [len_putA ordN h.now.srt, hg]; exact h64) (by simp [emptyF_blks]) (by simp [emptyF_blks]), h.was,
  fun p hp => by
   rcases put_mem h.now.srt hp with rfl | ⟨hp, -⟩
   ·intro j b i hj; simp [emptyF_blks] at hj
   ·exact h.holds p hp,
  h.sure, fun p hp => by
   rcases put_mem h.now.srt hp with rfl | ⟨hp, -⟩
   ·intro q _; exact .inl (by simp [emptyF_blks])
   ·exact h.kin p hp⟩
theorem kin_refl (f : Fil) : Kin f f := .inr ⟨List.prefix_refl _, List.prefix_refl _⟩
theorem FilesOk.kin {room : Nat} {fs : Files} (h : FilesOk room fs) : ∀ p ∈ fs, ∀ q ∈ fs, Kin p.2 q.2 := by
 intro p hp q hq
 by_cases e : p.1 = q.1
 ·have h1 := getA_of_mem ordN h.srt hp
  have h2 := getA_of_mem ordN h.srt hq
  rw [e, h2] at h1
  rw [Option.some.inj h1]
  exact kin_refl _
 ·exact .inl (apart_of h.nodup hp hq e)
theorem FsInv.reset {l : Nat → Cell} {room k s : Nat} {fs last : Files} (h : FsInv l room k s fs last) : FsInv l room k s last last :=
 ⟨h.few, h.quiet, h.sized, h.was, h.was, fun p hp => (h.sure p hp).holds, h.sure, h.was.kin⟩
def syncT (k s : Nat) (fs last : Files) : List DOp := commitT (k + 1) s (writesF (dirB last) (dirB fs))
theorem FsInv.sync {l : Nat → Cell} {room k s : Nat} {fs last : Files} (h : FsInv l room k s fs last) (hk : k < 2 ^ 61) :
  Along (fun l1 => ∀ l', CrashOf l1 l' → ∃ k', k' ≤ k + 1 ∧ (Rest l' room k' last ∨ Rest l' room k' fs)) (syncT k s fs last) l ∧ FsInv (exec (syncT k s fs last) l) room (k + 1) (1 - s) fs fs := by
 have hfew := h.few
 have hd := h.now.dir_len (by omega)
 have ho := over_writesF (a := dirB last) hd
 obtain ⟨h1, h2, h3⟩ := h.quiet.commit ho (by omega : k < 2 ^ 62)
 have hsz : ∀ o ∈ syncT k s fs last, OpSized o := sized_commit (by omega) ho.wok
 have hs := h.quiet.slots.two
 refine ⟨fun p q e l' c => ?_, ?_⟩
 ·have hszp : Sized (exec p l) := h.sized.exec fun o hp => hsz o (by rw [e]; simp [hp])
  have hsz' : Sized l' := fun i b hb => by
   obtain ⟨c1, c2⟩ := c i
   rw [Cell.poss, c1, List.mem_singleton] at hb
   subst hb
   exact hszp i _ c2
  have hR : ∀ {k'}, Recov l' k' (blkOf (dirB last)) → Rest l' room k' last := fun hr => ⟨hfew, hr, hsz', h.was, fun i => (c i).1, fun x hx => h.sure x hx _ fun b => by
   obtain ⟨c1, c2⟩ := c (36 + b)
   show (l' (36 + b)).view ∈ _
   rw [Cell.view, c1]
   refine (poss_exec p fun o hp => ?_).2 _ c2
   exact not_commit ho.wok ho.low hs (by omega) o (by rw [show commitT (k + 1) s (writesF (dirB last) (dirB fs)) = p ++ q from e]; simp [hp])⟩
  rcases h1 p q e l' c with hr | ⟨hr, hi⟩
  ·exact ⟨k, by omega, .inl (hR hr)⟩
  ·have hF : ∀ {k'}, Recov l' k' (blkOf (dirB fs)) → Rest l' room k' fs := fun hr => ⟨hfew, hr, hsz', h.now, fun i => (c i).1, fun x hx => (h.holds x hx).congr fun b _ => by
    show (l' (36 + b)).view = (l (36 + b)).view
    rw [hi _ (by omega)]; rfl⟩
   rcases hr with hr | hr
   ·exact ⟨k, by omega, .inr (hF hr)⟩
   ·exact ⟨k + 1, by omega, .inr (hF hr)⟩
 ·have hH : ∀ x ∈ fs, Holds (dataV (exec (syncT k s fs last) l)) x.2 := fun x hx => (h.holds x hx).congr fun b _ => by
   show (exec (syncT k s fs last) l (36 + b)).view = _
   unfold syncT
   rw [h3 _ (by omega)]; rfl
  exact ⟨hfew, h2, h.sized.exec hsz, h.now, h.now, hH, fun x hx => sure_of_still (hH x hx) fun b _ => by unfold syncT; rw [h3 _ (by omega)], h.now.kin⟩
theorem Rest.mount {l : Nat → Cell} {room k : Nat} {fs : Files} (h : Rest l room k fs) (hk : k < 2 ^ 61) : ∃ s w, s < 2 ∧ WOk w ∧ (∀ x ∈ w, x.1 < 16) ∧ ((w = [] ∧ Quiet l k s (blkOf (dirB fs))) ∨ Redo l k s w (blkOf (dirB fs))) ∧
  Along (fun l1 => ∀ l', CrashOf l1 l' → ∃ k', k' ≤ k + 1 ∧ Rest l' room k' fs) (openT k s w) l ∧ FsInv (exec (openT k s w) l) room (k + 1) (1 - s) fs fs := by
 have hfew := h.few
 have hmain : ∀ {s w}, s < 2 → WOk w → (∀ x ∈ w, x.1 < 16) → Along (Opens k (blkOf (dirB fs))) (openT k s w) l → Quiet (exec (openT k s w) l) (k + 1) (1 - s) (blkOf (dirB fs)) →
   Along (fun l1 => ∀ l', CrashOf l1 l' → ∃ k', k' ≤ k + 1 ∧ Rest l' room k' fs) (openT k s w) l ∧ FsInv (exec (openT k s w) l) room (k + 1) (1 - s) fs fs := by
  intro s w hs hw hl h1 h2
  have hsz : ∀ o ∈ openT k s w, OpSized o := sized_open (by omega) hw
  have hst : ∀ i, 36 ≤ i → ∀ t q, openT k s w = t ++ q → exec t l i = l i := by
   intro i hi t q e
   have hp := h.pend i
   have e0 : l i = ⟨(l i).safe, []⟩ := by cases hc : l i with | mk a p => rw [hc] at hp; simp at hp; rw [hp]
   have := still_exec t e0 fun o ho => not_open hl hs hi o (by rw [e]; simp [ho])
   rw [this, ← e0]
  refine ⟨fun p q e l' c => ?_, ?_⟩
  ·have hszp : Sized (exec p l) := h.sized.exec fun o hp => hsz o (by rw [e]; simp [hp])
   have hF : ∀ {k'}, Recov l' k' (blkOf (dirB fs)) → Rest l' room k' fs := fun hr => ⟨hfew, hr, fun i b hb => by
     obtain ⟨c1, c2⟩ := c i
     rw [Cell.poss, c1, List.mem_singleton] at hb
     subst hb
     exact hszp i _ c2, h.ok, fun i => (c i).1, fun x hx => (h.holds x hx).congr fun b _ => by
    show (l' (36 + b)).view = (l (36 + b)).view
    have e1 := hst (36 + b) (by omega) p q e
    rw [c.still (by rw [e1]; exact h.pend _), e1]⟩
   rcases h1 p q e l' c with hr | hr
   ·exact ⟨k, by omega, hF hr⟩
   ·exact ⟨k + 1, by omega, hF hr⟩
  ·have e1 : ∀ i, 36 ≤ i → exec (openT k s w) l i = l i := fun i hi => hst i hi _ [] (by simp)
   have hH : ∀ x ∈ fs, Holds (dataV (exec (openT k s w) l)) x.2 := fun x hx => (h.holds x hx).congr fun b _ => by
    show (exec (openT k s w) l (36 + b)).view = _
    rw [e1 _ (by omega)]; rfl
   exact ⟨hfew, h2, h.sized.exec hsz, h.ok, h.ok, hH, fun x hx => sure_of_still (hH x hx) fun b _ => by rw [e1 _ (by omega)]; exact h.pend _, h.ok.kin⟩
 obtain ⟨s, hq | ⟨w, hr⟩⟩ := h.recov
 ·obtain ⟨h1, h2⟩ := quiet_open hq (by omega : k < 2 ^ 62)
  have hw : WOk [] := ⟨by simp, by simp, by simp⟩
  exact ⟨s, [], hq.slots.two, hw, by simp, .inl ⟨rfl, hq⟩, hmain hq.slots.two hw (by simp) h1 h2⟩
 ·obtain ⟨h1, h2⟩ := redo_open hr (by omega : k < 2 ^ 62)
  exact ⟨s, w, hr.slots.two, hr.wok, hr.low, .inr hr, hmain hr.slots.two hr.wok hr.low h1 h2⟩
end Go.Proofs.YtgpefiacbipfpaaGreatDoor

namespace Go.Proofs.YtgpefiacbipfpaaGreatDoor
open Go.RowKit
def Obj.put (o : Nat) (v : Value) : Obj → Obj
 | .cells c e f => .cells (c.setIfInBounds o v) e f
 | x => x
theorem heap_setCell (w : World) (b o : Nat) (v : Value) (k : Nat) :
  (w.setCell ⟨b, o, none⟩ v).heap[k]? = if k = b then (w.heap[k]?).map (Obj.put o v) else w.heap[k]? := by
 simp only [World.setCell, Array.getElem?_modify]
 by_cases h : b = k
 ·subst h
  simp only [if_true]
  cases w.heap[b]? with
  | none => rfl
  | some x => cases x <;> rfl
 ·rw [if_neg h, if_neg (fun e => h e.symm)]
theorem heap_alloc (w : World) (o : Obj) (k : Nat) : (w.alloc o).heap[k]? = if k = w.heap.size then some o else w.heap[k]? := by
 show (w.heap.push o)[k]? = _
 rw [Array.getElem?_push]
theorem heap_drew (w : World) : w.drew.heap = w.heap := rfl
theorem cell_blk {w : World} {b : Nat} {c : Array Value} {e : TypeId} {f : Nat × Nat} (h : w.heap[b]? = some (.cells c e f)) (o : Nat) : w.cell? ⟨b, o, none⟩ = c[o]? := by
 simp [World.cell?, h]
theorem frozen_blk {w : World} {b : Nat} {c : Array Value} {e : TypeId} (h : w.heap[b]? = some (.cells c e (0, 0))) (o : Nat) : w.frozen? ⟨b, o, none⟩ = false := by
 simp [World.frozen?, h]
theorem lt_of_blk {w : World} {b : Nat} {o : Obj} (h : w.heap[b]? = some o) : b < w.heap.size := by
 rcases Nat.lt_or_ge b w.heap.size with h' | h'
 ·exact h'
 ·simp [Array.getElem?_eq_none h'] at h
structure Upd (F : List Nat) (w w' : World) : Prop where
 os : w'.os = w.os
 output : w'.output = w.output
 size : w.heap.size ≤ w'.heap.size
 block : ∀ k, k < w.heap.size → k ∉ F → w'.heap[k]? = w.heap[k]?
theorem Upd.refl (F : List Nat) (w : World) : Upd F w w := ⟨rfl, rfl, Nat.le_refl _, fun _ _ _ => rfl⟩
theorem Upd.trans {F : List Nat} {a b c : World} (h : Upd F a b) (g : Upd F b c) : Upd F a c :=
 ⟨g.os.trans h.os, g.output.trans h.output, Nat.le_trans h.size g.size, fun k hk hn => (g.block k (Nat.lt_of_lt_of_le hk h.size) hn).trans (h.block k hk hn)⟩
theorem Upd.next {F G : List Nat} {a b c : World} (h : Upd F a b) (g : Upd G b c) (hs : ∀ k, k ∈ G → k < a.heap.size → k ∈ F) : Upd F a c :=
 ⟨g.os.trans h.os, g.output.trans h.output, Nat.le_trans h.size g.size, fun k hk hn => (g.block k (Nat.lt_of_lt_of_le hk h.size) (fun q => hn (hs k q hk))).trans (h.block k hk hn)⟩
theorem Upd.mono {F G : List Nat} {w w' : World} (h : Upd F w w') (hs : ∀ k, k ∈ F → k < w.heap.size → k ∈ G) : Upd G w w' :=
 ⟨h.os, h.output, h.size, fun k hk hn => h.block k hk (fun hf => hn (hs k hf hk))⟩
theorem Upd.alike {F : List Nat} {w w' w'' : World} (h : Upd F w w') (g : w''.Alike w') : Upd F w w'' :=
 ⟨g.2.1.trans h.os, g.2.2.trans h.output, by rw [g.1]; exact h.size, fun k hk hn => by rw [g.1]; exact h.block k hk hn⟩
theorem Upd.setCell {F : List Nat} {w w' : World} (h : Upd F w w') {b : Nat} (hb : b ∈ F) (o : Nat) (v : Value) : Upd F w (w'.setCell ⟨b, o, none⟩ v) :=
 h.trans ⟨rfl, rfl, by simp, fun k _ hn => by rw [heap_setCell, if_neg (by rintro rfl; exact hn hb)]⟩
theorem Upd.setCellNew {F : List Nat} {w w' : World} (h : Upd F w w') {b : Nat} (hb : w.heap.size ≤ b) (o : Nat) (v : Value) : Upd F w (w'.setCell ⟨b, o, none⟩ v) :=
 ⟨h.os, h.output, by simpa using h.size, fun k hk hn => by rw [heap_setCell, if_neg (by omega)]; exact h.block k hk hn⟩
theorem Upd.alloc {F : List Nat} {w w' : World} (h : Upd F w w') (o : Obj) : Upd F w (w'.alloc o) :=
 h.trans ⟨rfl, rfl, by simp, fun k hk _ => by rw [heap_alloc, if_neg (by omega)]⟩
theorem Upd.drew {F : List Nat} {w w' : World} (h : Upd F w w') : Upd F w w'.drew := ⟨h.os, h.output, h.size, h.block⟩
theorem alike_drew (w : World) : w.drew.Alike w := ⟨rfl, rfl, rfl⟩
theorem alike_refl (w : World) : w.Alike w := ⟨rfl, rfl, rfl⟩
theorem bytes_beq (a b : ByteArray) : (a == b) = decide (a = b) := by
 cases a with | mk a => cases b with | mk b =>
 rw [Bool.eq_iff_iff]
 show ByteArray.beq ⟨a⟩ ⟨b⟩ = true ↔ _
 simp only [ByteArray.beq, decide_eq_true_eq, ByteArray.mk.injEq]
 exact beq_iff_eq
theorem Upd.grown {F : List Nat} {w a b : World} {row : Option Nat} (h : Upd F w a) (hg : a.grownBy b row) (hr : ∀ k, row = some k → w.heap.size ≤ k) : Upd F w b :=
 ⟨hg.os.trans h.os, hg.output.trans h.output, Nat.le_trans h.size hg.size, fun k hk hn => (hg.block k (Nat.lt_of_lt_of_le hk h.size) (fun e => by have := hr k e.symm; omega)).trans (h.block k hk hn)⟩
theorem own_upd {F : List Nat} {w w' : World} {base : Nat} {e : TypeId} {size : Nat} {v : Value} {n : Nat} {xs : List Value} (h : w.ownsRow base e size v n xs) (u : Upd F w w') (hF : ∀ k ∈ F, v.ownBlock ≠ some k) : w'.ownsRow base e size v n xs := by
 have hlt := h.lt
 obtain ⟨h1, h2⟩ := h
 refine ⟨h1, ?_⟩
 rcases h2 with h2 | ⟨g, cap, cur, hv, hg, hh, r⟩
 ·exact Or.inl h2
 ·subst hv
  have := (hlt g rfl).2
  exact Or.inr ⟨g, cap, cur, rfl, hg, by rw [u.block g this (fun q => hF g q rfl)]; exact hh, r⟩
theorem Upd.below {F : List Nat} {w a b : World} (h : Upd F w a) {B : Nat} (g : Below B a b) (hB : w.heap.size ≤ B) : Upd F w b :=
 ⟨g.os.trans h.os, g.output.trans h.output, Nat.le_trans h.size g.size, fun k hk hn => (g.block k (Nat.lt_of_lt_of_le hk hB)).trans (h.block k hk hn)⟩
theorem cell_keep {w w' : World} (u : Upd [] w w') {b o : Nat} {v : Value} (h : w.cell? ⟨b, o, none⟩ = some v) : w'.cell? ⟨b, o, none⟩ = some v :=
 (World.cell?_of_block (u.block b (World.block_lt_of_cell? _ _ h) (by simp))).trans h
def SlAt {α : Type} (k : Nat) (At : World → Nat → Nat → α → Prop) (w : World) (v : Value) (l : List α) : Prop :=
 ∃ a cap, v = .slice a l.length cap ∧ l.length ≤ cap ∧ cap ≤ maxLen ∧ ∀ i (h : i < l.length), ∃ b off, a = some ⟨b, off, none⟩ ∧ At w b (off + i * k) l[i]
section
variable {α : Type}
def flatG (f : α → List Value) (l : List α) : List Value := l.flatMap f
structure RowT (f : α → List Value) (k bytes : Nat) (st e : TypeId) : Prop where
 len : ∀ x, (f x).length = k
 pos : 0 < k
 und : Tryz.prog.underlying st = some (.slice e)
 info : ∃ i z, Tryz.prog.info? e = some i ∧ i.zero = some z ∧ i.size = k ∧ i.bytes = bytes ∧ z.cells.size = k
variable {f : α → List Value} {k bytes : Nat} {st e : TypeId}
theorem flatG_len (T : RowT f k bytes st e) (l : List α) : (flatG f l).length = l.length * k := by
 induction l with
 | nil => simp [flatG]
 | cons x l ih =>
  simp only [flatG, List.flatMap_cons, List.length_append, List.length_cons] at ih ⊢
  rw [ih, T.len, Nat.add_mul]
  omega
theorem flatG_app (l r : List α) : flatG f (l ++ r) = flatG f l ++ flatG f r := by simp [flatG]
theorem flatG_one {l : List α} (h : ∀ x ∈ l, ∀ u ∈ f x, u.oneCell' = true) : ∀ u ∈ flatG f l, u.oneCell' = true := by
 intro u hu
 obtain ⟨x, hx, hu⟩ := List.mem_flatMap.1 hu
 exact h x hx u hu
theorem flatG_at (T : RowT f k bytes st e) : ∀ (l : List α) (i : Nat) (hi : i < l.length) (j : Nat), j < k → (flatG f l)[i * k + j]? = (f l[i])[j]? := by
 intro l
 induction l with
 | nil => intro i hi; simp at hi
 | cons x l ih =>
  intro i hi j hj
  have e0 : flatG f (x :: l) = f x ++ flatG f l := rfl
  rw [e0]
  cases i with
  | zero =>
   rw [List.getElem?_append_left (by rw [T.len]; omega)]
   simp
  | succ i =>
   have h := ih i (by simpa using hi) j hj
   rw [List.getElem?_append_right (by rw [T.len, Nat.succ_mul]; omega), T.len]
   simp only [List.getElem_cons_succ]
   rw [← h]
   congr 1
   rw [Nat.succ_mul]
   omega
def CellsAt (f : α → List Value) (w : World) (b o : Nat) (x : α) : Prop := ∀ j u, (f x)[j]? = some u → w.cell? ⟨b, o + j, none⟩ = some u
theorem CellsAt.same {w w' : World} {b o : Nat} {x : α} (h : CellsAt f w b o x) (e : w'.heap[b]? = w.heap[b]?) : CellsAt f w' b o x := fun j u hu => (World.cell?_of_block e).trans (h j u hu)
def SrcG (f : α → List Value) (w : World) (A : Option Addr) (r : List α) : Prop := (A = none → r = []) ∧ ∀ ad, A = some ad → ∀ j u, (flatG f r)[j]? = some u → w.cell? (ad.add j) = some u
theorem add_plainG (b o j : Nat) : (⟨b, o, none⟩ : Addr).add j = ⟨b, o + j, none⟩ := by
 unfold Addr.add
 split
 ·subst_vars; rfl
 ·rfl
def OwnG (f : α → List Value) (e : TypeId) (k : Nat) (w : World) (base : Nat) (v : Value) (l : List α) : Prop := w.ownsRow base e k v l.length (flatG f l)
theorem OwnG.nil (w : World) (base : Nat) : OwnG f e k w base (.slice none 0 0) [] := World.ownsRow_nil _ _ _ _
theorem OwnG.empty (_T : RowT f k bytes st e) {w : World} {B base : Nat} (hB : w.heap[B]? = some (.cells #[] e (0, 0))) (hb : base ≤ B) : OwnG f e k w base (.slice (some ⟨B, 0, none⟩) 0 0) [] :=
 ⟨by simp [flatG], .inr ⟨B, 0, #[], rfl, hb, hB, Nat.le_refl _, by unfold maxLen; omega, by simp, by simp [flatG]⟩⟩
theorem append_G (T : RowT f k bytes st e) {w : World} {base : Nat} {v : Value} {l : List α} (hown : OwnG f e k w base v l) {A : Option Addr} (c : Nat) {r : List α} (hr : SrcG f w A r) (hs : ∀ x ∈ r, ∀ u ∈ f x, u.oneCell' = true) (hb : (l.length + r.length) * bytes ≤ 140737488355328) (h63 : l.length + r.length ≤ 140737488355328) (hbase : base ≤ w.heap.size) (ty : TypeId) :
  ∃ v' w', (Builtin.append_ #[st, st] ty #[v, .slice A r.length c]).run Tryz.prog w = .ok v' w' ∧ OwnG f e k w' base v' (l ++ r) ∧ w.grownBy w' v.ownBlock ∧ (v'.ownBlock = v.ownBlock ∨ ∀ g, v'.ownBlock = some g → w.heap.size ≤ g) := by
 obtain ⟨i0, z, hi0, hz0, hz1, hz2, hz3⟩ := T.info
 rcases A with _ | ad
 ·obtain rfl := hr.1 rfl
  refine ⟨v, w, ?_, by simpa [OwnG] using hown, World.grownBy.refl w _, Or.inl rfl⟩
  rcases hown.2 with ⟨rfl, hn⟩ | ⟨g, cap, cur, rfl, _, _, hnc, _⟩
  ·simp [Builtin.append_, run_underlying T.und, sizeOf, typeInfo, hi0, Builtin.lenOf, Builtin.firstCells]
  ·simp [Builtin.append_, run_underlying T.und, sizeOf, typeInfo, hi0, Builtin.lenOf, Builtin.firstCells, hnc, storeCells]
 ·obtain ⟨v', w', hrun, h2, h3, _, h5⟩ := run_append_own_at (P := Tryz.prog) w base st ty e i0 z k bytes T.und hi0 hz0 hz1 hz2 hz3 T.pos v l.length (flatG f l) hown ad r.length c (flatG f r) (flatG_len T r) (hr.2 ad rfl) (flatG_one hs) (by unfold maxLen; omega) hb hbase
  refine ⟨v', w', hrun, by unfold OwnG; rw [flatG_app, List.length_append]; exact h2, h3, ?_⟩
  rcases h5 with h5 | h5
  ·exact Or.inl h5
  ·exact Or.inr fun g hg => by rw [h5] at hg; cases hg; exact Nat.le_refl _
theorem wpList_append_G (T : RowT f k bytes st e) {w : World} {ops : Array Oper} {rest : List Oper} {o : Oper} {a : Act} {Q : Exit → Act → World → Prop} (hgd : o.guard = none) (s x : Operand)
  (ho : o.op = .call { callee := .builtin .append, args := #[s, x], argTypes := #[st, st] }) {base : Nat} {v : Value} {l : List α} (hs : a.eval s = v) (hown : OwnG f e k w base v l)
  {A : Option Addr} {c : Nat} {r : List α} (hx : a.eval x = .slice A r.length c) (hr : SrcG f w A r) (hsl : ∀ x ∈ r, ∀ u ∈ f x, u.oneCell' = true) (hb : (l.length + r.length) * bytes ≤ 140737488355328) (h63 : l.length + r.length ≤ 140737488355328) (hbase : base ≤ w.heap.size)
  (h : ∀ v' w', OwnG f e k w' base v' (l ++ r) → w.grownBy w' v.ownBlock → (v'.ownBlock = v.ownBlock ∨ ∀ g, v'.ownBlock = some g → w.heap.size ≤ g) → wpList Tryz.prog ops Q rest (a.put o.dst v') w') : wpList Tryz.prog ops Q (o :: rest) a w :=
 wpList_plain hgd fun K hK => by
  obtain ⟨v', w', hrun, h2, h3, h4⟩ := append_G T hown c hr hsl hb h63 hbase o.type
  unfold Oper.wp execOp
  simp only [ho, resolve, invoke, builtin, Sem.run_bind, Sem.run_pure, Result.andThen_ok, List.map_toArray, List.map_cons, List.map_nil, hs, hx, hrun]
  exact hK _ _ (h v' w' h2 h3 h4)
theorem OwnG.slice {w : World} {base : Nat} {v : Value} {l : List α} (h : OwnG f e k w base v l) : ∃ a c, v = .slice a l.length c := by
 rcases h.2 with ⟨rfl, hn⟩ | ⟨g, cap, cur, rfl, -⟩
 ·exact ⟨none, 0, by rw [hn]⟩
 ·exact ⟨_, _, rfl⟩
theorem OwnG.src (T : RowT f k bytes st e) {w : World} {base : Nat} {a : Option Addr} {n c : Nat} {l : List α} (h : OwnG f e k w base (.slice a n c) l) : SrcG f w a l := by
 obtain ⟨h0, h2⟩ := h
 rcases h2 with ⟨hv, hn⟩ | ⟨g, cap, cur, hv, hg, hh, r1, r2, r3, r4⟩
 ·have : l = [] := List.eq_nil_of_length_eq_zero hn
  subst this
  exact ⟨fun _ => rfl, fun ad _ j u hu => by simp [flatG] at hu⟩
 ·simp only [Value.slice.injEq] at hv
  obtain ⟨rfl, -, -⟩ := hv
  refine ⟨fun q => absurd q (by simp), fun ad q j u hu => ?_⟩
  cases q
  have hj : j < l.length * k := by
   rcases Nat.lt_or_ge j (l.length * k) with h | h
   ·exact h
   ·rw [List.getElem?_eq_none (by rw [flatG_len T]; exact h)] at hu; cases hu
  rw [add_plainG, cell_blk hh, Nat.zero_add, ← Array.getElem?_toList]
  have : (cur.toList.take (l.length * k))[j]? = (flatG f l)[j]? := by rw [r4]
  rw [List.getElem?_take_of_lt hj] at this
  rw [this]
  exact hu
theorem OwnG.at (T : RowT f k bytes st e) {w : World} {base : Nat} {a : Option Addr} {n c : Nat} {l : List α} (h : OwnG f e k w base (.slice a n c) l) : n = l.length ∧ n ≤ c ∧ c ≤ maxLen ∧ ∀ i (_ : i < l.length), ∃ g, a = some ⟨g, 0, none⟩ ∧ base ≤ g ∧ (∀ o, w.frozen? ⟨g, o, none⟩ = false) ∧ CellsAt f w g (i * k) l[i] := by
 have hs := h.src T
 obtain ⟨h0, h2⟩ := h
 rcases h2 with ⟨hv, hn⟩ | ⟨g, cap, cur, hv, hg, hh, r1, r2, r3, r4⟩
 ·have : l = [] := List.eq_nil_of_length_eq_zero hn
  subst this
  simp only [Value.slice.injEq] at hv
  obtain ⟨-, rfl, rfl⟩ := hv
  exact ⟨rfl, by omega, by unfold maxLen; omega, fun i hi => absurd hi (by simp)⟩
 ·simp only [Value.slice.injEq] at hv
  obtain ⟨rfl, rfl, rfl⟩ := hv
  refine ⟨rfl, r1, r2, fun i hi => ⟨g, rfl, hg, frozen_blk hh, fun j u hu => ?_⟩⟩
  have hj : j < k := by
   rcases Nat.lt_or_ge j k with h | h
   ·exact h
   ·rw [List.getElem?_eq_none (by rw [T.len]; exact h)] at hu; cases hu
  have := hs.2 ⟨g, 0, none⟩ rfl (i * k + j) u (by rw [flatG_at T l i hi j hj]; exact hu)
  rwa [add_plainG, Nat.zero_add] at this
theorem OwnG.base {w : World} {a b : Nat} {v : Value} {l : List α} (h : OwnG f e k w a v l) (hb : b ≤ a) : OwnG f e k w b v l := by
 obtain ⟨h1, h2⟩ := h
 refine ⟨h1, ?_⟩
 rcases h2 with h2 | ⟨g, cap, cur, e, hge, r⟩
 ·exact .inl h2
 ·exact .inr ⟨g, cap, cur, e, Nat.le_trans hb hge, r⟩
theorem OwnG.upd {F : List Nat} {w w' : World} {base : Nat} {v : Value} {l : List α} (h : OwnG f e k w base v l) (u : Upd F w w') (hF : ∀ j ∈ F, v.ownBlock ≠ some j) : OwnG f e k w' base v l := own_upd h u hF
theorem OwnG.sl (T : RowT f k bytes st e) {w : World} {base : Nat} {v : Value} {l : List α} (h : OwnG f e k w base v l) : SlAt k (CellsAt f) w v l := by
 obtain ⟨a, c, rfl⟩ := h.slice
 obtain ⟨-, h1, h2, h3⟩ := h.at T
 exact ⟨a, c, rfl, h1, h2, fun i hi => by obtain ⟨g, e, -, -, hc⟩ := h3 i hi; exact ⟨g, 0, e, by rw [Nat.zero_add]; exact hc⟩⟩
theorem OwnG.block {w : World} {base : Nat} {v : Value} {l : List α} (h : OwnG f e k w base v l) : ∀ g, v.ownBlock = some g → base ≤ g ∧ g < w.heap.size := fun g hg => World.ownsRow.lt h g hg
theorem SlAt.srcG (T : RowT f k bytes st e) {At : World → Nat → Nat → α → Prop} {w : World} {a : Option Addr} {n cap : Nat} {l : List α} (hA : ∀ b o x, At w b o x → CellsAt f w b o x) (h : SlAt k At w (.slice a n cap) l) : SrcG f w a l := by
 obtain ⟨a', cap', hv, h1, h2, h3⟩ := h
 simp only [Value.slice.injEq] at hv
 obtain ⟨rfl, rfl, rfl⟩ := hv
 refine ⟨fun q => ?_, fun ad q j u hu => ?_⟩
 ·cases l with
  | nil => rfl
  | cons x l => obtain ⟨b, off, e, _⟩ := h3 0 (by simp); rw [q] at e; cases e
 ·have hj : j < l.length * k := by
   rcases Nat.lt_or_ge j (l.length * k) with h | h
   ·exact h
   ·rw [List.getElem?_eq_none (by rw [flatG_len T]; exact h)] at hu; cases hu
  have hk := T.pos
  have hi : j / k < l.length := Nat.div_lt_of_lt_mul (by rw [Nat.mul_comm]; exact hj)
  obtain ⟨b, off, e, hx⟩ := h3 (j / k) hi
  rw [q] at e
  cases e
  have hm : j % k < k := Nat.mod_lt _ hk
  have e2 : j / k * k + j % k = j := by rw [Nat.mul_comm]; exact Nat.div_add_mod j k
  rw [add_plainG]
  have := hA _ _ _ hx (j % k) u (by rw [← flatG_at T l (j / k) hi (j % k) hm, e2]; exact hu)
  rw [Nat.add_assoc, e2] at this
  exact this
end
end Go.Proofs.YtgpefiacbipfpaaGreatDoor

namespace Go.Proofs.YtgpefiacbipfpaaGreatDoor
open Go.RowKit
section
variable {α : Type} {f : α → List Value} {k bytes : Nat} {st e : TypeId}
def Ready (f : α → List Value) (e : TypeId) (k : Nat) (w : World) (base : Nat) (v : Value) (l : List α) : Prop :=
 ((∃ a, v = .slice a l.length l.length) ∧ SlAt k (CellsAt f) w v l) ∨ OwnG f e k w base v l
theorem append_full (T : RowT f k bytes st e) {w : World} {a : Option Addr} {l : List α} (h : SlAt k (CellsAt f) w (.slice a l.length l.length) l) {ad : Addr} (c : Nat) {r : List α} (hr : SrcG f w (some ad) r) (h0 : r ≠ [])
  (hb : (l.length + r.length) * bytes ≤ 140737488355328) (h63 : l.length + r.length ≤ 140737488355328) (ty : TypeId) :
  ∃ v' w', (Builtin.append_ #[st, st] ty #[.slice a l.length l.length, .slice (some ad) r.length c]).run Tryz.prog w = .ok v' w' ∧ OwnG f e k w' w.heap.size v' (l ++ r) ∧ w.grownBy w' none := by
 obtain ⟨i0, z, hi0, hz0, hz1, hz2, hz3⟩ := T.info
 have hk := T.pos
 have hr0 : 0 < r.length := List.length_pos_iff.2 h0
 have hgr : ∀ (old : Nat), (w.drew.alloc (.cells ((flatG f l).toArray ++ (flatG f r).toArray ++ Builtin.zeroCells z.cells (grownCap w (l.length + r.length) old e - (l.length + r.length))) e)).ownsRow w.heap.size e k
    (.slice (some ⟨w.heap.size, 0, none⟩) (l.length + r.length) (grownCap w (l.length + r.length) old e)) (l.length + r.length) (flatG f l ++ flatG f r) ∧
   w.grownBy (w.drew.alloc (.cells ((flatG f l).toArray ++ (flatG f r).toArray ++ Builtin.zeroCells z.cells (grownCap w (l.length + r.length) old e - (l.length + r.length))) e)) none := by
  intro old
  have hge := grownCap_ge w (l.length + r.length) old e
  have hcm : grownCap w (l.length + r.length) old e ≤ maxLen := grownCap_le_maxLen w (l.length + r.length) old e (by unfold maxLen; omega)
  have hlen : (flatG f l ++ flatG f r).length = (l.length + r.length) * k := by rw [List.length_append, flatG_len T, flatG_len T, Nat.add_mul]
  refine ⟨⟨hlen, .inr ⟨w.heap.size, _, _, rfl, Nat.le_refl _, heap_alloc_new w.drew _, hge, hcm, ?_, ?_⟩⟩, ⟨rfl, rfl, rfl, by simp, fun j hj _ => by rw [heap_alloc, if_neg (show ¬ j = w.drew.heap.size from Nat.ne_of_lt hj)]; rfl⟩⟩
  ·rw [Array.size_append, Array.size_append, List.size_toArray, List.size_toArray, size_zeroCells, hz3, flatG_len T, flatG_len T, ← Nat.add_mul, ← Nat.add_mul]
   exact congrArg (· * k) (Nat.add_sub_cancel' hge)
  ·simp only [Array.toList_append, List.append_assoc]
   rw [← List.append_assoc, ← hlen]
   exact List.take_left
 rcases a with _ | b
 ·have hl : l = [] := by
   obtain ⟨a', cap', hv, h1, h2, h3⟩ := h
   simp only [Value.slice.injEq] at hv
   obtain ⟨rfl, -, -⟩ := hv
   cases l with
   | nil => rfl
   | cons x l => obtain ⟨b, off, e, _⟩ := h3 0 (by simp); cases e
  subst hl
  have hrun := run_append_nil (P := Tryz.prog) w st ty e i0 z T.und hi0 hz0 ad r.length c (flatG f r) (by rw [flatG_len T, hz1]) (hr.2 ad rfl) hr0 (by omega) (by
   rw [hz2]; simp only [List.length_nil, Nat.zero_add] at hb; omega)
  have := hgr 0
  simp only [List.length_nil, Nat.zero_add, flatG, List.flatMap_nil, List.nil_append, Array.empty_append] at this hrun ⊢
  exact ⟨_, _, hrun, by unfold OwnG; exact this.1, this.2⟩
 ·have hs := SlAt.srcG T (fun _ _ _ h => h) h
  have hrun := run_append_grow (P := Tryz.prog) w st ty e i0 z T.und hi0 hz0 b l.length l.length (flatG f l) (by rw [flatG_len T, hz1]) (hs.2 b rfl) ad r.length c (flatG f r) (by rw [flatG_len T, hz1]) (hr.2 ad rfl) (by omega) (by omega) (growslice_fits (by omega) (by rw [hz2]; exact hb))
  have := hgr l.length
  exact ⟨_, _, hrun, by unfold OwnG; rw [flatG_app, List.length_append]; exact this.1, this.2⟩
theorem append_ready (T : RowT f k bytes st e) {w : World} {base : Nat} {v : Value} {l : List α} (h : Ready f e k w base v l) {ad : Addr} (c : Nat) {r : List α} (hr : SrcG f w (some ad) r) (h0 : r ≠ []) (hs : ∀ x ∈ r, ∀ u ∈ f x, u.oneCell' = true)
  (hb : (l.length + r.length) * bytes ≤ 140737488355328) (h63 : l.length + r.length ≤ 140737488355328) (hbase : base ≤ w.heap.size) (ty : TypeId) :
  ∃ v' w', (Builtin.append_ #[st, st] ty #[v, .slice (some ad) r.length c]).run Tryz.prog w = .ok v' w' ∧ OwnG f e k w' base v' (l ++ r) ∧ Below base w w' := by
 rcases h with ⟨⟨a, rfl⟩, h⟩ | h
 ·obtain ⟨v', w', h1, h2, h3⟩ := append_full T h c hr h0 hb h63 ty
  exact ⟨v', w', h1, h2.base hbase, ⟨h3.os, h3.tape, h3.output, h3.size, fun k hk => h3.block k (by omega) (by simp)⟩⟩
 ·obtain ⟨v', w', h1, h2, h3, -⟩ := append_G T h c hr hs hb h63 hbase ty
  exact ⟨v', w', h1, h2, ⟨h3.os, h3.tape, h3.output, h3.size, fun k hk => h3.block k (by omega) (fun q => by have := (h.block k q.symm).1; omega)⟩⟩
theorem wpList_append_ready (T : RowT f k bytes st e) {w : World} {ops : Array Oper} {rest : List Oper} {o : Oper} {a : Act} {Q : Exit → Act → World → Prop} (hgd : o.guard = none) (s x : Operand)
  (ho : o.op = .call { callee := .builtin .append, args := #[s, x], argTypes := #[st, st] }) {base : Nat} {v : Value} {l : List α} (hs : a.eval s = v) (hown : Ready f e k w base v l)
  {ad : Addr} {c : Nat} {r : List α} (hx : a.eval x = .slice (some ad) r.length c) (hr : SrcG f w (some ad) r) (h0 : r ≠ []) (hsl : ∀ x ∈ r, ∀ u ∈ f x, u.oneCell' = true) (hb : (l.length + r.length) * bytes ≤ 140737488355328) (h63 : l.length + r.length ≤ 140737488355328) (hbase : base ≤ w.heap.size)
  (h : ∀ v' w', OwnG f e k w' base v' (l ++ r) → Below base w w' → wpList Tryz.prog ops Q rest (a.put o.dst v') w') : wpList Tryz.prog ops Q (o :: rest) a w :=
 wpList_plain hgd fun K hK => by
  obtain ⟨v', w', hrun, h2, h3⟩ := append_ready T hown c hr h0 hsl hb h63 hbase o.type
  unfold Oper.wp execOp
  simp only [ho, resolve, invoke, builtin, Sem.run_bind, Sem.run_pure, Result.andThen_ok, List.map_toArray, List.map_cons, List.map_nil, hs, hx, hrun]
  exact hK _ _ (h v' w' h2 h3)
theorem src_new (_T : RowT f k bytes st e) {w : World} {B : Nat} {r : List α} {ty : TypeId} (hB : w.heap[B]? = some (.cells (flatG f r).toArray ty (0, 0))) : SrcG f w (some ⟨B, 0, none⟩) r := by
 refine ⟨fun q => (nomatch q), ?_⟩
 intro ad q j u hu
 cases q
 rw [add_plainG, cell_blk hB, Nat.zero_add]
 simpa using hu
theorem SlAt.upd {w w' : World} {v : Value} {l : List α} (h : SlAt k (CellsAt f) w v l) (T : RowT f k bytes st e) {F : List Nat} (u : Upd F w w') (hF : ∀ g, v.ownBlock = some g → g ∉ F) : SlAt k (CellsAt f) w' v l := by
 obtain ⟨a, cap, rfl, h1, h2, h3⟩ := h
 refine ⟨a, cap, rfl, h1, h2, fun i hi => ?_⟩
 obtain ⟨b, off, rfl, hc⟩ := h3 i hi
 refine ⟨b, off, rfl, hc.same (u.block b ?_ (hF b rfl))⟩
 have hl := T.len l[i]
 have hk := T.pos
 have : (f l[i])[0]? = some (f l[i])[0] := List.getElem?_eq_getElem (by omega)
 exact World.block_lt_of_cell? _ _ (hc 0 _ this)
end
abbrev c8 (b : UInt8) : List Value := [.int .u8 b.toNat]
theorem T8 : RowT c8 1 1 23 5 where
 len := fun _ => rfl
 pos := by omega
 und := Tryz.underlying23
 info := by
  obtain ⟨i, h, h1, h2, h3⟩ := info_parts (show (Tryz.prog.info? 5).map (fun i => (i.zero, i.size, i.bytes)) = some (some (.int .u8 0), 1, 1) by kernel_rfl)
  exact ⟨i, _, h, h1, h2, h3, rfl⟩
theorem one8 (l : Bs) : ∀ x ∈ l, ∀ u ∈ c8 x, u.oneCell' = true := by
 intro x _ u hu
 simp only [c8, List.mem_cons, List.not_mem_nil, or_false] at hu
 subst hu; rfl
structure Rd (w : World) (v : Value) (l : Bs) : Prop where
 sl : SlAt 1 (CellsAt c8) w v l
 nl : ∀ n c, v = .slice none n c → c = 0
abbrev Ow (w : World) (base : Nat) (v : Value) (l : Bs) : Prop := OwnG c8 5 1 w base v l
abbrev Rdy (w : World) (base : Nat) (v : Value) (l : Bs) : Prop := Ready c8 5 1 w base v l
theorem Rd.rdy {w : World} {a : Option Addr} {n c : Nat} {l : Bs} (h : Rd w (.slice a n c) l) (base : Nat) : Rdy w base (.slice a n n) l := by
 obtain ⟨⟨a', c', hv, h1, h2, h3⟩, -⟩ := h
 simp only [Value.slice.injEq] at hv
 obtain ⟨rfl, rfl, rfl⟩ := hv
 exact .inl ⟨⟨a, rfl⟩, a, _, rfl, Nat.le_refl _, Nat.le_trans h1 h2, h3⟩
theorem Ow.rd {w : World} {base : Nat} {v : Value} {l : Bs} (h : Ow w base v l) : Rd w v l := ⟨OwnG.sl T8 h, fun n c e => by
 rcases h.2 with ⟨h, -⟩ | ⟨g, cap, cur, h, -⟩
 ·rw [h] at e; cases e; rfl
 ·rw [h] at e; cases e⟩
theorem Rd.upd {w w' : World} {v : Value} {l : Bs} (h : Rd w v l) {F : List Nat} (u : Upd F w w') (hF : ∀ g, v.ownBlock = some g → g ∉ F) : Rd w' v l := ⟨SlAt.upd h.sl T8 u hF, h.nl⟩
theorem Rd.keep {w w' : World} {v : Value} {l : Bs} (h : Rd w v l) (u : Upd [] w w') : Rd w' v l := h.upd u (by simp)
theorem Rd.src {w : World} {a : Option Addr} {n c : Nat} {l : Bs} (h : Rd w (.slice a n c) l) : SrcG c8 w a l := SlAt.srcG T8 (fun _ _ _ h => h) h.sl
theorem Rd.slice {w : World} {v : Value} {l : Bs} (h : Rd w v l) : ∃ a c, v = .slice a l.length c ∧ l.length ≤ c ∧ c ≤ 9223372036854775807 ∧ (a = none → l.length = 0 ∧ c = 0) := by
 obtain ⟨⟨a, c, rfl, h1, h2, h3⟩, h4⟩ := h
 refine ⟨a, c, rfl, h1, by unfold maxLen at h2; omega, fun e => ?_⟩
 subst e
 have := h4 _ _ rfl
 omega
theorem flat8 (l : Bs) : flatG c8 l = l.map fun b => .int .u8 b.toNat := by
 induction l with
 | nil => rfl
 | cons b l ih => simp only [flatG, List.flatMap_cons, List.map_cons, c8] at ih ⊢; rw [ih]; rfl
theorem Rd.nil (w : World) : Rd w (.slice none 0 0) [] := ⟨⟨none, 0, rfl, Nat.le_refl _, by unfold maxLen; omega, fun i hi => absurd hi (by simp)⟩, fun n c e => by cases e; rfl⟩
theorem Rd.cell {w : World} {a : Option Addr} {n c : Nat} {l : Bs} (h : Rd w (.slice a n c) l) : n = l.length ∧ n ≤ c ∧ c ≤ maxLen ∧ (0 < n → ∃ b off, a = some ⟨b, off, none⟩ ∧ ∀ i (hi : i < l.length), w.cell? ⟨b, off + i, none⟩ = some (.int .u8 l[i].toNat)) := by
 obtain ⟨⟨a', c', hv, h1, h2, h3⟩, -⟩ := h
 simp only [Value.slice.injEq] at hv
 obtain ⟨rfl, rfl, rfl⟩ := hv
 refine ⟨rfl, h1, h2, fun h0 => ?_⟩
 obtain ⟨b, off, rfl, -⟩ := h3 0 h0
 refine ⟨b, off, rfl, fun i hi => ?_⟩
 obtain ⟨b', off', e, hc⟩ := h3 i hi
 cases e
 have := hc 0 _ rfl
 simpa using this
theorem Ready.keep {α : Type} {f : α → List Value} {k bytes : Nat} {st e : TypeId} (T : RowT f k bytes st e) {w w' : World} {base : Nat} {v : Value} {l : List α} (h : Ready f e k w base v l) (u : Upd [] w w') : Ready f e k w' base v l := by
 rcases h with ⟨h1, h2⟩ | h
 ·exact .inl ⟨h1, SlAt.upd h2 T u (by simp)⟩
 ·exact .inr (h.upd u (by simp))
theorem heap_top (w : World) (o : Obj) : (w.alloc o).heap[w.heap.size]? = some o := by rw [heap_alloc, if_pos rfl]
theorem src_byte (w : World) {x : Int} {b : UInt8} (h : x = b.toNat) (ty : TypeId) : SrcG c8 (w.alloc (.cells #[.int .u8 x] ty)) (some ⟨w.heap.size, 0, none⟩) [b] :=
 src_new T8 (by subst h; exact heap_top _ _)
theorem bits_of {k : IntKind} (hw : ∀ x : Nat, x < 2 ^ k.bits → k.wrap (x : Int) = x) {a b : Nat} (ha : a < 2 ^ k.bits) (hb : b < 2 ^ k.bits) :
  bits .or k (a : Int) (b : Int) = ((a ||| b : Nat) : Int) ∧ bits .and k (a : Int) (b : Int) = ((a &&& b : Nat) : Int) ∧ bits .xor k (a : Int) (b : Int) = ((a ^^^ b : Nat) : Int) := by
 have h1 : (BitVec.ofInt k.bits (a : Int)).toNat = a := by rw [BitVec.ofInt_natCast, BitVec.toNat_ofNat]; exact Nat.mod_eq_of_lt ha
 have h2 : (BitVec.ofInt k.bits (b : Int)).toNat = b := by rw [BitVec.ofInt_natCast, BitVec.toNat_ofNat]; exact Nat.mod_eq_of_lt hb
 refine ⟨?_, ?_, ?_⟩
 ·show k.wrap ((BitVec.ofInt k.bits (a : Int) ||| BitVec.ofInt k.bits (b : Int)).toNat : Int) = _
  rw [BitVec.toNat_or, h1, h2, hw _ (Nat.or_lt_two_pow ha hb)]
 ·show k.wrap ((BitVec.ofInt k.bits (a : Int) &&& BitVec.ofInt k.bits (b : Int)).toNat : Int) = _
  rw [BitVec.toNat_and, h1, h2, hw _ (Nat.and_lt_two_pow _ hb)]
 ·show k.wrap ((BitVec.ofInt k.bits (a : Int) ^^^ BitVec.ofInt k.bits (b : Int)).toNat : Int) = _
  rw [BitVec.toNat_xor, h1, h2, hw _ (Nat.xor_lt_two_pow ha hb)]
theorem bits8 {a b : Nat} (ha : a < 256) (hb : b < 256) : bits .or .u8 (a : Int) (b : Int) = ((a ||| b : Nat) : Int) ∧ bits .and .u8 (a : Int) (b : Int) = ((a &&& b : Nat) : Int) ∧ bits .xor .u8 (a : Int) (b : Int) = ((a ^^^ b : Nat) : Int) :=
 bits_of (k := .u8) (fun x hx => by rw [IntKind.wrap_u8]; have : x < 256 := hx; omega) ha hb
theorem bits32 {a b : Nat} (ha : a < 4294967296) (hb : b < 4294967296) : bits .or .u32 (a : Int) (b : Int) = ((a ||| b : Nat) : Int) ∧ bits .and .u32 (a : Int) (b : Int) = ((a &&& b : Nat) : Int) ∧ bits .xor .u32 (a : Int) (b : Int) = ((a ^^^ b : Nat) : Int) :=
 bits_of (k := .u32) (fun x hx => by rw [IntKind.wrap_u32]; have : x < 4294967296 := hx; omega) ha hb
theorem bits64 {a b : Nat} (ha : a < 18446744073709551616) (hb : b < 18446744073709551616) : bits .or .u64 (a : Int) (b : Int) = ((a ||| b : Nat) : Int) ∧ bits .and .u64 (a : Int) (b : Int) = ((a &&& b : Nat) : Int) ∧ bits .xor .u64 (a : Int) (b : Int) = ((a ^^^ b : Nat) : Int) :=
 bits_of (k := .u64) (fun x hx => by rw [IntKind.wrap_u64]; have : x < 18446744073709551616 := hx; omega) ha hb
theorem step_append_G {α : Type} {f : α → List Value} {k bytes : Nat} {st e : TypeId} (T : RowT f k bytes st e) {ops : Array Oper} {o : Oper} {a : Act} {w : World} {K : Act → World → Prop} {Q : Exit → Act → World → Prop} {E : Prop}
  (hgd : o.guard = none) (s x : Operand) (ho : o.op = Op.call { callee := Callee.builtin Builtin.append, args := #[s, x], argTypes := #[st, st] }) {base : Nat} {v : Value} {l : List α} (hs : a.eval s = v) (hown : OwnG f e k w base v l)
  {A : Option Addr} {c : Nat} {r : List α} (hx : a.eval x = .slice A r.length c) (hr : SrcG f w A r) (hsl : ∀ x ∈ r, ∀ u ∈ f x, u.oneCell' = true) (hb : (l.length + r.length) * bytes ≤ 140737488355328) (h63 : l.length + r.length ≤ 140737488355328) (hbase : base ≤ w.heap.size)
  (hK : ∀ v' w', OwnG f e k w' base v' (l ++ r) → w.grownBy w' v.ownBlock → (v'.ownBlock = v.ownBlock ∨ ∀ g, v'.ownBlock = some g → w.heap.size ≤ g) → K (a.put o.dst v') w') :
  if Region.wanted o (yielded ops a.tmps) = true then Oper.wp Tryz.prog o a w K Q else E := by
 have hw : Region.wanted o (yielded ops a.tmps) = true := by simp [Region.wanted, hgd]
 obtain ⟨v', w', hrun, h2, h3, h4⟩ := append_G T hown c hr hsl hb h63 hbase o.type
 rw [if_pos hw]
 unfold Oper.wp
 simp [execOp, ho, resolve, invoke, builtin, hs, hx, hrun, Result.andThen]
 exact hK _ _ h2 h3 h4
theorem held1 {w w' : World} (u : Upd [] w w') {b0 o0 : Nat} {v0 : Value} (h : w.cell? ⟨b0, o0, none⟩ = some v0) : w'.cell? ⟨b0, o0, none⟩ = some v0 := cell_keep u h
theorem held2 {w w' : World} (u : Upd [] w w') {b0 o0 b1 o1 : Nat} {v0 v1 : Value} (h : w.cell? ⟨b0, o0, none⟩ = some v0 ∧ w.cell? ⟨b1, o1, none⟩ = some v1) : w'.cell? ⟨b0, o0, none⟩ = some v0 ∧ w'.cell? ⟨b1, o1, none⟩ = some v1 := ⟨cell_keep u h.1, cell_keep u h.2⟩
end Go.Proofs.YtgpefiacbipfpaaGreatDoor

namespace Go.Proofs.YtgpefiacbipfpaaGreatDoor
open Go.RowKit
set_option maxRecDepth 100000 in
theorem room_ok (w : World) (a : Option Addr) (n c : Nat) (hn : n ≤ c) (hc : c ≤ 9223372036854775807) (h0 : a = none → n = 0 ∧ c = 0) : Calls Tryz.prog 143 #[.slice a n c] w fun e w' => e = .returned (.slice a n n) ∧ w = w' := by
 rcases a with _ | ⟨b, o, p⟩
 ·obtain ⟨rfl, rfl⟩ := h0 rfl
  go_enter Tryz.func143, Tryz.ntmps143
  go_wp2_with fail
  go_ret
  exact ⟨rfl, rfl⟩
 ·go_enter Tryz.func143, Tryz.ntmps143
  go_wp2_with fail
  go_ret
  exact ⟨rfl, rfl⟩
def hiB (n : Nat) : UInt8 := UInt8.ofNat (n % 128 + 128)
def loB (n : Nat) : UInt8 := UInt8.ofNat n
set_option maxRecDepth 10000 in
theorem or128 : ∀ a : Fin 256, a.val ||| 128 = a.val % 128 + 128 := by decide
theorem byte_hi (n : Nat) : bits .or .u8 ((n : Int) % 256) 128 = ((hiB n).toNat : Nat) := by
 have h := (bits8 (a := n % 256) (b := 128) (Nat.mod_lt _ (by omega)) (by omega)).1
 have e : ((n : Int) % 256) = ((n % 256 : Nat) : Int) := by omega
 rw [e]
 refine h.trans ?_
 rw [hiB, UInt8.toNat_ofNat']
 congr 1
 have h1 : n % 256 = 128 * (n % 256 / 128) + n % 256 % 128 := (Nat.div_add_mod _ _).symm
 have h2 : n % 256 % 128 = n % 128 := by omega
 have h3 := or128 ⟨n % 256, Nat.mod_lt _ (by omega)⟩
 dsimp only at h3
 rw [h3, h2]
 omega
theorem byte_lo {n : Nat} (h : n < 256) : (n : Int) = ((loB n).toNat : Nat) := by
 rw [loB, UInt8.toNat_ofNat']; omega
set_option maxRecDepth 100000 in
set_option maxHeartbeats 1000000 in
theorem putUint_ok (w : World) {v : Value} {l : Bs} (h : Rd w v l) (n : Nat) (hn : n < 18446744073709551616) (hl : l.length ≤ 100000000) : Calls Tryz.prog 95 #[v, .int .u64 n] w fun e w' => ∃ v', e = .returned v' ∧ Ow w' w.heap.size v' (l ++ putU n) ∧ Upd [] w w' := by
 obtain ⟨a, c, rfl, h1, h2, h3⟩ := h.slice
 have HR := Lib.hid (h.rdy w.heap.size)
 clear h
 go_enter Tryz.func95, Tryz.ntmps95
 go_wp2_with fail
 refine (room_ok w a l.length c h1 h2 h3).mono ?_
 rintro e w1 ⟨rfl, rfl⟩
 go_wp2_with fail
 go_loopg [0, 1] n (fun k v u wr => ∃ lv : Bs, u = .int .u64 k ∧ k < 18446744073709551616 ∧ Hid (Rdy wr w.heap.size v lv) ∧ Hid (lv ++ putU k = l ++ putU n) ∧ Hid (Upd [] w wr))
 case atStart => exact ⟨l, rfl, hn, HR, Lib.hid rfl, Lib.hid (Upd.refl _ _)⟩
 case round =>
  obtain ⟨lv, rfl, hk, HV, HE, HU⟩ := hrel
  have hlv : lv.length ≤ 100000010 := by
   have h1 := congrArg List.length HE.out
   have h2 := putU_len64 (n := n) hn
   simp only [List.length_append] at h1
   omega
  by_cases h128 : gk < 128
  ·have hc : ¬ (128 : Int) ≤ (gk : Int) := by omega
   have hB := HU.out.size
   go_wp2_with (at_builtin; refine wpList_append_ready T8 rfl _ _ rfl (base := w.heap.size) (l := lv) rfl (HV.out.keep T8 ((Upd.refl [] wr).alloc _)) rfl (src_byte _ (byte_lo (n := gk) (by omega)) _) (by simp) (one8 _) ?c1 ?c2 ?c3 ?_)
   case c1 => (first | omega | (simp; omega))
   case c2 => (first | omega | (simp; omega))
   case c3 => (first | omega | (simp; omega))
   intro v2 w2 hown2 hb2
   have HU2 : Hid (Upd [] w w2) := Lib.hid ((HU.out.alloc _).below hb2 (Nat.le_refl _))
   have hE := HE.out
   rw [putU_lt h128, ← loB] at hE
   clear hb2 HV HU HE
   go_wp2_with fail
   go_ret
   exact ⟨_, rfl, by rw [← hE]; exact hown2, HU2.out⟩
  ·have hc : (128 : Int) ≤ (gk : Int) := by omega
   have hB := HU.out.size
   go_wp2_with (at_builtin; refine wpList_append_ready T8 rfl _ _ rfl (base := w.heap.size) (l := lv) rfl (HV.out.keep T8 ((Upd.refl [] wr).alloc _)) rfl (src_byte _ (byte_hi gk) _) (by simp) (one8 _) ?c1 ?c2 ?c3 ?_)
   case c1 => (first | omega | (simp; omega))
   case c2 => (first | omega | (simp; omega))
   case c3 => (first | omega | (simp; omega))
   intro v2 w2 hown2 hb2
   have HU2 : Hid (Upd [] w w2) := Lib.hid ((HU.out.alloc _).below hb2 (Nat.le_refl _))
   have HE2 : Hid ((lv ++ [hiB gk]) ++ putU (gk / 128) = l ++ putU n) := Lib.hid (by rw [← HE.out, putU_ge h128, ← hiB, List.append_assoc]; rfl)
   have HV2 : Hid (Rdy w2 w.heap.size v2 (lv ++ [hiB gk])) := Lib.hid (.inr hown2)
   clear hb2 HV HU HE hown2
   go_wp2_with fail
   go_roundg (gk / 128)
   case rel => exact ⟨_, by go_num, by omega, HV2, HE2, HU2⟩
   case measure => omega
end Go.Proofs.YtgpefiacbipfpaaGreatDoor
