/- The calls of a live file system: Create, Remove, Rename, Size, Read, Free, List. Laid: a device with an empty file system. awake: the chapter's examples are so. -/
import Derived.Test.YteepgehjkcahiaaGreatC34
namespace Go.Proofs.YteepgehjkcahiaaGreat
open Go.RowKit Go.Maps
section
variable {w w' : World} {v p : Nat} {D : Dev} {room k s : Nat} {fs last : Files} {X : Fsd}
theorem FsAt.next (h : FsAt w v p D room k s fs last X) {G : List Nat} (u : Upd G w w') (hG : ∀ i ∈ G, i = v ∨ i = X.j ∨ i = X.q ∨ i = X.mf) (hb : w'.heap[v]? = some (boxF X.j X.c X.q X.mf X.ml X.va false)) (hl : LogR w' X.j p (room + 16) k false) {fs' : Files} {A : Bs → Nat} {R : Bs → Value} {FM : List Nat}
  (hf : FilR w' X.mf fs' A R FM) (hFM : ∀ i ∈ FM, i ∈ X.FM ∨ w.heap.size ≤ i) {nv : Value} (hm : MapR w' X.base X.q nv X.lv (marks room fs') (marks room last)) (hnv : nv = X.nv ∨ ∀ g, nv.ownBlock = some g → w.heap.size ≤ g ∧ g ∉ FM) (hinv : FsInv D.blk room k s fs' last) : FsNext w v p room X D k s fs' last w' := by
 have sp := h.sep
 have hlt := h.lt
 have hGf : ∀ i ∈ G, i ∈ X.fp v := fun i hi => by
  rcases hG i hi with q | q | q | q
  ·exact mem_fp.2 (by simp [q])
  ·exact mem_fp.2 (by simp [q])
  ·exact mem_fp.2 (by simp [q])
  ·exact mem_fp.2 (by simp [q, h.fil.mem])
 have hoff : ∀ {i x : Nat}, X.T i = x → x ≠ 1 → x ≠ 2 → x ≠ 5 → x ≠ 7 → i ∉ G := fun h1 h2 h3 h4 h5 hi => by
  rcases hG _ hi with q | q | q | q
  ·exact tag_ne h1 sp.v h2 q
  ·exact tag_ne h1 sp.j h3 q
  ·exact tag_ne h1 sp.q h5 q
  ·exact tag_ne h1 (sp.FM _ h.fil.mem) h4 q
 have old : ∀ {i x : Nat}, i ∈ X.fp v → X.T i = x → (if w.heap.size ≤ i then (if i ∈ FM then 5 else 8) else X.T i) = x := fun h1 h2 => by
  rw [if_neg (by have := hlt _ h1; omega), h2]
 refine ⟨{ X with A := A, R := R, FM := FM, nv := nv, T := fun i => if w.heap.size ≤ i then (if i ∈ FM then 5 else 8) else X.T i }, ⟨hb, ⟨hl, h.log.dev.upd u fun i hi => hoff (sp.F i hi) (by decide) (by decide) (by decide) (by decide), h.log.ca.upd u fun i hi => hoff (sp.FC i hi) (by decide) (by decide) (by decide) (by decide), h.log.jF, h.log.jC, h.log.ap, h.log.nD, fun i hi => Nat.lt_of_lt_of_le (h.log.lt i hi) u.size⟩,
  hf, h.las.upd u fun i hi => hoff (sp.FL i hi) (by decide) (by decide) (by decide) (by decide), hm, h.dir.upd u fun i hi e => hoff (sp.va i e) (by decide) (by decide) (by decide) (by decide) hi, h.up, hinv, h.see, ?_⟩, upd_fp u hGf, fun i hi => ?_⟩
 ·exact {
   v := old (mem_fp.2 (by simp)) sp.v
   j := old (mem_fp.2 (by simp)) sp.j
   F := fun i hi => old (mem_fp.2 (by simp at hi; simp [hi])) (sp.F i hi)
   FC := fun i hi => old (mem_fp.2 (by simp at hi; simp [hi])) (sp.FC i hi)
   FM := fun i hi => by
    show (if _ then _ else _) = _
    rcases hFM i hi with q | q
    ·exact old (mem_fp.2 (by simp [q])) (sp.FM i q)
    ·rw [if_pos q, if_pos hi]
   FL := fun i hi => old (mem_fp.2 (by simp at hi; simp [hi])) (sp.FL i hi)
   q := old (mem_fp.2 (by simp)) sp.q
   nv := fun g hg => by
    show (if _ then _ else _) = _
    have hg' : nv.ownBlock = some g := hg
    rcases hnv with q | q
    ·rw [q] at hg'; exact old (mem_fp.2 (by simp [hg'])) (sp.nv g hg')
    ·have := q g hg'; rw [if_pos this.1, if_neg this.2]
   lv := fun g hg => old (mem_fp.2 (by simp at hg; simp [hg])) (sp.lv g hg)
   va := fun g hg => old (mem_fp.2 (by simp at hg; simp [hg])) (sp.va g hg) }
 ·rcases mem_fp.1 hi with q | q | q | q | q | q | q | q | q | q
  ·exact .inl (mem_fp.2 (by simp [q]))
  ·exact .inl (mem_fp.2 (by simp at q; simp [q]))
  ·exact .inl (mem_fp.2 (by simp at q; simp [q]))
  ·exact .inl (mem_fp.2 (by simp at q; simp [q]))
  ·exact .inl (mem_fp.2 (by simp at q; simp [q]))
  ·rcases hFM i q with q | q
   ·exact .inl (mem_fp.2 (by simp [q]))
   ·exact .inr q
  ·exact .inl (mem_fp.2 (by simp at q; simp [q]))
  ·have q' : nv.ownBlock = some i := q
   rcases hnv with e | e
   ·rw [e] at q'; exact .inl (mem_fp.2 (by simp [q']))
   ·exact .inr (e i q').1
  ·exact .inl (mem_fp.2 (by simp at q; simp [q]))
  ·exact .inl (mem_fp.2 (by simp at q; simp [q]))
theorem marks_put_empty {fs : Files} (hs : Srt ltN fs) {nm : Bs} (hg : getA fs nm = none) (room : Nat) : marks room (putA ltN fs nm emptyF) = marks room fs := marks_congr fun b => by
 rw [mem_all_put hs, emptyF_blks]
 constructor
 ·rintro (h | ⟨p, hp, -, hb⟩)
  ·simp at h
  ·exact mem_all hp hb
 ·intro h
  obtain ⟨p, hp, hb⟩ := List.mem_flatMap.1 h
  exact .inr ⟨p, hp, getA_none.1 hg p hp, hb⟩
theorem marks_del {fs : Files} (hok : FilesOk room fs) {nm : Bs} {f : Fil} (hg : getA fs nm = some f) : clearL (marks room fs) f.runs = marks room (delA fs nm) := by
 refine marks_ext (by rw [clearL_len, marks_len]) fun b hb => ?_
 rw [clearL_get, marks_get fs hb]
 have hmem : b ∈ allBlks (delA fs nm) ↔ ∃ p ∈ fs, p.1 ≠ nm ∧ b ∈ p.2.blks := by
  constructor
  ·intro h
   obtain ⟨p, hp, hb⟩ := List.mem_flatMap.1 h
   exact ⟨p, (mem_delA.1 hp).1, (mem_delA.1 hp).2, hb⟩
  ·rintro ⟨p, hp, hn, hb⟩
   exact List.mem_flatMap.2 ⟨p, mem_delA.2 ⟨hp, hn⟩, hb⟩
 by_cases q : b ∈ expand f.runs
 ·rw [if_pos q]
  have : b ∉ allBlks (delA fs nm) := fun h => by
   obtain ⟨p, hp, hn, hb⟩ := hmem.1 h
   exact apart_of hok.nodup hp (getA_mem hg) hn b hb q
  simp [this]
 ·rw [if_neg q]
  have : b ∈ allBlks fs ↔ b ∈ allBlks (delA fs nm) := by
   rw [mem_all_get hok.srt hg, hmem]
   constructor
   ·rintro (h | h)
    ·exact absurd h q
    ·exact h
   ·exact .inr
  simp [this]
theorem delA_none {fs : Files} {nm : Bs} (hg : getA fs nm = none) : delA fs nm = fs := by
 unfold delA
 rw [List.filter_eq_self]
 intro p hp
 have := getA_none.1 hg p hp
 simp [this]
theorem FilesOk.inUse {fs : Files} (h : FilesOk room fs) (hr : room ≤ 512) {nm : Bs} {f : Fil} (hg : getA fs nm = some f) : InUse (marks room fs) f where
 few := by have := (h.ok _ (getA_mem hg)).small hr; exact this.len
 fit := fun r hr' => ⟨canon_pos (h.ok _ (getA_mem hg)).canon r hr', by rw [marks_len]; exact (h.ok _ (getA_mem hg)).le r hr'⟩
 nd := blks_nodup h.nodup (getA_mem hg)
 use := fun b hb => by
  have hb' : b ∈ f.blks := hb
  rw [marks_get fs ((h.ok _ (getA_mem hg)).blks_lt b hb')]
  simp [mem_all (getA_mem hg) hb']
theorem gone_no (h : FsAt w v p D room k s fs last X) : (false || (false || D.down)) = false := by rw [h.up]; rfl
def crtF (fs : Files) (nm : Bs) : Files := if codeC false fs nm = 0 then putA ltN fs nm emptyF else fs
theorem codeC_zero {fs : Files} {nm : Bs} (h : codeC false fs nm = 0) : (1 ≤ nm.length ∧ nm.length ≤ 40) ∧ getA fs nm = none ∧ fs.length < 64 := by
 unfold codeC at h
 rw [if_neg (by decide)] at h
 split at h
 ·omega
 ·split at h
  ·omega
  ·split at h
   ·omega
   ·rename_i h1 h2 h3
    refine ⟨by omega, ?_, by omega⟩
    cases hg : getA fs nm with
    | none => rfl
    | some f => rw [hg] at h2; exact absurd rfl h2
theorem Lcreate (h : FsAt w v p D room k s fs last X) (nm : ByteArray) (hs : nm.size ≤ maxLen) :
  Calls Tryz.prog 15 #[.pointer (some ⟨v, 0, none⟩), .string nm] w fun r w' => r = .returned (.int .i64 (codeC false fs nm.data.toList)) ∧ FsNext w v p room X D k s (crtF fs nm.data.toList) last w' := by
 obtain ⟨o1, o2, o3, o4, o5, o6, o7, o8, o9, o10, o11, o12, o13, o14, o15⟩ := h.off
 have hfew := h.inv.few
 refine (fcreate_ok w h.box h.log.log h.log.dev (by omega) o1 h.fil h.inv.now.srt h.inv.now.few o4 o9 nm hs).mono ?_
 rintro r w' ⟨rfl, hb, hl, hbad, hok⟩
 rw [gone_no h] at hb hbad hok
 rw [h.up] at hl
 refine ⟨by rw [gone_no h], ?_⟩
 unfold crtF
 by_cases hc : codeC false fs nm.data.toList = 0
 ·rw [if_pos hc]
  obtain ⟨a, ha, hu, hf⟩ := hok hc
  obtain ⟨hn, hg, h64⟩ := codeC_zero hc
  have hG : ∀ i ∈ [v, X.j, X.mf], i = v ∨ i = X.j ∨ i = X.q ∨ i = X.mf := fun i hi => by
   simp only [List.mem_cons, List.not_mem_nil, or_false] at hi
   rcases hi with q | q | q <;> simp [q]
  have sp := h.sep
  refine h.next hu hG hb (by simpa using hl) hf (fun i hi => ?_) (nv := X.nv) ?_ (.inl rfl) (h.inv.create hn hg h64)
  ·rcases List.mem_cons.1 hi with q | q
   ·rw [q]; exact .inr ha
   ·exact .inl q
  ·rw [marks_put_empty h.inv.now.srt hg]
   have off : ∀ {i x : Nat}, X.T i = x → x ≠ 1 → x ≠ 2 → x ≠ 5 → i ∉ [v, X.j, X.mf] := fun h1 h2 h3 h4 hi => by
    simp only [List.mem_cons, List.not_mem_nil, or_false] at hi
    rcases hi with q | q | q
    ·exact tag_ne h1 sp.v h2 q
    ·exact tag_ne h1 sp.j h3 q
    ·exact tag_ne h1 (sp.FM _ h.fil.mem) h4 q
   exact h.map.upd hu (off sp.q (by decide) (by decide) (by decide)) (fun i hi e => off (sp.nv i e) (by decide) (by decide) (by decide) hi) (fun i hi e => off (sp.lv i e) (by decide) (by decide) (by decide) hi)
 ·rw [if_neg hc]
  have hu := hbad hc
  exact FsNext.same (h.used hu hb (by simpa using hl)) (FsAt.upd_used hu)
theorem Lremove (h : FsAt w v p D room k s fs last X) (h1 : 1 ≤ room) (nm : ByteArray) (hs : nm.size ≤ maxLen) :
  Calls Tryz.prog 19 #[.pointer (some ⟨v, 0, none⟩), .string nm] w fun r w' => r = .returned (.int .i64 (codeF false fs nm.data.toList)) ∧ FsNext w v p room X D k s (delA fs nm.data.toList) last w' := by
 obtain ⟨o1, o2, o3, o4, o5, o6, o7, o8, o9, o10, o11, o12, o13, o14, o15⟩ := h.off
 have hfew := h.inv.few
 refine (fremove_ok w h.box h.log.log h.log.dev (by omega) o1 h.fil o4 o9 h.map (by rw [marks_len]; omega) (by rw [marks_len]; omega) o14 (fun e => o6 e.symm) (fun e => o11 e.symm) nm hs fun f hg => h.inv.now.inUse (by omega) hg).mono ?_
 rintro r w' ⟨rfl, hb, hl, hbad, hok⟩
 rw [gone_no h] at hb hbad hok
 rw [h.up] at hl
 refine ⟨by rw [gone_no h], ?_⟩
 by_cases hc : codeF false fs nm.data.toList = 0
 ·obtain ⟨f, nv', hg, hu, hf, hm, hnv⟩ := hok hc
  rw [marks_del h.inv.now hg] at hm
  refine h.next hu (fun i hi => ?_) hb (by simpa using hl) hf (fun i hi => .inl hi) hm (.inr fun g hg => ⟨hnv g hg, fun q => ?_⟩) (h.inv.remove _)
  ·simp only [List.mem_cons, List.not_mem_nil, or_false] at hi
   rcases hi with q | q | q | q <;> simp [q]
  ·have := hnv g hg
   have := h.fil.lt g q
   omega
 ·have hu := hbad hc
  have hn : getA fs nm.data.toList = none := by
   unfold codeF at hc
   rw [if_neg (by decide)] at hc
   cases hg : getA fs nm.data.toList with
   | none => rfl
   | some f => rw [hg] at hc; exact absurd rfl hc
  rw [delA_none hn]
  exact FsNext.same (h.used hu hb (by simpa using hl)) (FsAt.upd_used hu)
def renF (fs : Files) (a b : Bs) : Files := if codeN false fs a b ≠ 0 ∨ a = b then fs else match getA fs a with | some f => putA ltN (delA (delA fs b) a) b f | none => fs
theorem codeN_zero {fs : Files} {a b : Bs} (h : codeN false fs a b = 0) : 1 ≤ b.length ∧ b.length ≤ 40 := by
 unfold codeN at h
 rw [if_neg (by decide)] at h
 split at h
 ·split at h
  ·omega
  ·omega
 ·omega
theorem marks_ren {fs : Files} (hok : FilesOk room fs) {a b : Bs} {f : Fil} (hg : getA fs a = some f) (hne : a ≠ b) : (match getA fs b with | some g => clearL (marks room fs) g.runs | none => marks room fs) = marks room (putA ltN (delA (delA fs b) a) b f) := by
 have h1 : (match getA fs b with | some g => clearL (marks room fs) g.runs | none => marks room fs) = marks room (delA fs b) := by
  cases hb : getA fs b with
  | some g => exact marks_del hok hb
  | none => rw [delA_none hb]
 rw [h1]
 have hok1 := del_ok hok b
 have hg1 : getA (delA fs b) a = some f := by rw [getA_delA, if_neg (Ne.symm hne), hg]
 refine marks_congr fun x => ?_
 rw [mem_all_get hok1.srt hg1, mem_all_put (srt_delA hok1.srt a)]
 constructor
 ·rintro (h | ⟨p, hp, hn, hb⟩)
  ·exact .inl h
  ·exact .inr ⟨p, mem_delA.2 ⟨hp, hn⟩, (mem_delA.1 hp).2, hb⟩
 ·rintro (h | ⟨p, hp, hn, hb⟩)
  ·exact .inl h
  ·exact .inr ⟨p, (mem_delA.1 hp).1, (mem_delA.1 hp).2, hb⟩
theorem Lrename (h : FsAt w v p D room k s fs last X) (h1 : 1 ≤ room) (a b : ByteArray) (hs : a.size ≤ maxLen) (ht : b.size ≤ maxLen) :
  Calls Tryz.prog 21 #[.pointer (some ⟨v, 0, none⟩), .string a, .string b] w fun r w' => r = .returned (.int .i64 (codeN false fs a.data.toList b.data.toList)) ∧ FsNext w v p room X D k s (renF fs a.data.toList b.data.toList) last w' := by
 obtain ⟨o1, o2, o3, o4, o5, o6, o7, o8, o9, o10, o11, o12, o13, o14, o15⟩ := h.off
 have hfew := h.inv.few
 refine (frename_ok w h.box h.log.log h.log.dev (by omega) o1 o2 o7 h.fil h.inv.now.srt h.inv.now.few o4 o9 h.map (by rw [marks_len]; omega) (by rw [marks_len]; omega) o14 (fun e => o6 e.symm) (fun e => o11 e.symm) a b hs ht fun f hg => h.inv.now.inUse (by omega) hg).mono ?_
 rintro r w' ⟨rfl, hb, hl, hbad, hok⟩
 rw [gone_no h] at hb hbad hok
 rw [h.up] at hl
 refine ⟨by rw [gone_no h], ?_⟩
 unfold renF
 by_cases hc : codeN false fs a.data.toList b.data.toList ≠ 0 ∨ a.data.toList = b.data.toList
 ·rw [if_pos hc]
  have hu := hbad hc
  exact FsNext.same (h.used hu hb (by simpa using hl)) (FsAt.upd_used hu)
 ·rw [if_neg hc]
  have hc0 : codeN false fs a.data.toList b.data.toList = 0 := by
   by_cases q : codeN false fs a.data.toList b.data.toList = 0
   ·exact q
   ·exact absurd (.inl q) hc
  have hne : a.data.toList ≠ b.data.toList := fun e => hc (.inr e)
  obtain ⟨f, nv', now', hg, hu, hf, hm, hnv, hnow⟩ := hok hc0 hne
  rw [hg]
  have hnow2 : now' = marks room (putA ltN (delA (delA fs b.data.toList) a.data.toList) b.data.toList f) := hnow.trans (marks_ren h.inv.now hg hne)
  rw [hnow2] at hm
  refine h.next hu (fun i hi => ?_) hb (by simpa using hl) hf (fun i hi => .inl hi) hm ?_ (h.inv.rename (codeN_zero hc0) hg hne)
  ·simp only [List.mem_cons, List.not_mem_nil, or_false] at hi
   rcases hi with q | q | q | q <;> simp [q]
  ·rcases hnv with q | q
   ·exact .inl q
   ·refine .inr fun g hg => ⟨q g hg, fun e => ?_⟩
    have := q g hg
    have := h.fil.lt g e
    omega
def sizeF (fs : Files) (nm : Bs) : Nat × Nat := match getA fs nm with | some f => (f.data.length, 0) | none => (0, 80)
theorem Lsize (h : FsAt w v p D room k s fs last X) (nm : ByteArray) (hs : nm.size ≤ maxLen) :
  Calls Tryz.prog 24 #[.pointer (some ⟨v, 0, none⟩), .string nm] w fun r w' => r = .returned (.tuple #[.int .i64 (sizeF fs nm.data.toList).1, .int .i64 (sizeF fs nm.data.toList).2]) ∧ FsNext w v p room X D k s fs last w' := by
 obtain ⟨o1, o2, o3, o4, o5, o6, o7, o8, o9, o10, o11, o12, o13, o14, o15⟩ := h.off
 have hfew := h.inv.few
 refine (fsize_ok w h.box h.log.log h.log.dev (by omega) o1 h.fil o4 o9 nm hs).mono ?_
 rintro r w' ⟨rfl, hb, hl, hu⟩
 rw [gone_no h] at hb
 rw [h.up] at hl
 refine ⟨?_, FsNext.same (h.used hu hb (by simpa using hl)) (FsAt.upd_used hu)⟩
 rw [gone_no h, if_neg (by decide)]
 unfold sizeF
 cases getA fs nm.data.toList <;> rfl
theorem Lfree (h : FsAt w v p D room k s fs last X) :
  Calls Tryz.prog 17 #[.pointer (some ⟨v, 0, none⟩)] w fun r w' => r = .returned (.int .i64 (freeN room fs last)) ∧ FsNext w v p room X D k s fs last w' := by
 have hfew := h.inv.few
 refine (ffree_ok w h.box h.map (by rw [marks_len, marks_len]) (by rw [marks_len]; omega)).mono ?_
 rintro r w' ⟨rfl, hu⟩
 refine ⟨?_, FsNext.same (h.keep hu (by simp)) (hu.mono (by simp))⟩
 rw [marks_len]; rfl
theorem Llist (h : FsAt w v p D room k s fs last X) :
  Calls Tryz.prog 26 #[.pointer (some ⟨v, 0, none⟩)] w fun r w' => ∃ u, r = .returned u ∧ OwT w' w.heap.size u (fs.map (·.1)) ∧ Upd [] w w' ∧ FsAt w' v p D room k s fs last X := by
 refine (flist_ok w h.box h.fil h.inv.now.srt h.inv.now.few).mono ?_
 rintro r w' ⟨u, rfl, ho, hu⟩
 exact ⟨u, rfl, ho, hu, h.keep hu (by simp)⟩
def LReadPost (w : World) (v p : Nat) (D : Dev) (room k s : Nat) (fs last : Files) (X : Fsd) (nm : Bs) (at_ cnt : Int) (r : Ending) (w' : World) : Prop :=
 ∃ (e : Nat) (D' : Dev) (rv : Value), r = .returned (.tuple #[rv, .int .i64 (if e = 0 then codeR fs nm at_ cnt else e : Nat)]) ∧ Ran D e D' 0 ∧ (e = 0 → D'.blk = D.blk) ∧
  (e = 0 → (∃ X', FsAt w' v p D' room k s fs last X' ∧ Upd (X.fp v) w w' ∧ (∀ i ∈ X'.fp v, i ∈ X.fp v ∨ w.heap.size ≤ i) ∧ ∀ g, rv.ownBlock = some g → g ∉ X'.fp v) ∧ (codeR fs nm at_ cnt = 0 → Ow w' w.heap.size rv (dataR fs nm at_ cnt)) ∧ (codeR fs nm at_ cnt ≠ 0 → rv = .slice none 0 0)) ∧
  (e ≠ 0 → rv = .slice none 0 0 ∧ FsDown w v p X D' w' ∧ ∀ l', CrashOf D'.blk l' → Rest l' room k last)
theorem Lread (h : FsAt w v p D room k s fs last X) (hwr : D.wr ≤ 137438953000) (nm : ByteArray) (hs : nm.size ≤ maxLen) (at_ cnt : Int) :
  Calls Tryz.prog 20 #[.pointer (some ⟨v, 0, none⟩), .string nm, .int .i64 at_, .int .i64 cnt] w (LReadPost w v p D room k s fs last X nm.data.toList at_ cnt) := by
 obtain ⟨o1, o2, o3, o4, o5, o6, o7, o8, o9, o10, o11, o12, o13, o14, o15⟩ := h.off
 have hfew := h.inv.few
 have sp := h.sep
 refine (fread_ok w h.box h.log h.up (by omega) hwr o1 o2 o3 h.fil o4 (fun i hi => ⟨tag_ne (sp.FM i hi) sp.j (by decide), fun q => tag_ne (sp.FM i hi) (sp.F i q) (by decide) rfl, fun q => tag_ne (sp.FM i hi) (sp.FC i q) (by decide) rfl⟩) h.inv.now (by omega) h.see h.inv.sized h.inv.holds nm hs at_ cnt).mono ?_
 rintro r w' ⟨e, D', l', FC', rv, rfl, hE, hb, hA, hu, hFC, hok, hbad⟩
 have hlt := h.lt
 have hfp : Upd (X.fp v) w w' := upd_fp hu fun i hi => by
  simp only [List.mem_cons, List.mem_append] at hi
  rcases hi with q | q | q | q <;> exact mem_fp.2 (by simp [q])
 refine ⟨e, D', rv, rfl, hE.ran (by simp), fun he => by subst he; exact hE.up.2.2.2, fun he => ?_, fun he => ?_⟩
 ·subst he
  have hblk : D'.blk = D.blk := hE.up.2.2.2
  have hoff : ∀ {i x : Nat}, X.T i = x → x ≠ 1 → x ≠ 2 → x ≠ 3 → x ≠ 4 → i ∉ v :: X.j :: (X.F ++ X.FC) := fun h1 h2 h3 h4 h5 hi => by
   simp only [List.mem_cons, List.mem_append] at hi
   rcases hi with q | q | q | q
   ·exact tag_ne h1 sp.v h2 q
   ·exact tag_ne h1 sp.j h3 q
   ·exact tag_ne h1 (sp.F _ q) h4 rfl
   ·exact tag_ne h1 (sp.FC _ q) h5 rfl
  have old : ∀ {i x : Nat}, i ∈ X.fp v → X.T i = x → (if w.heap.size ≤ i then 4 else X.T i) = x := fun h1 h2 => by
   rw [if_neg (by have := hlt _ h1; omega), h2]
  refine ⟨⟨{ X with FC := FC', l := l', T := fun i => if w.heap.size ≤ i then 4 else X.T i }, ⟨hb, hA, h.fil.upd hu fun i hi => hoff (sp.FM i hi) (by decide) (by decide) (by decide) (by decide), h.las.upd hu fun i hi => hoff (sp.FL i hi) (by decide) (by decide) (by decide) (by decide),
   h.map.upd hu (hoff sp.q (by decide) (by decide) (by decide) (by decide)) (fun i hi e => hoff (sp.nv i e) (by decide) (by decide) (by decide) (by decide) hi) (fun i hi e => hoff (sp.lv i e) (by decide) (by decide) (by decide) (by decide) hi), h.dir.upd hu (fun i hi e => hoff (sp.va i e) (by decide) (by decide) (by decide) (by decide) hi), hE.up.2.1, by rw [hblk]; exact h.inv, fun b hb' => by rw [hblk]; exact h.see b hb', ?_⟩, hfp, fun i hi => ?_, fun g hg hm => ?_⟩, fun hc => (hok rfl hc).1, fun hc => hbad (.inr hc)⟩
  ·exact {
    v := old (mem_fp.2 (by simp)) sp.v
    j := old (mem_fp.2 (by simp)) sp.j
    F := fun i hi => old (mem_fp.2 (by simp at hi; simp [hi])) (sp.F i hi)
    FC := fun i hi => by
     show (if _ then _ else _) = _
     rcases hFC i hi with q | q
     ·exact old (mem_fp.2 (by simp [q])) (sp.FC i q)
     ·rw [if_pos q]
    FM := fun i hi => old (mem_fp.2 (by simp at hi; simp [hi])) (sp.FM i hi)
    FL := fun i hi => old (mem_fp.2 (by simp at hi; simp [hi])) (sp.FL i hi)
    q := old (mem_fp.2 (by simp)) sp.q
    nv := fun g hg => old (mem_fp.2 (by simp at hg; simp [hg])) (sp.nv g hg)
    lv := fun g hg => old (mem_fp.2 (by simp at hg; simp [hg])) (sp.lv g hg)
    va := fun g hg => old (mem_fp.2 (by simp at hg; simp [hg])) (sp.va g hg) }
  ·rcases mem_fp.1 hi with q | q | q | q | q | q | q | q | q | q
   ·exact .inl (mem_fp.2 (by simp [q]))
   ·exact .inl (mem_fp.2 (by simp at q; simp [q]))
   ·exact .inl (mem_fp.2 (by simp at q; simp [q]))
   ·exact .inl (mem_fp.2 (by simp at q; simp [q]))
   ·rcases hFC i q with q | q
    ·exact .inl (mem_fp.2 (by simp [q]))
    ·exact .inr q
   ·exact .inl (mem_fp.2 (by simp at q; simp [q]))
   ·exact .inl (mem_fp.2 (by simp at q; simp [q]))
   ·exact .inl (mem_fp.2 (by simp at q; simp [q]))
   ·exact .inl (mem_fp.2 (by simp at q; simp [q]))
   ·exact .inl (mem_fp.2 (by simp at q; simp [q]))
  ·by_cases hc : codeR fs nm.data.toList at_ cnt = 0
   ·obtain ⟨ho, hn⟩ := hok rfl hc
    have hb := (ho.block g hg).1
    have hold : ∀ i ∈ X.fp v, g ≠ i := fun i h e => by have := hlt i h; omega
    rcases mem_fp.1 hm with q | q | q | q | q | q | q | q | q | q
    ·exact hold _ (mem_fp.2 (by simp)) q
    ·exact hold X.j (mem_fp.2 (by simp)) q
    ·exact hold X.q (mem_fp.2 (by simp)) q
    ·exact hold g (mem_fp.2 (by simp at q; simp [q])) rfl
    ·exact hn g hg q
    ·exact hold g (mem_fp.2 (by simp at q; simp [q])) rfl
    ·exact hold g (mem_fp.2 (by simp at q; simp [q])) rfl
    ·exact hold g (mem_fp.2 (by simp at q; simp [q])) rfl
    ·exact hold g (mem_fp.2 (by simp at q; simp [q])) rfl
    ·exact hold g (mem_fp.2 (by simp at q; simp [q])) rfl
   ·rw [hbad (.inr hc)] at hg; cases hg
 ·obtain ⟨rfl, -, hdn, p1, q1, he2, hbk⟩ := hE.dn he
  have : p1 = [] := (List.append_eq_nil_iff.1 he2.symm).1
  subst this
  rw [exec_nil] at hbk
  refine ⟨hbad (.inl he), ⟨v :: X.j :: X.F, ⟨⟨X.j, X.c, X.q, X.mf, X.ml, X.va, _, room + 16, _, _, hb, hA.log, ⟨X.F, hA.dev, fun i hi => by simp [hi], o2, o7⟩, by omega, o1, by simp, by simp⟩, hdn⟩, hfp, fun i hi => ?_⟩, fun l' hc => ?_⟩
  ·simp only [List.mem_cons] at hi
   rcases hi with q | q | q <;> exact .inl (mem_fp.2 (by simp [q]))
  ·rw [hbk] at hc
   exact (h.inv.reset).crash hc
end
end Go.Proofs.YteepgehjkcahiaaGreat

namespace Go.Proofs.YteepgehjkcahiaaGreat
open Go.RowKit Go.Maps
theorem crash_self {l : Nat → Cell} (h : ∀ i, (l i).pend = []) : CrashOf l l := fun i => ⟨h i, by simp [Cell.poss]⟩
theorem pend_commit (k s : Nat) (w : List Wr) (l : Nat → Cell) (i : Nat) : (exec (commitT k s w) l i).pend = [] := by
 unfold commitT tailT
 simp only [List.cons_append, List.nil_append, exec_app, exec_cons, exec_nil]
 rfl
theorem sized_new (n : Nat) : Sized (Dev.new n).blk := fun i b hb => by
 simp only [Dev.new, Cell.poss, List.mem_cons, List.not_mem_nil, or_false] at hb
 subst hb
 exact zeroB_len
theorem format_rest {n : Nat} (h1 : 36 ≤ n) (h2 : n ≤ 512) {l : Nat → Cell} (hs : Sized l) : Rest (exec (formatAll n) l) (n - 36) 2 [] := by
 unfold formatAll
 rw [exec_app, exec_app]
 exact (format_inv h1 h2 hs).crash (crash_self fun i => pend_commit _ _ _ _ _)
def LaidPost (w : World) (n : Nat) (r : Ending) (w' : World) : Prop :=
 ∃ (p v s : Nat) (D : Dev) (X : Fsd), r = .returned (.tuple #[.pointer (some ⟨p, 0, none⟩), .pointer (some ⟨v, 0, none⟩)]) ∧ FsAt w' v p D (n - 36) 3 s [] [] X ∧ D.fuse < 0 ∧ D.wr ≤ 10000 ∧ Upd [] w w' ∧ ∀ i ∈ X.fp v, w.heap.size ≤ i
theorem formatAll_len {n : Nat} (h : n ≤ 512) : (formatAll n).length ≤ 1000 := by
 have h1 : (fmtT n).length ≤ 600 := by unfold fmtT; simp; omega
 have h2 := openT_len (k := 0) (s := 1) (w := []) ⟨by simp, by simp, by simp⟩
 have ho := over_writesF (a := zeroDir) ((FilesOk.nil (512 - 36)).dir_len (by omega))
 have h3 := commitT_len (k := 2) (s := 0) ho.wok
 unfold formatAll
 rw [List.length_append, List.length_append]
 omega
set_option maxRecDepth 100000 in
set_option maxHeartbeats 4000000 in
theorem laidD_ok (w : World) (n : Nat) (h1 : 64 ≤ n) (h2 : n ≤ 512) : Calls Tryz.prog 13 #[.int .i64 n] w (LaidPost w n) := by
 have HN := Lib.hid (new_ok w n h1 h2)
 go_enter Tryz.func13, Tryz.ntmps13
 go_wp2_with fail
 refine HN.out.mono ?_
 rintro r w1 ⟨p, F, rfl, hD, hU, hF⟩
 have HF := Lib.hid (fformat_ok w1 hD rfl (by simp [Dev.new]) (sized_new n))
 have H1 := Lib.hid (And.intro hU hF)
 clear hD hU hF HN
 go_wp2_with fail
 refine HF.out.mono ?_
 rintro r w2 ⟨e, D2, F2, rfl, hE2, hD2, hU2, hF2⟩
 have hR2 := hE2.ran (formatAll_len (n := (Dev.new n).n) h2)
 obtain ⟨rfl, hfu2, hdn2⟩ := hR2.ok (by simp [Dev.new]) rfl
 have hblk2 := hE2.up.2.2.2
 have hn2 : D2.n = n := hE2.n
 have hrest := format_rest (n := n) (by omega) h2 (sized_new n)
 have hw2 := hR2.wr
 have HM := Lib.hid (fmount_ok w2 hD2 hdn2 (by simp [Dev.new] at hw2; omega) (room := n - 36) (k := 2) (fs := []) (by rw [hblk2]; exact hrest) (by omega) (by omega) (by omega))
 have hw2' : D2.wr ≤ 2000 := by simp [Dev.new] at hw2; omega
 have H2 := Lib.hid (And.intro hU2 (And.intro hF2 (And.intro hfu2 hdn2)))
 clear hE2 hD2 hU2 hF2 hR2 hblk2 hrest hw2 HF hfu2
 go_wp2_with fail
 refine HM.out.mono ?_
 rintro r w3 ⟨e, D3, vv, rfl, hR3, hok, hbad⟩
 obtain ⟨rfl, hfu3, hdn3⟩ := hR3.ok H2.out.2.2.1 hdn2
 obtain ⟨v, s, X, rfl, hFs, hU3, hfp⟩ := hok rfl
 have hw3 := hR3.wr
 have H3 := Lib.hid (And.intro hFs (And.intro hU3 (And.intro hfp hfu3)))
 clear hFs hU3 hfp hR3 hok hbad HM
 go_wp2_with fail
 go_ret2
 obtain ⟨hFs, hU3, hfp, hfu3⟩ := H3.out
 have hs1 := H1.out.1.size
 have hs2 := H2.out.1.size
 have hF2w : ∀ i ∈ F2, w.heap.size ≤ i := fun i hi => by
  rcases H2.out.2.1 i hi with q | q
  ·exact H1.out.2 i q
  ·omega
 refine ⟨p, v, s, D3, X, rfl, hFs, hfu3, by omega, (H1.out.1.next H2.out.1 fun i hi hlt => ?_).next hU3 fun i hi hlt => ?_, fun i hi => ?_⟩
 ·have := H1.out.2 i hi; omega
 ·have := hF2w i hi; omega
 ·rcases hfp i hi with q | q
  ·exact hF2w i q
  ·omega
end Go.Proofs.YteepgehjkcahiaaGreat

namespace Go.Proofs.YteepgehjkcahiaaGreat
open Go.RowKit Go.Maps
structure LSt (w0 w : World) (v p : Nat) (D : Dev) (room k s : Nat) (fs last : Files) (X : Fsd) : Prop where
 at_ : FsAt w v p D room k s fs last X
 fuse : D.fuse < 0
 upd : Upd [] w0 w
 low : ∀ i ∈ X.fp v, w0.heap.size ≤ i
theorem LSt.step {w0 w w' : World} {v p : Nat} {D D' : Dev} {room k s k' s' : Nat} {fs last fs' last' : Files} {X : Fsd} (h : LSt w0 w v p D room k s fs last X) (hn : FsNext w v p room X D' k' s' fs' last' w') (hf : D'.fuse < 0) : ∃ X', LSt w0 w' v p D' room k' s' fs' last' X' := by
 obtain ⟨X', h1, h2, h3⟩ := hn
 have hs := h.upd.size
 refine ⟨X', h1, hf, h.upd.next h2 fun i hi hlt => by have := h.low i hi; omega, fun i hi => ?_⟩
 rcases h3 i hi with q | q
 ·exact h.low i q
 ·omega
theorem LSt.keep {w0 w w' : World} {v p : Nat} {D : Dev} {room k s : Nat} {fs last : Files} {X : Fsd} (h : LSt w0 w v p D room k s fs last X) (u : Upd [] w w') : LSt w0 w' v p D room k s fs last X :=
 ⟨h.at_.keep u (by simp), h.fuse, h.upd.trans u, h.low⟩
theorem FsInv.count {l : Nat → Cell} {room k s : Nat} {fs last : Files} (h : FsInv l room k s fs last) : freeN room fs last + (allBlks last).length + ((allBlks fs).filter fun b => !decide (b ∈ allBlks last)).length = room :=
 free_count h.now h.was fun _b hb => freeB_marks fs last hb
theorem FsInv.count0 {l : Nat → Cell} {room k s : Nat} {fs : Files} (h : FsInv l room k s fs []) : freeN room fs [] + (allBlks fs).length = room := by
 have := h.count
 rw [List.filter_eq_self.2 (by intro a _; simp [allBlks])] at this
 simpa [allBlks] using this
theorem one_blks {room : Nat} {nm : Bs} {f : Fil} (h : FilesOk room [(nm, f)]) : (allBlks [(nm, f)]).length = blocksN f.data.length := by
 have := (h.ok (nm, f) (by simp)).blks_len
 simpa [allBlks] using this
theorem put_one (nm : Bs) (f g : Fil) : putA ltN [(nm, f)] nm g = [(nm, g)] := by
 unfold putA
 rw [if_neg (by rw [ordN.irrefl]; decide), if_pos rfl]
theorem getA_one (nm : Bs) (f : Fil) : getA [(nm, f)] nm = some f := by rw [getA_cons, if_pos rfl]
theorem rdz_nil (w : World) : RdZ w (.slice none 0 0) [] :=
 ⟨⟨none, 0, rfl, Nat.le_refl _, by unfold maxLen; omega, fun i hi => absurd hi (by simp)⟩, fun n c e => by cases e; rfl⟩
theorem Crashed.of {D D' : Dev} (h : Crashed D D') : CrashOf D.blk D'.blk := fun i => ⟨h.pend i, h.safe i⟩
def nmA : Bs := [97]
set_option maxRecDepth 100000 in
set_option maxHeartbeats 4000000 in
theorem awake_ok (w : World) : Calls Tryz.prog 12 #[] w fun r w' => r = .returned (.bool true) ∧ Upd [] w w' := by
 have HL := Lib.hid (laidD_ok w 64 (by omega) (by omega))
 have hnm : (⟨#[97]⟩ : ByteArray).data.toList = nmA := rfl
 have hnl : (⟨#[97]⟩ : ByteArray).size ≤ maxLen := by unfold maxLen; decide
 go_enter Tryz.func12, Tryz.ntmps12
 go_wp2_with fail
 refine HL.out.mono ?_
 rintro r w1 ⟨p, v, s, D, X, rfl, hat, hfu, hwr, hu, hlow⟩
 have hst : LSt w w1 v p D 28 3 s [] [] X := ⟨hat, hfu, hu, hlow⟩
 have hf28 : freeN 28 [] [] = 28 := by have := hat.inv.count0; simpa [allBlks] using this
 have HF := Lib.hid (Lfree hst.at_)
 rw [hf28] at HF
 have H1 := Lib.hid hst
 clear hat hfu hu hlow hst HL
 go_wp2_with fail
 refine HF.out.mono ?_
 rintro r w2 ⟨rfl, hn2⟩
 obtain ⟨X2, hst2⟩ := H1.out.step hn2 H1.out.fuse
 have HC := Lib.hid (Lcreate hst2.at_ ⟨#[97]⟩ hnl)
 have hcc : codeC false [] nmA = 0 := by decide
 have hcf : crtF [] nmA = [(nmA, emptyF)] := by unfold crtF; rw [if_pos hcc]; rfl
 rw [hnm, hcc, hcf] at HC
 have H2 := Lib.hid hst2
 clear hst2 hn2 HF H1
 go_wp2_with fail
 refine HC.out.mono ?_
 rintro r w3 ⟨rfl, hn3⟩
 obtain ⟨X3, hst3⟩ := H2.out.step hn3 H2.out.fuse
 have hdw : D.wr ≤ 137438900000 := by omega
 have HAp := Lib.hid fun (Y : World) (u : Upd [] w3 Y) (dv : Value) (hd : Rd Y dv (List.replicate 513 0)) (hdo : ∀ g, dv.ownBlock = some g → g ∉ X3.fp v ∧ g < Y.heap.size) => fappend_ok Y (hst3.keep u).at_ hdw ⟨#[97]⟩ hnl hd hdo (by simp)
 have hfr3 : freeN 28 [(nmA, emptyF)] [] = 28 := by
  have := hst3.at_.inv.count0
  rw [one_blks hst3.at_.inv.now] at this
  simpa [emptyF, blocksN] using this
 have hcp : codeP 28 [(nmA, emptyF)] [] nmA 513 = 0 := by
  unfold codeP
  rw [getA_one]
  dsimp only
  rw [if_neg (by simp [emptyF]), if_neg (by rw [hfr3]; unfold needN blocksN emptyF; simp)]
 have hap : appF 28 [(nmA, emptyF)] [] nmA (List.replicate 513 0) = [(nmA, growF 28 [(nmA, emptyF)] [] emptyF (List.replicate 513 0))] := by
  unfold appF
  rw [getA_one]
  exact put_one _ _ _
 have hgd : (growF 28 [(nmA, emptyF)] [] emptyF (List.replicate 513 0)).data.length = 513 := by
  show (emptyF.data ++ List.replicate 513 0).length = 513
  simp [emptyF]
 generalize growF 28 [(nmA, emptyF)] [] emptyF (List.replicate 513 0) = g at *
 have hmade : Rd (w3.alloc (.cells (flatG c8 (List.replicate 513 0)).toArray 5)) (.slice (some ⟨w3.heap.size, 0, none⟩) 513 513) (List.replicate 513 0) := Ow.rd (Ow.made (w := w3) (base := 0) (n := 513) (l := List.replicate 513 0) (Nat.zero_le _) (by omega) rfl)
 have hX3l := hst3.at_.lt
 have H3 := Lib.hid hst3
 have HD3 := Lib.hid (And.intro hcp (And.intro hap (And.intro hgd (And.intro hmade hX3l))))
 clear hst3 hn3 HC H2 hcp hap hgd hmade hX3l hfr3 hcc hcf
 go_wp2_with (first | (refine wpList_make_8 rfl _ _ rfl 513 (by omega) (l := List.replicate 513 0) rfl rfl rfl rfl ?_) | fail)
 have hua : Upd [] w3 (w3.alloc (.cells (flatG c8 (List.replicate 513 0)).toArray 5)) := (Upd.refl [] w3).alloc _
 refine (HAp.out _ hua _ HD3.out.2.2.2.1 (fun gg hgg => ?_)).mono ?_
 ·simp only [Value.ownBlock, Option.some.injEq] at hgg
  subst hgg
  exact ⟨fun q => by have := HD3.out.2.2.2.2 _ q; omega, by simp⟩
 have hst3a := H3.out.keep hua
 generalize (w3.alloc (.cells (flatG c8 (List.replicate 513 0)).toArray 5)) = w3a at *
 rintro r w4 ⟨e, D4, rfl, hR4, hok4, -⟩
 obtain ⟨rfl, hfu4, -⟩ := hR4.ok H3.out.fuse H3.out.at_.up
 have hn4 := hok4 rfl
 rw [hnm, show (List.replicate 513 (0 : UInt8)).length = 513 by simp, HD3.out.1, if_pos rfl, HD3.out.2.1] at hn4
 obtain ⟨X4, hst4⟩ := hst3a.step hn4 hfu4
 rw [if_pos rfl, hnm, show (List.replicate 513 (0 : UInt8)).length = 513 by simp, HD3.out.1]
 have hgd := HD3.out.2.2.1
 have hf26 : freeN 28 [(nmA, g)] [] = 26 := by
  have := hst4.at_.inv.count0
  rw [one_blks hst4.at_.inv.now, hgd] at this
  simpa [blocksN] using this
 have hw4 := hR4.wr
 have HFr := Lib.hid (Lfree hst4.at_)
 rw [hf26] at HFr
 have H4 := Lib.hid hst4
 clear hst4 hn4 hok4 hR4 HAp H3 hst3a hua
 go_wp2_with fail
 refine HFr.out.mono ?_
 rintro r w5 ⟨rfl, hn5⟩
 obtain ⟨X5, hst5⟩ := H4.out.step hn5 hfu4
 have HS := Lib.hid (fsync_ok w5 hst5.at_ (by omega) (by omega))
 have H5 := Lib.hid hst5
 clear hst5 hn5 HFr H4
 go_wp2_with fail
 refine HS.out.mono ?_
 rintro r w6 ⟨e, D6, rfl, hR6, hok6, -⟩
 obtain ⟨rfl, hfu6, -⟩ := hR6.ok hfu4 H5.out.at_.up
 obtain ⟨X6, hst6⟩ := H5.out.step (hok6 rfl) hfu6
 have hw6 := hR6.wr
 have HR := Lib.hid (Lremove hst6.at_ (by omega) ⟨#[97]⟩ hnl)
 have hcr : codeF false [(nmA, g)] nmA = 0 := by unfold codeF; rw [getA_one]; rfl
 rw [hnm, hcr] at HR
 have H6 := Lib.hid hst6
 clear hst6 hok6 hR6 HS H5
 go_wp2_with fail
 refine HR.out.mono ?_
 rintro r w7 ⟨rfl, hn7⟩
 obtain ⟨X7, hst7⟩ := H6.out.step hn7 hfu6
 have HCr := Lib.hid (crash_ok w7 hst7.at_.log.dev (by omega) (pv := .slice none 0 0) (picks := []) (rdz_nil w7) (by simp) (by intro _ b hb; cases hb))
 have H7 := Lib.hid hst7
 clear hst7 hn7 HR H6
 go_wp2_with fail
 refine HCr.out.mono ?_
 rintro r w8 ⟨D8, F8, rfl, hcr8, hwr8, hD8, hu8, hF8⟩
 have hrest := H7.out.at_.inv.crash hcr8.of
 have hn8 : 28 + 36 = D8.n := by rw [hcr8.n]; have := H7.out.at_.log.nD; omega
 have hFfp : ∀ i ∈ X7.F, w.heap.size ≤ i := fun i hi => H7.out.low i (mem_fp.2 (by simp [hi]))
 have hU8 : Upd [] w w8 := H7.out.upd.next hu8 fun i hi hlt => by have := hFfp i hi; omega
 have HMt := Lib.hid (fmount_ok w8 hD8 hcr8.down (by omega) hrest hn8 (by omega) (by omega))
 have H8 := Lib.hid (And.intro hU8 (fun i hi => hFfp i (hF8 i hi)))
 have hfu8 : D8.fuse < 0 := by rw [hcr8.fuse]; omega
 have hdn8 := hcr8.down
 clear hrest hn8 hU8 hu8 hF8 hD8 HCr hcr8 H7 hFfp
 go_wp2_with fail
 refine HMt.out.mono ?_
 rintro r w9 ⟨e, D9, vv, rfl, hR9, hok9, -⟩
 obtain ⟨rfl, hfu9, -⟩ := hR9.ok hfu8 hdn8
 obtain ⟨v9, s9, X9, rfl, hFs9, hU9, hfp9⟩ := hok9 rfl
 have hsz : sizeF [(nmA, g)] nmA = (513, 0) := by unfold sizeF; rw [getA_one]; dsimp only; rw [hgd]
 have HSz := Lib.hid (Lsize hFs9 ⟨#[97]⟩ hnl)
 rw [hnm, hsz] at HSz
 have hU09 : Upd [] w w9 := H8.out.1.next hU9 fun i hi hlt => by have := H8.out.2 i hi; omega
 have hlow9 : ∀ i ∈ X9.fp v9, w.heap.size ≤ i := fun i hi => by
  have hs8 := H8.out.1.size
  rcases hfp9 i hi with q | q
  ·exact H8.out.2 i q
  ·omega
 have H9 := Lib.hid (And.intro hU09 hlow9)
 clear hok9 hR9 hFs9 hU9 hU09 hlow9 HMt
 go_wp2_with fail
 refine HSz.out.mono ?_
 rintro r w10 ⟨rfl, hn10⟩
 have hU10 : Upd [] w w10 := by
  obtain ⟨-, -, h2, -⟩ := hn10
  exact H9.out.1.next h2 fun i hi hlt => by have := H9.out.2 i hi; omega
 have HU10 := Lib.hid hU10
 clear hn10 hU10 HSz
 go_wp2_with fail
 go_ret
 exact ⟨by first | rfl | simp, HU10.out⟩
end Go.Proofs.YteepgehjkcahiaaGreat
