/- Appending to a file, in plain words: its blocks are written one by one; whatever a crash leaves has the files of the last Sync. No program in sight. How many blocks are free, and what a Format leaves, in plain words. No program in sight. The whole of a file system in memory and on its device; each part's blocks are its own. -/
import Derived.Test.YteepgehjkcahiaaGreatC02
import Derived.Test.YteepgehjkcahiaaGreatC28
namespace Go.Proofs.YteepgehjkcahiaaGreat
theorem Sure.at_ {l : Nat → Cell} {f : Fil} (h : Sure l f) {j b i : Nat} (hj : f.blks[j]? = some b) (hi : i < 512) (hx : 512 * j + i < f.data.length) : ∀ y ∈ (l (36 + b)).poss, y[i]? = f.data[512 * j + i]? := by
 intro y hy
 have := h (fun a => if a = b then y else (l (36 + a)).safe) (fun a => by
  show (if a = b then y else _) ∈ _
  split
  ·rename_i e; subst e; exact hy
  ·exact List.mem_cons_self) j b i hj hi hx
 simpa using this
theorem Sure.of {l : Nat → Cell} {f : Fil} (h : ∀ j b i, f.blks[j]? = some b → i < 512 → 512 * j + i < f.data.length → ∀ y ∈ (l (36 + b)).poss, y[i]? = f.data[512 * j + i]?) : Sure l f :=
 fun _c hc j b i hj hi hx => h j b i hj hi hx _ (hc b)
abbrev Core (l : Nat → Cell) (room k s : Nat) (last : Files) : Prop := FsInv l room k s last last
theorem Core.write {l : Nat → Cell} {room k s : Nat} {last : Files} (h : Core l room k s last) {b : Nat} {x : Bs} (hx : x.length = 512)
  (hb : ∀ q ∈ last, ∀ j, q.2.blks[j]? = some b → ∀ i, i < 512 → 512 * j + i < q.2.data.length → x[i]? = q.2.data[512 * j + i]?) : Core (exec1 l (.write (36 + b) x)) room k s last := by
 have hS : ∀ p ∈ last, Sure (exec1 l (.write (36 + b) x)) p.2 := by
  intro p hp
  refine Sure.of fun j b' i hj hi hlt y hy => ?_
  have hA := (h.sure p hp).at_ hj hi hlt
  by_cases e : b' = b
  ·subst e
   rw [exec1_write] at hy
   simp only [Cell.push, Cell.poss, List.mem_cons, List.mem_append, List.not_mem_nil, or_false] at hy
   rcases hy with hy | hy | hy
   ·exact hA y (by simp [Cell.poss, hy])
   ·exact hA y (by simp [Cell.poss, hy])
   ·rw [hy]; exact hb p hp j hj i hi hlt
  ·rw [exec1_write_ne _ (by omega)] at hy
   exact hA y hy
 exact ⟨h.few, h.quiet.write _ (by omega) (by omega), h.sized.exec1 hx, h.now, h.was, fun p hp => (hS p hp).holds, hS, h.kin⟩
structure Grow (room : Nat) (fs last : Files) (nm : Bs) (f : Fil) (rs : List Run) : Prop where
 get : getA fs nm = some f
 ok : FilesOk room fs
 kins : ∀ p ∈ fs, ∀ q ∈ last, Kin p.2 q.2
 was : ∀ q ∈ last, q.2.blks.Nodup
 pos : ∀ r ∈ rs, 1 ≤ r.2
 free : ∀ b ∈ expand rs, b < room ∧ b ∉ allBlks fs ∧ b ∉ allBlks last
 nodup : (expand rs).Nodup
def grown (f : Fil) (rs : List Run) (d : Bs) : Fil := ⟨rs.foldl putRun f.runs, f.data ++ d⟩
theorem grown_blks (f : Fil) (rs : List Run) (d : Bs) : (grown f rs d).blks = f.blks ++ expand rs := expand_foldl rs f.runs
theorem blks_nodup {fs : Files} (h : (allBlks fs).Nodup) {p : Bs × Fil} (hp : p ∈ fs) : p.2.blks.Nodup := by
 obtain ⟨u, v, rfl⟩ := List.append_of_mem hp
 have : p.2.blks.Sublist (allBlks (u ++ p :: v)) := by
  unfold allBlks
  rw [List.flatMap_append, List.flatMap_cons]
  exact (List.sublist_append_left ..).trans (List.sublist_append_right ..)
 exact h.sublist this
section
variable {room : Nat} {fs last : Files} {nm : Bs} {f : Fil} {rs : List Run}
theorem Grow.mem (g : Grow room fs last nm f rs) : (nm, f) ∈ fs := getA_mem g.get
theorem Grow.kin (g : Grow room fs last nm f rs) : ∀ q ∈ last, Kin f q.2 := g.kins _ g.mem
theorem Grow.nd (g : Grow room fs last nm f rs) : (f.blks ++ expand rs).Nodup := by
 rw [List.nodup_append]
 exact ⟨blks_nodup g.ok.nodup g.mem, g.nodup, fun a ha b hb e => (g.free b hb).2.1 (e ▸ mem_all g.mem ha)⟩
structure Stage (l : Nat → Cell) (room k s : Nat) (fs last : Files) (nm : Bs) (f : Fil) (rs : List Run) (X : Bs) : Prop where
 core : Core l room k s last
 rest : ∀ p ∈ fs, p.1 ≠ nm → Holds (dataV l) p.2
 part : HoldsB (dataV l) (f.blks ++ expand rs) X
theorem Stage.start {l : Nat → Cell} {k s : Nat} (h : FsInv l room k s fs last) (g : Grow room fs last nm f rs) : Stage l room k s fs last nm f rs f.data := by
 refine ⟨h.reset, fun p hp _ => h.holds p hp, fun j b i hj hi hx => ?_⟩
 have hf := (g.ok.ok _ g.mem).blks_len
 have hl : j < f.blks.length := by rw [hf]; simp only at hx ⊢; unfold blocksN; omega
 rw [List.getElem?_append_left hl] at hj
 exact h.holds _ g.mem j b i hj hi hx
theorem Stage.step {l : Nat → Cell} {k s : Nat} {X e : Bs} (h : Stage l room k s fs last nm f rs (f.data ++ X)) (g : Grow room fs last nm f rs) {j b : Nat} (hj : (f.blks ++ expand rs)[j]? = some b)
  (h1 : 512 * j ≤ (f.data ++ X).length) (he : (f.data ++ (X ++ e)).length ≤ 512 * j + 512) {x : Bs} (hx : x.length = 512) (hxe : ∀ i, i < 512 → 512 * j + i < (f.data ++ (X ++ e)).length → x[i]? = (f.data ++ (X ++ e))[512 * j + i]?) :
  Stage (exec1 l (.write (36 + b) x)) room k s fs last nm f rs (f.data ++ (X ++ e)) := by
 have hnd := g.nd
 have inj : ∀ {j'}, (f.blks ++ expand rs)[j']? = some b → j' = j := fun {j'} hj' => by
  obtain ⟨h2, e2⟩ := List.getElem?_eq_some_iff.1 hj
  obtain ⟨h3, e3⟩ := List.getElem?_eq_some_iff.1 hj'
  exact (List.getElem_inj hnd).1 (e3.trans e2.symm)
 refine ⟨h.core.write hx fun q hq j' hj' i hi hlt => ?_, fun p hp hne => (h.rest p hp hne).congr fun c hc => ?_, fun j' b' i hj' hi hlt => ?_⟩
 ·have hbq : b ∈ q.2.blks := List.mem_of_getElem? hj'
  have hbl : b ∈ allBlks last := mem_all hq hbq
  rcases g.kin q hq with hk | ⟨hk, hd⟩
  ·have : b ∈ f.blks ++ expand rs := List.mem_of_getElem? hj
   rcases List.mem_append.1 this with hm | hm
   ·exact absurd hbq (hk b hm)
   ·exact absurd hbl (g.free b hm).2.2
  ·have e1 : f.blks[j']? = some b := by
    obtain ⟨t, ht⟩ := hk
    rw [← ht, List.getElem?_append_left (List.getElem?_eq_some_iff.1 hj').1]; exact hj'
   obtain rfl : j' = j := inj (by rw [List.getElem?_append_left (List.getElem?_eq_some_iff.1 e1).1]; exact e1)
   obtain ⟨t, ht⟩ := hd
   have hfd : q.2.data.length ≤ f.data.length := by rw [← ht]; simp
   rw [hxe i hi (by rw [List.length_append]; omega), List.getElem?_append_left (by omega), ← ht, List.getElem?_append_left hlt]
 ·show (exec1 l _ (36 + c)).view = (l (36 + c)).view
  have hne2 : c ≠ b := fun e2 => by
   subst e2
   have : c ∈ f.blks ++ expand rs := List.mem_of_getElem? hj
   rcases List.mem_append.1 this with hm | hm
   ·exact apart_of g.ok.nodup hp g.mem hne c hc hm
   ·exact (g.free c hm).2.1 (mem_all hp hc)
  rw [exec1_write_ne _ (by omega)]
 ·show ((exec1 l _ (36 + b')).view)[i]? = _
  by_cases e2 : b' = b
  ·subst e2
   obtain rfl := inj hj'
   rw [exec1_write, Cell.view_push]
   exact hxe i hi hlt
  ·rw [exec1_write_ne _ (by omega)]
   have hjj : j' ≠ j := fun q => by rw [q, hj] at hj'; exact e2 (by cases hj'; rfl)
   have hlt2 : 512 * j' + i < (f.data ++ X).length := by
    rcases Nat.lt_or_ge j' j with q | q
    ·omega
    ·exfalso; omega
   have := h.part j' b' i hj' hi hlt2
   rw [show (l (36 + b')).view = dataV l b' from rfl, this, ← List.append_assoc, List.getElem?_append_left hlt2]
theorem Stage.done {l : Nat → Cell} {k s : Nat} {d : Bs} (h : Stage l room k s fs last nm f rs (f.data ++ d)) (g : Grow room fs last nm f rs) (hlen : lenR rs = blocksN (f.data.length + d.length) - blocksN f.data.length) (hmost : f.data.length + d.length ≤ 32768) :
  FsInv l room k s (putA ltN fs nm (grown f rs d)) last := by
 have hok := g.ok.ok _ g.mem
 have hb := grown_blks f rs d
 have hG : FilOk room (grown f rs d) := {
  canon := canon_foldl rs _ hok.canon g.pos
  le := by
   intro r hr
   have hc : Canon (rs.foldl putRun f.runs) := canon_foldl rs _ hok.canon g.pos
   have hpos := canon_pos hc r hr
   have hm : r.1 + r.2 - 1 ∈ (grown f rs d).blks := mem_expand.2 ⟨r, hr, by omega, by omega⟩
   rw [hb] at hm
   have : r.1 + r.2 - 1 < room := by
    rcases List.mem_append.1 hm with q | q
    ·exact hok.blks_lt _ q
    ·exact (g.free _ q).1
   omega
  len := by
   have h1 := hok.len
   have e1 : lenR (grown f rs d).runs = (f.blks ++ expand rs).length := by rw [← hb]; exact (expand_len _).symm
   rw [e1, List.length_append, Fil.blks, expand_len, expand_len]
   show _ = blocksN (f.data ++ d).length
   simp only at h1
   rw [h1, hlen, List.length_append]
   unfold blocksN; omega
  most := by show (f.data ++ d).length ≤ _; rw [List.length_append]; exact hmost }
 have hput : FilesOk room (putA ltN fs nm (grown f rs d)) := put_ok g.ok (g.ok.name _ g.mem) hG (by rw [len_putA ordN g.ok.srt, g.get]; exact g.ok.few) (by rw [hb]; exact g.nd) (by
  intro b hbm hbd
  rw [hb] at hbm
  obtain ⟨p, hp, hpb⟩ := List.mem_flatMap.1 hbd
  obtain ⟨hp1, hp2⟩ := mem_delA.1 hp
  rcases List.mem_append.1 hbm with q | q
  ·exact apart_of g.ok.nodup hp1 g.mem hp2 b hpb q
  ·exact (g.free b q).2.1 (mem_all hp1 hpb))
 refine ⟨h.core.few, h.core.quiet, h.core.sized, hput, h.core.was, fun p hp => ?_, h.core.sure, fun p hp q hq => ?_⟩
 ·rcases put_mem g.ok.srt hp with rfl | ⟨hp, hne⟩
  ·show HoldsB _ (grown f rs d).blks _
   rw [hb]; exact h.part
  ·exact h.rest p hp hne
 ·rcases put_mem g.ok.srt hp with rfl | ⟨hp, hne⟩
  ·show Kin (grown f rs d) q.2
   unfold Kin
   rw [hb]
   rcases g.kin q hq with hk | ⟨hk, hd⟩
   ·refine .inl fun b hbm => ?_
    rcases List.mem_append.1 hbm with q1 | q1
    ·exact hk b q1
    ·exact fun hb2 => (g.free b q1).2.2 (mem_all hq hb2)
   ·exact .inr ⟨hk.trans (List.prefix_append ..), hd.trans (List.prefix_append ..)⟩
  ·exact g.kins p hp q hq
end
end Go.Proofs.YteepgehjkcahiaaGreat

namespace Go.Proofs.YteepgehjkcahiaaGreat
theorem nodup_sub : ∀ {a b : List Nat}, a.Nodup → (∀ x ∈ a, x ∈ b) → a.length ≤ b.length
 | [], _, _, _ => Nat.zero_le _
 | x :: a, b, h, hs => by
  obtain ⟨h1, h2⟩ := List.nodup_cons.1 h
  have hx := hs x (by simp)
  have := nodup_sub (a := a) (b := b.erase x) h2 fun y hy => by
   have hne : y ≠ x := fun e => by subst e; exact h1 hy
   exact (List.mem_erase_of_ne hne).2 (hs y (by simp [hy]))
  have hl := List.length_erase_of_mem hx
  have := List.length_pos_of_mem hx
  simp only [List.length_cons]
  omega
theorem filter_split (p : Nat → Bool) : ∀ l : List Nat, l.length = (l.filter p).length + (l.filter fun b => !p b).length
 | [] => rfl
 | a :: l => by
  have := filter_split p l
  by_cases h : p a = true
  ·simp [h]; omega
  ·simp [h]; omega
theorem compl_len {n : Nat} {L : List Nat} (h : L.Nodup) (hn : ∀ b ∈ L, b < n) : ((List.range n).filter fun b => !decide (b ∈ L)).length + L.length = n := by
 have h1 : ((List.range n).filter fun b => decide (b ∈ L)).length = L.length := by
  refine Nat.le_antisymm (nodup_sub (List.nodup_range.filter _) fun x hx => by simpa using (List.mem_filter.1 hx).2) (nodup_sub h fun x hx => List.mem_filter.2 ⟨List.mem_range.2 (hn x hx), by simpa using hx⟩)
 have h2 := filter_split (fun b => decide (b ∈ L)) (List.range n)
 rw [List.length_range, h1] at h2
 omega
def marks (room : Nat) (fs : Files) : List Bool := (List.range room).map fun b => decide (b ∈ allBlks fs)
theorem marks_len (room : Nat) (fs : Files) : (marks room fs).length = room := by simp [marks]
theorem marks_get {room : Nat} (fs : Files) {b : Nat} (h : b < room) : (marks room fs)[b]? = some (decide (b ∈ allBlks fs)) := by simp [marks, h]
theorem marks_ext {room : Nat} {fs : Files} {l : List Bool} (hl : l.length = room) (h : ∀ b, b < room → l[b]? = some (decide (b ∈ allBlks fs))) : l = marks room fs := by
 apply List.ext_getElem?
 intro b
 by_cases hb : b < room
 ·rw [h b hb, marks_get fs hb]
 ·rw [List.getElem?_eq_none (by omega), List.getElem?_eq_none (by rw [marks_len]; omega)]
theorem marks_congr {room : Nat} {fs gs : Files} (h : ∀ b, b ∈ allBlks fs ↔ b ∈ allBlks gs) : marks room fs = marks room gs := by
 unfold marks
 refine List.map_congr_left fun b _ => ?_
 simp [h b]
def oldN (last : Files) (f : Fil) : Nat := (f.blks.filter fun b => decide (b ∈ allBlks last)).length
theorem free_count {room : Nat} {fs last : Files} (h : FilesOk room fs) (hl : FilesOk room last) {f : Nat → Bool} (hf : ∀ b, b < room → f b = (!decide (b ∈ allBlks fs) && !decide (b ∈ allBlks last))) :
  lenR (frees f room 0) + (allBlks last).length + ((allBlks fs).filter fun b => !decide (b ∈ allBlks last)).length = room := by
 have h1 : (allBlks last ++ (allBlks fs).filter fun b => !decide (b ∈ allBlks last)).Nodup := by
  rw [List.nodup_append]
  refine ⟨hl.nodup, h.nodup.filter _, fun a ha b hb e => ?_⟩
  have := (List.mem_filter.1 hb).2
  subst e
  simp [ha] at this
 have h2 := compl_len (n := room) h1 fun b hb => by
  rcases List.mem_append.1 hb with q | q
  ·exact hl.lt b q
  ·exact h.lt b (List.mem_filter.1 q).1
 rw [List.length_append] at h2
 rw [← expand_len, expand_frees]
 unfold freeList
 rw [show List.range' 0 (room - 0) = List.range room by rw [Nat.sub_zero, List.range_eq_range']]
 have h3 : (List.range room).filter f = (List.range room).filter fun b => !decide (b ∈ allBlks last ++ (allBlks fs).filter fun b => !decide (b ∈ allBlks last)) := by
  refine List.filter_congr fun b hb => ?_
  rw [hf b (List.mem_range.1 hb)]
  by_cases q1 : b ∈ allBlks fs <;> by_cases q2 : b ∈ allBlks last <;> simp [q1, q2]
 rw [h3]
 omega
theorem exec_zeros (n : Nat) : ∀ (l : Nat → Cell) (i : Nat), (i < n → ((exec ((List.range n).map fun i => DOp.write i zeroB) l i).view = zeroB)) ∧ (n ≤ i → exec ((List.range n).map fun i => DOp.write i zeroB) l i = l i) := by
 induction n with
 | zero => intro l i; exact ⟨fun h => absurd h (by omega), fun _ => rfl⟩
 | succ n ih =>
  intro l i
  rw [List.range_succ, List.map_append, exec_app]
  obtain ⟨h1, h2⟩ := ih l i
  generalize exec ((List.range n).map fun i => DOp.write i zeroB) l = l1 at *
  simp only [List.map_cons, List.map_nil, exec_cons, exec_nil]
  refine ⟨fun hi => ?_, fun hi => ?_⟩
  ·by_cases e : i = n
   ·subst e; rw [exec1_write, Cell.view_push]
   ·rw [exec1_write_ne _ e]; exact h1 (by omega)
  ·rw [exec1_write_ne _ (by omega)]; exact h2 (by omega)
def fmtT (n : Nat) : List DOp := ((List.range n).map fun i => DOp.write i zeroB) ++ ([.flush] ++ ([.write 1 zeroB, .flush] ++ [.write 0 (slotB 0 (doneB 0)), .flush]))
theorem fmt_quiet {n : Nat} (hn : 36 ≤ n) {l : Nat → Cell} (hs : Sized l) : Quiet (exec (fmtT n) l) 0 1 (fun _ => zeroB) ∧ Sized (exec (fmtT n) l) ∧ ∀ i, (exec (fmtT n) l i).pend = [] := by
 have hz := exec_zeros n l
 have hsz : ∀ o ∈ fmtT n, OpSized o := by
  intro o ho
  simp only [fmtT, List.mem_append, List.mem_map, List.mem_cons, List.not_mem_nil, or_false] at ho
  rcases ho with ⟨i, -, rfl⟩ | rfl | (rfl | rfl) | rfl | rfl
  ·exact zeroB_len
  ·trivial
  ·exact zeroB_len
  ·trivial
  ·exact slotB_len (by omega) (by have := doneB_len (k := 0) (by omega); omega)
  ·trivial
 refine ⟨?_, hs.exec hsz, ?_⟩
 ·unfold fmtT
  rw [exec_app]
  generalize exec ((List.range n).map fun i => DOp.write i zeroB) l = l1 at *
  simp only [List.cons_append, List.nil_append, exec_cons, exec_nil]
  have hv : ∀ i, i < n → (l1 i).view = zeroB := fun i hi => (hz i).1 hi
  have f0 : ∀ i, i < n → exec1 l1 .flush i = ⟨zeroB, []⟩ := fun i hi => by show (l1 i).flush = _; rw [Cell.flush, hv i hi]
  generalize exec1 l1 .flush = l2 at *
  have f1 : ∀ i, i < n → exec1 (exec1 l2 (.write 1 zeroB)) .flush i = ⟨zeroB, []⟩ := fun i hi => by
   show (exec1 l2 (.write 1 zeroB) i).flush = _
   by_cases e : i = 1
   ·subst e; rw [exec1_write, Cell.flush, Cell.view_push]
   ·rw [exec1_write_ne _ e, f0 i hi]; rfl
  generalize exec1 (exec1 l2 (.write 1 zeroB)) .flush = l3 at *
  have f2 : ∀ i, i < n → exec1 (exec1 l3 (.write 0 (slotB 0 (doneB 0)))) .flush i = ⟨if i = 0 then slotB 0 (doneB 0) else zeroB, []⟩ := fun i hi => by
   show (exec1 l3 (.write 0 (slotB 0 (doneB 0))) i).flush = _
   by_cases e : i = 0
   ·subst e; rw [exec1_write, Cell.flush, Cell.view_push, if_pos rfl]
   ·rw [exec1_write_ne _ e, f1 i hi, if_neg e]; rfl
  generalize exec1 (exec1 l3 (.write 0 (slotB 0 (doneB 0)))) .flush = l4 at *
  refine ⟨⟨by omega, by simpa using f2 0 (by omega), by rw [f2 1 (by omega)], ?_⟩, ?_, fun i hi => ?_⟩
  ·rw [f2 1 (by omega)]
   intro c d h
   rw [if_neg (by omega), slotOf_noughts] at h
   cases h
  ·rw [f2 2 (by omega)]
   exact ⟨rfl, .inl (by simp)⟩
  ·rw [f2 _ (by omega), if_neg (by omega)]
 ·intro i
  unfold fmtT
  simp only [List.cons_append, List.nil_append, exec_app, exec_cons, exec_nil]
  rfl
theorem blkOf_zeros {i : Nat} (h : i < 16) : blkOf (List.replicate 8192 0) i = zeroB := by
 unfold blkOf zeroB
 rw [List.drop_replicate, List.take_replicate]
 congr 1
 omega
theorem Quiet.congr {l : Nat → Cell} {k s : Nat} {f g : Nat → Bs} (h : Quiet l k s f) (e : ∀ n, n < 16 → g n = f n) : Quiet l k s g := ⟨h.slots, h.list, fun n hn => by rw [h.home n hn, e n hn]⟩
theorem format_inv {n : Nat} (hn : 36 ≤ n) (hn5 : n ≤ 512) {l : Nat → Cell} (hs : Sized l) :
  FsInv (exec (commitT 2 0 (writesF (List.replicate 8192 0) (dirB []))) (exec (openT 0 1 []) (exec (fmtT n) l))) (n - 36) 2 1 [] [] := by
 obtain ⟨h1, h2, h3⟩ := fmt_quiet hn hs
 have h4 := (quiet_open h1 (by omega)).2
 have hd := (FilesOk.nil (n - 36)).dir_len (by omega)
 have h5 := (h4.congr (g := blkOf (List.replicate 8192 0)) fun i hi => blkOf_zeros hi)
 have ho := over_writesF (a := List.replicate 8192 0) hd
 have h6 := (h5.commit ho (by omega)).2.1
 exact ⟨by omega, h6, (h2.exec (sized_open (by omega) ⟨by simp, by simp, by simp⟩)).exec (sized_commit (by omega) ho.wok), FilesOk.nil _, FilesOk.nil _, fun p hp => absurd hp List.not_mem_nil, fun p hp => absurd hp List.not_mem_nil, fun p hp => absurd hp List.not_mem_nil⟩
theorem HoldsB.part {c : Nat → Bs} {bl : List Nat} {X : Bs} (h : HoldsB c bl X) {at_ m b : Nat} (hb : bl[at_ / 512]? = some b) (hm : at_ + m ≤ X.length) (h5 : at_ % 512 + m ≤ 512) :
  ((c b).drop (at_ % 512)).take m = (X.drop at_).take m := by
 apply List.ext_getElem?
 intro i
 rw [List.getElem?_take, List.getElem?_take]
 by_cases hi : i < m
 ·rw [if_pos hi, if_pos hi, List.getElem?_drop, List.getElem?_drop, h _ b (at_ % 512 + i) hb (by omega) (by omega)]
  congr 1
  omega
 ·rw [if_neg hi, if_neg hi]
theorem take_step {X : Bs} {a d m : Nat} : (X.drop a).take (d + m) = (X.drop a).take d ++ (X.drop (a + d)).take m := by
 rw [List.take_add, List.drop_drop]
end Go.Proofs.YteepgehjkcahiaaGreat

namespace Go.Proofs.YteepgehjkcahiaaGreat
open Go.RowKit Go.Maps
structure Fsd where
 j : Nat
 c : Nat
 q : Nat
 m : Nat
 mf : Nat
 ml : Nat
 base : Nat
 va : Value
 nv : Value
 lv : Value
 F : List Nat
 FC : List Nat
 FM : List Nat
 FL : List Nat
 l : List (Bc.Nd Int SvB)
 V : Nat → Bs
 A : Bs → Nat
 A' : Bs → Nat
 R : Bs → Value
 R' : Bs → Value
 T : Nat → Nat
structure SepF (v : Nat) (X : Fsd) : Prop where
 v : X.T v = 1
 j : X.T X.j = 2
 F : ∀ i ∈ X.F, X.T i = 3
 FC : ∀ i ∈ X.FC, X.T i = 4
 FM : ∀ i ∈ X.FM, X.T i = 5
 FL : ∀ i ∈ X.FL, X.T i = 6
 q : X.T X.q = 7
 nv : ∀ g, X.nv.ownBlock = some g → X.T g = 8
 lv : ∀ g, X.lv.ownBlock = some g → X.T g = 9
 va : ∀ g, X.va.ownBlock = some g → X.T g = 10
def Fsd.fp (X : Fsd) (v : Nat) : List Nat := v :: X.j :: X.q :: (X.F ++ (X.FC ++ (X.FM ++ (X.FL ++ (X.nv.ownBlock.toList ++ (X.lv.ownBlock.toList ++ X.va.ownBlock.toList))))))
theorem mem_fp {X : Fsd} {v i : Nat} : i ∈ X.fp v ↔ i = v ∨ i = X.j ∨ i = X.q ∨ i ∈ X.F ∨ i ∈ X.FC ∨ i ∈ X.FM ∨ i ∈ X.FL ∨ X.nv.ownBlock = some i ∨ X.lv.ownBlock = some i ∨ X.va.ownBlock = some i := by
 unfold Fsd.fp
 simp only [List.mem_cons, List.mem_append, Option.mem_toList]
structure FsAt (w : World) (v p : Nat) (D : Dev) (room k s : Nat) (fs last : Files) (X : Fsd) : Prop where
 box : w.heap[v]? = some (boxF X.j X.c X.q X.mf X.ml X.va false)
 log : LogA w X.j p (room + 16) k X.c X.m false D X.F X.l X.V X.FC
 fil : FilR w X.mf fs X.A X.R X.FM
 las : FilR w X.ml last X.A' X.R' X.FL
 map : MapR w X.base X.q X.nv X.lv (marks room fs) (marks room last)
 dir : Ow w 0 X.va (dirB last)
 up : D.down = false
 inv : FsInv D.blk room k s fs last
 see : ∀ b, b < room → X.V (16 + b) = (D.blk (36 + b)).view
 sep : SepF v X
theorem LogA.upd {w w' : World} {j p n k c m : Nat} {dead : Bool} {D : Dev} {F : List Nat} {l : List (Bc.Nd Int SvB)} {V : Nat → Bs} {FC G : List Nat} (h : LogA w j p n k c m dead D F l V FC) (u : Upd G w w') (hj : j ∉ G) (hF : ∀ i ∈ F, i ∉ G) (hC : ∀ i ∈ FC, i ∉ G) : LogA w' j p n k c m dead D F l V FC :=
 ⟨h.log.upd u hj, h.dev.upd u hF, h.ca.upd u hC, h.jF, h.jC, h.ap, h.nD, fun i hi => Nat.lt_of_lt_of_le (h.lt i hi) u.size⟩
theorem FsAt.lt {w : World} {v p : Nat} {D : Dev} {room k s : Nat} {fs last : Files} {X : Fsd} (h : FsAt w v p D room k s fs last X) : ∀ i ∈ X.fp v, i < w.heap.size := by
 intro i hi
 rcases mem_fp.1 hi with rfl | rfl | rfl | q | q | q | q | q | q | q
 ·exact lt_of_blk h.box
 ·exact lt_of_blk h.log.log
 ·exact lt_of_blk h.map.box
 ·exact h.log.dev.lt i q
 ·exact h.log.lt i q
 ·exact h.fil.lt i q
 ·exact h.las.lt i q
 ·exact (h.map.now.block i q).2
 ·exact (h.map.last.block i q).2
 ·exact (h.dir.block i q).2
theorem FsAt.keep {w w' : World} {v p : Nat} {D : Dev} {room k s : Nat} {fs last : Files} {X : Fsd} (h : FsAt w v p D room k s fs last X) {G : List Nat} (u : Upd G w w') (hG : ∀ i ∈ X.fp v, i ∉ G) : FsAt w' v p D room k s fs last X := by
 have hg : ∀ {i}, (i = v ∨ i = X.j ∨ i = X.q ∨ i ∈ X.F ∨ i ∈ X.FC ∨ i ∈ X.FM ∨ i ∈ X.FL ∨ X.nv.ownBlock = some i ∨ X.lv.ownBlock = some i ∨ X.va.ownBlock = some i) → i ∉ G := fun hi => hG _ (mem_fp.2 hi)
 exact ⟨(u.block v (lt_of_blk h.box) (hg (by simp))).trans h.box, h.log.upd u (hg (by simp)) (fun i hi => hg (by simp [hi])) (fun i hi => hg (by simp [hi])), h.fil.upd u (fun i hi => hg (by simp [hi])), h.las.upd u (fun i hi => hg (by simp [hi])),
  h.map.upd u (hg (by simp)) (fun i hi e => hg (by simp [e]) hi) (fun i hi e => hg (by simp [e]) hi), h.dir.upd u (fun i hi e => hg (by simp [e]) hi), h.up, h.inv, h.see, h.sep⟩
theorem FsAt.off {w : World} {v p : Nat} {D : Dev} {room k s : Nat} {fs last : Files} {X : Fsd} (h : FsAt w v p D room k s fs last X) : v ≠ X.j ∧ v ∉ X.F ∧ v ∉ X.FC ∧ v ∉ X.FM ∧ v ∉ X.FL ∧ v ≠ X.q ∧ X.j ∉ X.F ∧ X.j ∉ X.FC ∧ X.j ∉ X.FM ∧ X.j ∉ X.FL ∧ X.j ≠ X.q ∧ X.q ∉ X.F ∧ X.q ∉ X.FC ∧ X.q ∉ X.FM ∧ X.q ∉ X.FL := by
 have s := h.sep
 have e : ∀ {a b x y : Nat}, X.T a = x → X.T b = y → x ≠ y → a ≠ b := fun h1 h2 hn e => hn (by rw [← h1, ← h2, e])
 refine ⟨e s.v s.j (by decide), fun q => ?_, fun q => ?_, fun q => ?_, fun q => ?_, e s.v s.q (by decide), fun q => ?_, fun q => ?_, fun q => ?_, fun q => ?_, e s.j s.q (by decide), fun q => ?_, fun q => ?_, fun q => ?_, fun q => ?_⟩
 ·exact e s.v (s.F _ q) (by decide) rfl
 ·exact e s.v (s.FC _ q) (by decide) rfl
 ·exact e s.v (s.FM _ q) (by decide) rfl
 ·exact e s.v (s.FL _ q) (by decide) rfl
 ·exact e s.j (s.F _ q) (by decide) rfl
 ·exact e s.j (s.FC _ q) (by decide) rfl
 ·exact e s.j (s.FM _ q) (by decide) rfl
 ·exact e s.j (s.FL _ q) (by decide) rfl
 ·exact e s.q (s.F _ q) (by decide) rfl
 ·exact e s.q (s.FC _ q) (by decide) rfl
 ·exact e s.q (s.FM _ q) (by decide) rfl
 ·exact e s.q (s.FL _ q) (by decide) rfl
theorem tag_ne {T : Nat → Nat} {a b x y : Nat} (h1 : T a = x) (h2 : T b = y) (hn : x ≠ y) : a ≠ b := fun e => hn (by rw [← h1, ← h2, e])
def FsNext (w : World) (v p room : Nat) (X : Fsd) (D : Dev) (k s : Nat) (fs last : Files) (w' : World) : Prop :=
 ∃ X', FsAt w' v p D room k s fs last X' ∧ Upd (X.fp v) w w' ∧ ∀ i ∈ X'.fp v, i ∈ X.fp v ∨ w.heap.size ≤ i
structure Fell (w : World) (v p : Nat) (D : Dev) (F : List Nat) : Prop where
 ex : ∃ (j c q mf ml : Nat) (va : Value) (dead : Bool) (n k : Nat) (ld : Bool), w.heap[v]? = some (boxF j c q mf ml va dead) ∧ LogR w j p n k ld ∧ (∃ F0, DevAt w p D F0 ∧ (∀ i ∈ F0, i ∈ F) ∧ v ∉ F0 ∧ j ∉ F0) ∧ n ≤ 512 ∧ v ≠ j ∧ v ∈ F ∧ j ∈ F
 down : D.down = true
structure Ran (D : Dev) (e : Nat) (D' : Dev) (c : Nat) : Prop where
 n : D'.n = D.n
 wr : D'.wr ≤ D.wr + c
 out : (e = 0 ∧ D.down = false ∧ D'.down = false ∧ (D.fuse < 0 → D'.fuse < 0)) ∨ (e = 2 ∧ (D.down = false → 0 ≤ D.fuse) ∧ D'.down = true)
theorem Eff.ran {t : List DOp} {D D' : Dev} {e : Nat} (h : Eff t D e D') {c : Nat} (hc : t.length ≤ c) : Ran D e D' c :=
 ⟨h.n, by have := h.wr; omega, h.out.imp (fun q => ⟨q.1, q.2.1, q.2.2.1, q.2.2.2.1⟩) (fun q => ⟨q.1, q.2.1, q.2.2.1⟩)⟩
theorem Ran.next {D D1 D2 : Dev} {e a b : Nat} (h : Ran D 0 D1 a) (g : Ran D1 e D2 b) : Ran D e D2 (a + b) := by
 refine ⟨g.n.trans h.n, by have := g.wr; have := h.wr; omega, ?_⟩
 rcases h.out with ⟨-, h1, h2, h3⟩ | ⟨h1, -⟩
 ·rcases g.out with ⟨g1, g2, g3, g4⟩ | ⟨g1, g2, g3⟩
  ·exact .inl ⟨g1, h1, g3, fun q => g4 (h3 q)⟩
  ·refine .inr ⟨g1, fun _ => ?_, g3⟩
   have := g2 h2
   by_cases q : D.fuse < 0
   ·have := h3 q; omega
   ·omega
 ·cases h1
theorem Ran.more {D D' : Dev} {e c d : Nat} (h : Ran D e D' c) (hc : c ≤ d) : Ran D e D' d := ⟨h.n, by have := h.wr; omega, h.out⟩
theorem Ran.refl {D : Dev} (h : D.down = false) : Ran D 0 D 0 := ⟨rfl, Nat.le_refl _, .inl ⟨rfl, h, h, id⟩⟩
theorem Ran.ok {D D' : Dev} {e c : Nat} (h : Ran D e D' c) (hf : D.fuse < 0) (hd : D.down = false) : e = 0 ∧ D'.fuse < 0 ∧ D'.down = false := by
 rcases h.out with ⟨h1, -, h3, h4⟩ | ⟨-, h2, -⟩
 ·exact ⟨h1, h4 hf, h3⟩
 ·have := h2 hd; omega
end Go.Proofs.YteepgehjkcahiaaGreat
