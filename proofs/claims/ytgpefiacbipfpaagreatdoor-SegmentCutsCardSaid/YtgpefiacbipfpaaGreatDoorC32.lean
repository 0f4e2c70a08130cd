/- Mounted: behind a crash a file system is mounted, however often the device goes down in that. FsdirAtoms: the walk. Segment, in plain words: the segments' files in a file system. Segment: frames in memory; the codec's Scan. -/
import Derived.Test.YtgpefiacbipfpaaGreatDoorC31
import Derived.Test.YtgpefiacbipfpaaGreatDoorC11
import Derived.Test.YtgpefiacbipfpaaGreatDoorC12
namespace Go.Proofs.YtgpefiacbipfpaaGreatDoor
open Go.RowKit Go.Maps
end Go.Proofs.YtgpefiacbipfpaaGreatDoor

namespace Go.Proofs.YtgpefiacbipfpaaGreatDoor
open Go.RowKit Go.Maps
theorem Lv.apd {w0 w : World} {v p room : Nat} {fs last : Files} {c : Nat} {G : List Nat} (h : Lv w0 w v p room fs last c G) (hs : ∀ b ∈ allBlks last, b ∈ allBlks fs) {nm : Bs} {f : Fil} (hg : getA fs nm = some f) {d : Bs} (hm : f.data.length + d.length ≤ 32768) {m : Nat} (hk : ∀ q ∈ fs, q.2.data.length ≤ 512 * m) (hb : m * fs.length + needN f d.length ≤ room) :
  codeP room fs last nm d.length = 0 ∧ ∃ g : Fil, g.data = f.data ++ d ∧ apdF room fs last nm d = putA ltN fs nm g := by
 obtain ⟨l, k, s, hi⟩ := h.inv
 have hle := blks_le hi.now hk
 have hc := h.app_code hs hg (n := d.length) hm (by omega)
 refine ⟨hc, growF room fs last f d, growF_data _ _ _ _ _, ?_⟩
 unfold apdF
 rw [if_pos hc]
 unfold appF
 rw [hg]
theorem need_le (f : Fil) (n : Nat) : needN f n ≤ n / 512 + 1 := by unfold needN blocksN; omega
theorem Lv.readAll {w0 w : World} {v p room : Nat} {fs last : Files} {c : Nat} {G : List Nat} {f : Fil} (h : Lv w0 w v p room fs last c G) (hc : c ≤ 1000000) (nm : ByteArray) (hs : nm.size ≤ maxLen) (hg : getA fs nm.data.toList = some f) (n : Nat) (hn : f.data.length ≤ n) :
  Calls Tryz.prog 56 #[.pointer (some ⟨v, 0, none⟩), .string nm, .int .i64 0, .int .i64 (n : Int)] w fun r w' => ∃ rv, r = .returned (.tuple #[rv, .int .i64 0]) ∧ Ow w' w.heap.size rv f.data ∧ Lv w0 w' v p room fs last c (rv.ownBlock.toList ++ G) ∧ Stay G w w' := by
 have hcR : codeR fs nm.data.toList 0 n = 0 := by unfold codeR; rw [hg]; dsimp only; rw [if_neg (by omega)]
 have hdR : dataR fs nm.data.toList 0 n = f.data := by unfold dataR; rw [hg]; dsimp only; rw [show (0 : Int).toNat = 0 from rfl, List.drop_zero, List.take_of_length_le (by simp only [Int.toNat_natCast]; exact hn)]
 refine (h.read hc nm hs 0 n).mono fun r w' ⟨rv, e, ho, _, hl, hst⟩ => ?_
 rw [hcR] at e ho
 rw [hdR] at ho
 exact ⟨rv, e, ho rfl, hl, hst⟩
end Go.Proofs.YtgpefiacbipfpaaGreatDoor

namespace Go.Proofs.YtgpefiacbipfpaaGreatDoor
open Go.RowKit Go.Maps
structure SegM (fs : Files) (m : Nat → Option Bs) : Prop where
 at_ : ∀ i, i < 100 → (getA fs (nameS i)).map Fil.data = m i
 only : ∀ nm, getA fs nm ≠ none → ∃ i, i < 100 ∧ nm = nameS i
def setM (m : Nat → Option Bs) (i : Nat) (x : Option Bs) : Nat → Option Bs := fun j => if j = i then x else m j
theorem SegM.get {fs : Files} {m : Nat → Option Bs} (h : SegM fs m) {i : Nat} (hi : i < 100) {d : Bs} (hm : m i = some d) : ∃ f, getA fs (nameS i) = some f ∧ f.data = d := by
 have := h.at_ i hi
 rw [hm] at this
 cases hg : getA fs (nameS i) with
 | none => rw [hg] at this; cases this
 | some f => rw [hg] at this; exact ⟨f, rfl, Option.some.inj this⟩
theorem SegM.none {fs : Files} {m : Nat → Option Bs} (h : SegM fs m) {i : Nat} (hi : i < 100) (hm : m i = none) : getA fs (nameS i) = none := by
 have := h.at_ i hi
 rw [hm] at this
 cases hg : getA fs (nameS i) with
 | none => rfl
 | some f => rw [hg] at this; cases this
theorem SegM.put {fs : Files} {m : Nat → Option Bs} (h : SegM fs m) (hs : Srt ltN fs) {i : Nat} (hi : i < 100) (g : Fil) : SegM (putA ltN fs (nameS i) g) (setM m i (some g.data)) where
 at_ := fun j hj => by
  rw [getA_putA ordN hs]
  unfold setM
  by_cases e : j = i
  ·rw [if_pos e, if_pos (by rw [e])]; rfl
  ·rw [if_neg e, if_neg fun q => e (nameS_inj hj hi q.symm)]
   exact h.at_ j hj
 only := fun nm hn => by
  rw [getA_putA ordN hs] at hn
  by_cases e : nameS i = nm
  ·exact ⟨i, hi, e.symm⟩
  ·rw [if_neg e] at hn; exact h.only nm hn
theorem SegM.del {fs : Files} {m : Nat → Option Bs} (h : SegM fs m) {i : Nat} (hi : i < 100) : SegM (delA fs (nameS i)) (setM m i Option.none) where
 at_ := fun j hj => by
  rw [getA_delA]
  unfold setM
  by_cases e : j = i
  ·rw [if_pos e, if_pos (by rw [e])]; rfl
  ·rw [if_neg e, if_neg fun q => e (nameS_inj hj hi q.symm)]
   exact h.at_ j hj
 only := fun nm hn => by
  rw [getA_delA] at hn
  by_cases e : nameS i = nm
  ·exact ⟨i, hi, e.symm⟩
  ·rw [if_neg e] at hn; exact h.only nm hn
theorem SegM.ext {fs : Files} {m k : Nat → Option Bs} (h : SegM fs m) (e : ∀ i, i < 100 → m i = k i) : SegM fs k := ⟨fun i hi => by rw [← e i hi]; exact h.at_ i hi, h.only⟩
theorem names_len : ∀ (n : Nat) (l : List Bs), l.Nodup → (∀ x ∈ l, ∃ i, i < n ∧ x = nameS i) → l.length ≤ n := by
 intro n
 induction n with
 | zero =>
  intro l _ h
  cases l with
  | nil => simp
  | cons x l => obtain ⟨i, hi, -⟩ := h x (by simp); omega
 | succ n ih =>
  intro l hnd h
  by_cases hm : nameS n ∈ l
  ·have := ih (l.erase (nameS n)) (hnd.erase _) fun x hx => by
    obtain ⟨hx1, hx2⟩ := (List.Nodup.mem_erase_iff hnd).1 hx
    obtain ⟨i, hi, rfl⟩ := h x hx2
    exact ⟨i, by rcases Nat.lt_or_ge i n with q | q; · exact q
                 ·obtain rfl : i = n := by omega
                  exact absurd rfl hx1, rfl⟩
   rw [List.length_erase_of_mem hm] at this
   omega
  ·have := ih l hnd fun x hx => by
    obtain ⟨i, hi, rfl⟩ := h x hx
    exact ⟨i, by rcases Nat.lt_or_ge i n with q | q; · exact q
                 ·obtain rfl : i = n := by omega
                  exact absurd hx hm, rfl⟩
   omega
theorem SegM.len {fs : Files} {m : Nat → Option Bs} (h : SegM fs m) (hs : Srt ltN fs) (n : Nat) (hm : ∀ i, n ≤ i → i < 100 → m i = Option.none) : fs.length ≤ n := by
 have hnd : (fs.map (·.1)).Nodup := by
  rw [List.Nodup, List.pairwise_map]
  refine List.Pairwise.imp ?_ hs
  intro a b hab e
  rw [e] at hab
  have := ordN.irrefl b.1
  rw [show ltN b.1 b.1 = true from hab] at this
  cases this
 have := names_len n (fs.map (·.1)) hnd fun x hx => by
  obtain ⟨p, hp, rfl⟩ := List.mem_map.1 hx
  have hg := getA_of_mem ordN hs hp
  obtain ⟨i, hi, e⟩ := h.only p.1 (by rw [hg]; simp)
  refine ⟨i, ?_, e⟩
  rcases Nat.lt_or_ge i n with q | q
  ·exact q
  ·have := h.none hi (hm i q hi)
   rw [← e, hg] at this
   cases this
 rwa [List.length_map] at this
theorem segM_nil : SegM [] fun _ => Option.none := ⟨fun _ _ => rfl, fun nm h => absurd rfl h⟩
def rowM (ds : List Bs) : Nat → Option Bs := fun i => ds[i]?
theorem rowM_snoc (ds : List Bs) (d : Bs) : setM (rowM ds) ds.length (some d) = rowM (ds ++ [d]) := by
 funext i
 unfold setM rowM
 by_cases e : i = ds.length
 ·rw [if_pos e, e, List.getElem?_append_right (Nat.le_refl _)]; simp
 ·rw [if_neg e]
  rcases Nat.lt_or_ge i ds.length with q | q
  ·rw [List.getElem?_append_left q]
  ·rw [List.getElem?_eq_none q, List.getElem?_eq_none (by simp; omega)]
theorem rowM_last (ds : List Bs) (x d : Bs) : setM (rowM (ds ++ [x])) ds.length (some d) = rowM (ds ++ [d]) := by
 funext i
 unfold setM rowM
 by_cases e : i = ds.length
 ·rw [if_pos e, e, List.getElem?_append_right (Nat.le_refl _)]; simp
 ·rw [if_neg e]
  rcases Nat.lt_or_ge i ds.length with q | q
  ·rw [List.getElem?_append_left q, List.getElem?_append_left q]
  ·rw [List.getElem?_eq_none (by simp; omega), List.getElem?_eq_none (by simp; omega)]
theorem blks_crt {fs : Files} {nm : Bs} (hs : Srt ltN fs) : ∀ b, b ∈ allBlks fs → b ∈ allBlks (crtF fs nm) := by
 intro b hb
 unfold crtF
 by_cases hc : codeC false fs nm = 0
 ·rw [if_pos hc]
  have hg := (codeC_zero hc).2.1
  obtain ⟨p, hp, hpb⟩ := List.mem_flatMap.1 hb
  refine List.mem_flatMap.2 ⟨p, getA_mem (k := p.1) (x := p.2) ?_, hpb⟩
  rw [getA_putA ordN hs, if_neg, getA_of_mem ordN hs hp]
  intro e
  rw [e, getA_of_mem ordN hs hp] at hg
  cases hg
 ·rw [if_neg hc]; exact hb
theorem free_all {l : Nat → Cell} {room k s : Nat} {fs last : Files} (h : FsInv l room k s fs last) : room ≤ freeN room fs last + (allBlks fs).length + (allBlks last).length := by
 have h1 := h.count
 have h2 := List.length_filter_le (fun b => !decide (b ∈ allBlks last)) (allBlks fs)
 omega
structure SegV (w0 w : World) (v p room : Nat) (m ml : Nat → Option Bs) (c : Nat) (G : List Nat) : Prop where
 ex : ∃ fs last, Lv w0 w v p room fs last c G ∧ SegM fs m ∧ SegM last ml ∧ ∀ b ∈ allBlks last, b ∈ allBlks fs
section
variable {w0 w w' : World} {v p room c : Nat} {m ml : Nat → Option Bs} {G : List Nat}
theorem SegV.upd (h : SegV w0 w v p room m ml c G) : Upd [] w0 w := by
 obtain ⟨fs, last, h1, -⟩ := h.ex
 exact h1.upd
theorem SegV.keep (h : SegV w0 w v p room m ml c G) (u : Upd [] w w') : SegV w0 w' v p room m ml c G := by
 obtain ⟨fs, last, h1, h2⟩ := h.ex
 exact ⟨fs, last, h1.keep u, h2⟩
theorem SegV.more {c' : Nat} (h : SegV w0 w v p room m ml c G) (hc : c ≤ c') : SegV w0 w v p room m ml c' G := by
 obtain ⟨fs, last, h1, h2⟩ := h.ex
 exact ⟨fs, last, h1.more hc, h2⟩
theorem SegV.lt (h : SegV w0 w v p room m ml c G) : ∀ i ∈ G, i < w.heap.size := by
 obtain ⟨fs, last, h1, h2⟩ := h.ex
 exact h1.lt
theorem SegV.guardF (h : SegV w0 w v p room m ml c G) {F : List Nat} (u : Upd F w w') (hF : ∀ i ∈ F, i ∈ G ∧ w0.heap.size ≤ i) {G' : List Nat} (hg : ∀ b ∈ G', w.heap.size ≤ b ∧ b < w'.heap.size) : SegV w0 w' v p room m ml c (G' ++ G) := by
 obtain ⟨fs, last, h1, h2⟩ := h.ex
 exact ⟨fs, last, h1.guardF u hF hg, h2⟩
theorem SegV.guard (h : SegV w0 w v p room m ml c G) (u : Upd [] w w') {G' : List Nat} (hg : ∀ b ∈ G', w.heap.size ≤ b ∧ b < w'.heap.size) : SegV w0 w' v p room m ml c (G' ++ G) := h.guardF u (by simp) hg
theorem SegV.create (h : SegV w0 w v p room m ml c G) {i : Nat} (hm : ∀ j, i ≤ j → j < 100 → m j = none) (hi : i < 64) :
  Calls Tryz.prog 11 #[.pointer (some ⟨v, 0, none⟩), .string (nmS i)] w fun r w' => r = .returned (.int .i64 0) ∧ SegV w0 w' v p room (setM m i (some [])) ml c G ∧ Stay G w w' := by
 obtain ⟨fs, last, h1, h2, h3, h4⟩ := h.ex
 obtain ⟨l, k, s, hi'⟩ := h1.inv
 have hg := h2.none (i := i) (by omega) (hm i (Nat.le_refl _) (by omega))
 have hl := h2.len hi'.now.srt i hm
 have hc : codeC false fs (nmS i).data.toList = 0 := by
  have := nameS_len i
  unfold codeC
  rw [nmS_list, if_neg Bool.false_ne_true, if_neg (by omega), if_neg (by rw [hg]; simp), if_neg (by omega)]
 refine (h1.create (nmS i) (nmS_size i)).mono fun r w' ⟨e, hl', hst⟩ => ⟨by rw [e, hc]; rfl, ⟨_, last, hl', ?_, h3, fun b hb => blks_crt hi'.now.srt b (h4 b hb)⟩, hst⟩
 unfold crtF
 rw [if_pos hc]
 exact h2.put hi'.now.srt (by omega) emptyF
theorem SegV.append (h : SegV w0 w v p room m ml c G) (hc : c ≤ 1000000) {i n : Nat} (hi : i < 100) {x : Bs} (hx : m i = some x) {dv : Value} {d : Bs} (hd : Rd w dv d) (hdo : d ≠ [] → ∀ g, dv.ownBlock = some g → g ∈ G ∨ g < w0.heap.size) (hm : ∀ j y, j < 100 → m j = some y → j < n ∧ y.length ≤ 8192) (hb : 16 * n + d.length / 512 + 1 ≤ room) (hxd : x.length + d.length ≤ 32768) :
  Calls Tryz.prog 13 #[.pointer (some ⟨v, 0, none⟩), .string (nmS i), dv] w fun r w' => r = .returned (.int .i64 0) ∧ SegV w0 w' v p room (setM m i (some (x ++ d))) ml (c + 1) G ∧ Stay G w w' := by
 obtain ⟨fs, last, h1, h2, h3, h4⟩ := h.ex
 obtain ⟨l, k, s, hi'⟩ := h1.inv
 obtain ⟨f, hg, rfl⟩ := h2.get hi hx
 have hlen := h2.len hi'.now.srt n fun j hj hj2 => by
  cases hmj : m j with
  | none => rfl
  | some y => have := (hm j y hj2 hmj).1; omega
 have hk : ∀ q ∈ fs, q.2.data.length ≤ 512 * 16 := fun q hq => by
  have hgq := getA_of_mem ordN hi'.now.srt hq
  obtain ⟨j, hj, e⟩ := h2.only q.1 (by rw [hgq]; simp)
  have := h2.at_ j hj
  rw [← e, hgq] at this
  have := (hm j _ hj this.symm).2
  omega
 have hn := need_le f d.length
 obtain ⟨hcode, g, hgd, hap⟩ := h1.apd h4 hg (d := d) hxd (m := 16) hk (by omega)
 refine (h1.append hc (nmS i) (nmS_size i) hd hdo (by omega)).mono fun r w' ⟨e, hl', hst⟩ => ⟨by rw [e, nmS_list, hcode]; rfl, ⟨_, last, hl', ?_, h3, ?_⟩, hst⟩
 ·rw [nmS_list, hap, ← hgd]
  exact h2.put hi'.now.srt hi g
 ·intro b hb'
  unfold apdF
  rw [nmS_list, if_pos hcode]
  unfold appF
  rw [hg]
  exact blks_put hi'.now hg (growF_blks _ _ _ _ _) b (h4 b hb')
theorem SegV.sync (h : SegV w0 w v p room m ml c G) (hc : c ≤ 1000000) :
  Calls Tryz.prog 14 #[.pointer (some ⟨v, 0, none⟩)] w fun r w' => r = .returned (.int .i64 0) ∧ SegV w0 w' v p room m m (c + 1) G ∧ Stay G w w' := by
 obtain ⟨fs, last, h1, h2, h3, h4⟩ := h.ex
 exact (h1.sync hc).mono fun r w' ⟨e, hl', hst⟩ => ⟨e, ⟨_, _, hl', h2, h2, fun b hb => hb⟩, hst⟩
theorem SegV.size (h : SegV w0 w v p room m ml c G) {i : Nat} (hi : i < 100) :
  Calls Tryz.prog 54 #[.pointer (some ⟨v, 0, none⟩), .string (nmS i)] w fun r w' => r = .returned (match m i with | some d => .tuple #[.int .i64 d.length, .int .i64 0] | none => .tuple #[.int .i64 0, .int .i64 80]) ∧ SegV w0 w' v p room m ml c G ∧ Stay G w w' := by
 obtain ⟨fs, last, h1, h2, h3, h4⟩ := h.ex
 refine (h1.size (nmS i) (nmS_size i)).mono fun r w' ⟨e, hl', hst⟩ => ⟨?_, ⟨_, _, hl', h2, h3, h4⟩, hst⟩
 rw [e]
 unfold sizeF
 rw [nmS_list]
 cases hm : m i with
 | none => rw [h2.none hi hm]; rfl
 | some d => obtain ⟨f, hg, rfl⟩ := h2.get hi hm; rw [hg]; rfl
theorem SegV.read (h : SegV w0 w v p room m ml c G) (hc : c ≤ 1000000) {i : Nat} (hi : i < 100) {d : Bs} (hm : m i = some d) :
  Calls Tryz.prog 56 #[.pointer (some ⟨v, 0, none⟩), .string (nmS i), .int .i64 0, .int .i64 d.length] w fun r w' => ∃ rv, r = .returned (.tuple #[rv, .int .i64 0]) ∧ Ow w' w.heap.size rv d ∧ SegV w0 w' v p room m ml c (rv.ownBlock.toList ++ G) ∧ Stay G w w' := by
 obtain ⟨fs, last, h1, h2, h3, h4⟩ := h.ex
 obtain ⟨f, hg, rfl⟩ := h2.get hi hm
 exact (h1.readAll hc (nmS i) (nmS_size i) hg f.data.length (Nat.le_refl _)).mono fun r w' ⟨rv, e, ho, hl, hst⟩ => ⟨rv, e, ho, ⟨_, _, hl, h2, h3, h4⟩, hst⟩
end
end Go.Proofs.YtgpefiacbipfpaaGreatDoor

namespace Go.Proofs.YtgpefiacbipfpaaGreatDoor
open Go.RowKit
theorem Rd.upd1 {w w' : World} {v : Value} {l : Bs} (h : Rd w v l) {F : List Nat} (u : Upd F w w') (hF : l ≠ [] → ∀ g, v.ownBlock = some g → g ∉ F) : Rd w' v l := by
 by_cases hl : l = []
 ·subst hl
  obtain ⟨⟨a, c, hv, h1, h2, h3⟩, h4⟩ := h
  exact ⟨⟨a, c, hv, h1, h2, fun i hi => absurd hi (by simp)⟩, h4⟩
 ·exact h.upd u (hF hl)
theorem Rd.blk_lt {w : World} {v : Value} {l : Bs} (h : Rd w v l) (hl : l ≠ []) {g : Nat} (hg : v.ownBlock = some g) : g < w.heap.size := by
 obtain ⟨a, c, rfl, h1, h2, h3⟩ := h.slice
 have hp := List.length_pos_iff.2 hl
 obtain ⟨-, -, -, hcell⟩ := h.cell
 obtain ⟨b, off, rfl, hc⟩ := hcell hp
 cases hg
 exact World.block_lt_of_cell? _ _ (hc 0 hp)
theorem Upd.ofGrown {w w' : World} {row : Option Nat} (h : w.grownBy w' row) : Upd row.toList w w' :=
 ⟨h.os, h.output, h.size, fun k hk hn => h.block k hk fun e => hn (by rw [← e]; simp)⟩
structure FrsS (w : World) (base : Nat) (fv : Value) (L : List FrR) : Prop where
 own : OwFr w base fv L
 dat : ∀ x ∈ L, Rd w x.dv x.d
 sep : ∀ x ∈ L, x.d ≠ [] → ∀ g, x.dv.ownBlock = some g → base ≤ g ∧ fv.ownBlock ≠ some g
def dfoot (x : FrR) : List Nat := if x.d = [] then [] else x.dv.ownBlock.toList
def ffoot (fv : Value) (L : List FrR) : List Nat := fv.ownBlock.toList ++ L.flatMap dfoot
theorem mem_dfoot {x : FrR} {g : Nat} : g ∈ dfoot x ↔ x.d ≠ [] ∧ x.dv.ownBlock = some g := by
 unfold dfoot
 split
 ·rename_i h; simp [h]
 ·rename_i h; simp [h]
theorem mem_ffoot {fv : Value} {L : List FrR} {g : Nat} : g ∈ ffoot fv L ↔ fv.ownBlock = some g ∨ ∃ x ∈ L, x.d ≠ [] ∧ x.dv.ownBlock = some g := by
 unfold ffoot
 simp only [List.mem_append, List.mem_flatMap, mem_dfoot]
 simp
section
variable {w w' : World} {base : Nat} {fv fv' : Value} {L R : List FrR}
theorem FrsS.nil (w : World) (base : Nat) : FrsS w base (.slice none 0 0) [] := ⟨OwnG.nil _ _, by simp, by simp⟩
theorem FrsS.low {b : Nat} (h : FrsS w base fv L) (hb : b ≤ base) : FrsS w b fv L := ⟨h.own.base hb, h.dat, fun x hx hd g hg => ⟨Nat.le_trans hb (h.sep x hx hd g hg).1, (h.sep x hx hd g hg).2⟩⟩
theorem FrsS.upd (h : FrsS w base fv L) {F : List Nat} (u : Upd F w w') (hF : ∀ i ∈ ffoot fv L, i ∉ F) : FrsS w' base fv L :=
 ⟨h.own.upd u fun j hj e => hF j (mem_ffoot.2 (.inl e)) hj, fun x hx => (h.dat x hx).upd1 u fun hd g hg => hF g (mem_ffoot.2 (.inr ⟨x, hx, hd, hg⟩)), h.sep⟩
theorem FrsS.keep (h : FrsS w base fv L) (u : Upd [] w w') : FrsS w' base fv L := h.upd u (by simp)
theorem FrsS.lt (h : FrsS w base fv L) : ∀ i ∈ ffoot fv L, base ≤ i ∧ i < w.heap.size := fun i hi => by
 rcases mem_ffoot.1 hi with e | ⟨x, hx, hd, hg⟩
 ·exact h.own.block i e
 ·exact ⟨(h.sep x hx hd i hg).1, (h.dat x hx).blk_lt hd hg⟩
theorem FrsS.app (h : FrsS w base fv L) (hg : w.grownBy w' fv.ownBlock) (ho : OwFr w' base fv' (L ++ R)) (hn : fv'.ownBlock = fv.ownBlock ∨ ∀ g, fv'.ownBlock = some g → w.heap.size ≤ g) (hR : ∀ x ∈ R, Rd w x.dv x.d) (hs : ∀ x ∈ R, x.d ≠ [] → ∀ g, x.dv.ownBlock = some g → base ≤ g ∧ fv.ownBlock ≠ some g) : FrsS w' base fv' (L ++ R) := by
 have hu := Upd.ofGrown hg
 have hd : ∀ x ∈ L ++ R, Rd w x.dv x.d ∧ (x.d ≠ [] → ∀ g, x.dv.ownBlock = some g → base ≤ g ∧ fv.ownBlock ≠ some g) := fun x hx => by
  rcases List.mem_append.1 hx with q | q
  ·exact ⟨h.dat x q, h.sep x q⟩
  ·exact ⟨hR x q, hs x q⟩
 refine ⟨ho, fun x hx => (hd x hx).1.upd1 hu fun hx2 g hg q => ?_, fun x hx hx2 g hg => ⟨((hd x hx).2 hx2 g hg).1, fun q => ?_⟩⟩
 ·exact ((hd x hx).2 hx2 g hg).2 (by simpa using q)
 ·rcases hn with e | e
  ·exact ((hd x hx).2 hx2 g hg).2 (by rw [← e]; exact q)
  ·have := e g q
   have := (hd x hx).1.blk_lt hx2 hg
   omega
end
set_option maxRecDepth 100000 in
set_option maxHeartbeats 2000000 in
theorem scan_ok (w : World) {v : Value} {b : Bs} (h : Rd w v b) (hb : b.length ≤ 100000) :
  Calls Tryz.prog 57 #[v] w fun e w' => ∃ fv L, e = .returned (.tuple #[fv, .int .i64 (scanB b).2]) ∧ FrsS w' w.heap.size fv L ∧ L.map FrR.fr = (scanB b).1 ∧ Upd [] w w' := by
 obtain ⟨a, c, rfl, h1, h2, h3⟩ := h.slice
 obtain ⟨n, hn⟩ : ∃ n, n = b.length := ⟨_, rfl⟩
 have HR := Lib.hid h
 have HN := Lib.hid hn
 rw [← hn] at h1 h3 hb HR ⊢
 clear hn h
 go_enter Tryz.func57, Tryz.ntmps57
 go_wp2_with fail
 go_loopg [2, 3, 4, 5, 6, 7, 8] (n + 1) (fun gh v2 v3 v4 v5 v6 v7 v8 wr => ∃ (at_ : Nat) (fv : Value) (L : List FrR), v4 = fv ∧ v5 = .int .i64 at_ ∧ at_ ≤ n ∧ gh = n + 1 - at_ ∧ Hid (FrsS wr w.heap.size fv L ∧ scanB b = (L.map FrR.fr ++ (scanB (b.drop at_)).1, at_ + (scanB (b.drop at_)).2) ∧ Upd [] w wr))
 case atStart => exact ⟨0, _, [], rfl, rfl, by omega, rfl, Lib.hid ⟨FrsS.nil _ _, by simp, Upd.refl _ _⟩⟩
 case round =>
  obtain ⟨at_, fv, L, rfl, rfl, hat, rfl, HS⟩ := hrel
  obtain ⟨fa, fc, fm, hfm, rfl⟩ := HS.out.1.own.sliceM
  have HFM := Lib.hid hfm
  clear hfm
  have hr := HR.out.keep HS.out.2.2
  go_wp2_with (first
   | (refine wpList_tail8 rfl _ _ rfl hr (i := at_) (by rw [← HN.out]; exact hat) rfl rfl ?_; intro a8 c8 m8 hm8 hr8 hb8; have HR8 := Lib.hid hr8; clear hm8 hr8 hb8)
   | fail)
  refine (frame_all wr HR8.out).mono ?_
  rintro r w1 ⟨⟨dv, rfl, hdv, hdo⟩, hu1⟩
  clear hr
  obtain ⟨K, hK⟩ : ∃ K, K = (getFrame (b.drop at_)).2.2.1 := ⟨_, rfl⟩
  obtain ⟨E, hE⟩ : ∃ E, E = (getFrame (b.drop at_)).2.2.2 := ⟨_, rfl⟩
  obtain ⟨a1, c1, hdvs, -⟩ := hdv.slice
  have hpos := getFrame_pos (b := b.drop at_)
  have hfl := getFrame_le (b.drop at_)
  rw [List.length_drop, ← HN.out] at hpos
  rw [← hK, ← hE] at hpos ⊢
  have HG := Lib.hid (And.intro hK hE)
  generalize hkk : (getFrame (b.drop at_)).1 = kk at *
  generalize hdd : (getFrame (b.drop at_)).2.1 = dd at *
  have HKD := Lib.hid (And.intro hkk hdd)
  have HDV := Lib.hid (And.intro hdv (And.intro hdo hu1))
  obtain ⟨dl, hdl⟩ : ∃ dl, dl = dd.length := ⟨_, rfl⟩
  rw [← hdl] at hdvs hfl
  clear hK hE hkk hdd hdv hdo hu1 HR8 hdl
  subst hdvs
  by_cases hE0 : E = 0
  ·subst hE0
   have hpos := hpos rfl
   have hC : FrsS ((w1.alloc (boxFv kk (.slice a1 dl c1))).alloc (boxFv kk (.slice a1 dl c1))) w.heap.size (.slice fa fm fc) L := ((HS.out.1.keep HDV.out.2.2).keep ((Upd.refl [] w1).alloc _)).keep ((Upd.refl [] _).alloc _)
   have HC := Lib.hid hC
   have hLl : L.length ≤ 100000 := by
    have h1 := scanB_few b
    have h2 := scanB_le b
    rw [HS.out.2.1] at h1
    rw [← HN.out] at h2
    rw [List.length_append, List.length_map] at h1
    rw [HS.out.2.1] at h2
    omega
   have HLl := Lib.hid hLl
   have hbox := heap_top w1 (boxFv kk (.slice a1 dl c1))
   have b0 := cell_blk hbox 0
   have b1 := cell_blk hbox 1
   clear hC hLl hbox
   go_wp2_with (first
    | (at_builtin; go_loud (refine wpList_append_G TFr rfl _ _ rfl (base := w.heap.size) (l := L) (r := [⟨kk, .slice a1 dl c1, dd⟩]) (by rfl) HC.out.own (by rfl) (src_new TFr (ty := 25) (B := w1.heap.size + 1) (heap_top' _ _ _ (by simp))) (oneFr (w := w1) (by simp only [List.mem_singleton, forall_eq]; exact HDV.out.1)) ?c1 ?c2 ?c3 ?_))
    | fail)
   case c1 => have := HLl.out; simp; omega
   case c2 => have := HLl.out; simp; omega
   case c3 => have := HS.out.2.2.size; have := HDV.out.2.2.size; simp; omega
   intro v4 w4 ho4 hg4 hn4
   have hA := HC.out.app hg4 ho4 (hn4.imp id fun q g hg => by simpa using q g hg) (by simp only [List.mem_singleton, forall_eq]; exact (HDV.out.1.keep ((Upd.refl [] w1).alloc _)).keep ((Upd.refl [] _).alloc _)) (by
    simp only [List.mem_singleton, forall_eq]
    intro hd g hg
    have h1 := HDV.out.2.1 g hg
    have h2 := HS.out.2.2.size
    refine ⟨by omega, fun q => ?_⟩
    have := (HS.out.1.own.block g q).2
    omega)
   have hU4 : Upd [] w w4 := (((HS.out.2.2.trans HDV.out.2.2).alloc _).alloc _).grown hg4 (fun g hg => (HC.out.own.block g hg).1)
   have H4 := Lib.hid (And.intro hA hU4)
   clear hA hU4 ho4 hg4 hn4 b0 b1
   go_wp2_with fail
   go_roundg (n + 1 - (at_ + K))
   case measure => omega
   case rel =>
    refine ⟨at_ + K, _, _, rfl, by go_num, by omega, rfl, Lib.hid ⟨H4.out.1, ?_, H4.out.2⟩⟩
    have h1 := HS.out.2.1
    rw [scanB_step (HG.out.2.symm), ← HG.out.1, HKD.out.1, HKD.out.2, List.drop_drop] at h1
    rw [h1, List.map_append]
    simp only [List.append_assoc, List.map_cons, List.map_nil, List.cons_append, List.nil_append]
    exact Prod.ext rfl (Nat.add_assoc ..).symm
  ·have hE' : ¬ (E : Int) = 0 := by omega
   have HFin : Hid (scanB b = (L.map FrR.fr, at_)) := Lib.hid (by
    have := HS.out.2.1
    rw [scanB_stop (b := b.drop at_) (by rw [← HG.out.2]; exact hE0)] at this
    simpa using this)
   go_wp2_with fail
   go_ret2
   refine ⟨_, L, ?_, (HS.out.1.keep HDV.out.2.2).keep ((Upd.refl [] w1).alloc _), by rw [HFin.out], (HS.out.2.2.trans HDV.out.2.2).alloc _⟩
   rw [HFin.out]
   rfl
end Go.Proofs.YtgpefiacbipfpaaGreatDoor
