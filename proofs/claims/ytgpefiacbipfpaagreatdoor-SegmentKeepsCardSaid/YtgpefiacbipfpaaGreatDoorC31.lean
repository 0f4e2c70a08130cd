/- Segment, in plain words: the segments' files in a file system. Segment: the name of a segment (strconv.Itoa of a small number). Segment: rows of frames and of numbers; own; the codec's Frame at five bytes; PutFrame of a frame that is too long. Segment: frames in memory; the codec's Scan. -/
import Derived.Laws.Strings2
import Derived.Deep.RegionHeld3
import Derived.Deep.DeepCutAuto
import Derived.Test.YtgpefiacbipfpaaGreatDoorC30
import Derived.Test.YtgpefiacbipfpaaGreatDoorC03
import Derived.Test.YtgpefiacbipfpaaGreatDoorC05
import Derived.Test.YtgpefiacbipfpaaGreatDoorC08
import Derived.Test.YtgpefiacbipfpaaGreatDoorC16
namespace Go.Proofs.YtgpefiacbipfpaaGreatDoor
open Go.RowKit Go.Maps
structure SegM (fs : Files) (m : Nat → Option Bs) : Prop where
 at_ : ∀ i, i < 100 → (getA fs (nameS i)).map Fil.data = m i
 only : ∀ nm, getA fs nm ≠ none → ∃ i, i < 100 ∧ nm = nameS i
def setM (m : Nat → Option Bs) (i : Nat) (x : Option Bs) : Nat → Option Bs := fun j => if j = i then x else m j
theorem SegM.get {fs : Files} {m : Nat → Option Bs} (h : SegM fs m) {i : Nat} (hi : i < 100) {d : Bs} (hm : m i = some d) : ∃ f, getA fs (nameS i) = some f ∧ f.data = d := by
 have := h.at_ i hi
 rw [hm] at this
 cases hg : getA fs (nameS i) with
 | none => rw [hg] at this; cases this
 | some f => rw [hg] at this; exact ⟨f, rfl, Option.some.inj this⟩
theorem SegM.none {fs : Files} {m : Nat → Option Bs} (h : SegM fs m) {i : Nat} (hi : i < 100) (hm : m i = none) : getA fs (nameS i) = none := by
 have := h.at_ i hi
 rw [hm] at this
 cases hg : getA fs (nameS i) with
 | none => rfl
 | some f => rw [hg] at this; cases this
theorem SegM.put {fs : Files} {m : Nat → Option Bs} (h : SegM fs m) (hs : Srt ltN fs) {i : Nat} (hi : i < 100) (g : Fil) : SegM (putA ltN fs (nameS i) g) (setM m i (some g.data)) where
 at_ := fun j hj => by
  rw [getA_putA ordN hs]
  unfold setM
  by_cases e : j = i
  ·rw [if_pos e, if_pos (by rw [e])]; rfl
  ·rw [if_neg e, if_neg fun q => e (nameS_inj hj hi q.symm)]
   exact h.at_ j hj
 only := fun nm hn => by
  rw [getA_putA ordN hs] at hn
  by_cases e : nameS i = nm
  ·exact ⟨i, hi, e.symm⟩
  ·rw [if_neg e] at hn; exact h.only nm hn
theorem SegM.del {fs : Files} {m : Nat → Option Bs} (h : SegM fs m) {i : Nat} (hi : i < 100) : SegM (delA fs (nameS i)) (setM m i Option.none) where
 at_ := fun j hj => by
  rw [getA_delA]
  unfold setM
  by_cases e : j = i
  ·rw [if_pos e, if_pos (by rw [e])]; rfl
  ·rw [if_neg e, if_neg fun q => e (nameS_inj hj hi q.symm)]
   exact h.at_ j hj
 only := fun nm hn => by
  rw [getA_delA] at hn
  by_cases e : nameS i = nm
  ·exact ⟨i, hi, e.symm⟩
  ·rw [if_neg e] at hn; exact h.only nm hn
theorem SegM.ext {fs : Files} {m k : Nat → Option Bs} (h : SegM fs m) (e : ∀ i, i < 100 → m i = k i) : SegM fs k := ⟨fun i hi => by rw [← e i hi]; exact h.at_ i hi, h.only⟩
theorem names_len : ∀ (n : Nat) (l : List Bs), l.Nodup → (∀ x ∈ l, ∃ i, i < n ∧ x = nameS i) → l.length ≤ n := by
 intro n
 induction n with
 | zero =>
  intro l _ h
  cases l with
  | nil => simp
  | cons x l => obtain ⟨i, hi, -⟩ := h x (by simp); omega
 | succ n ih =>
  intro l hnd h
  by_cases hm : nameS n ∈ l
  ·have := ih (l.erase (nameS n)) (hnd.erase _) fun x hx => by
    obtain ⟨hx1, hx2⟩ := (List.Nodup.mem_erase_iff hnd).1 hx
    obtain ⟨i, hi, rfl⟩ := h x hx2
    exact ⟨i, by rcases Nat.lt_or_ge i n with q | q; · exact q
                 ·obtain rfl : i = n := by omega
                  exact absurd rfl hx1, rfl⟩
   rw [List.length_erase_of_mem hm] at this
   omega
  ·have := ih l hnd fun x hx => by
    obtain ⟨i, hi, rfl⟩ := h x hx
    exact ⟨i, by rcases Nat.lt_or_ge i n with q | q; · exact q
                 ·obtain rfl : i = n := by omega
                  exact absurd hx hm, rfl⟩
   omega
theorem SegM.len {fs : Files} {m : Nat → Option Bs} (h : SegM fs m) (hs : Srt ltN fs) (n : Nat) (hm : ∀ i, n ≤ i → i < 100 → m i = Option.none) : fs.length ≤ n := by
 have hnd : (fs.map (·.1)).Nodup := by
  rw [List.Nodup, List.pairwise_map]
  refine List.Pairwise.imp ?_ hs
  intro a b hab e
  rw [e] at hab
  have := ordN.irrefl b.1
  rw [show ltN b.1 b.1 = true from hab] at this
  cases this
 have := names_len n (fs.map (·.1)) hnd fun x hx => by
  obtain ⟨p, hp, rfl⟩ := List.mem_map.1 hx
  have hg := getA_of_mem ordN hs hp
  obtain ⟨i, hi, e⟩ := h.only p.1 (by rw [hg]; simp)
  refine ⟨i, ?_, e⟩
  rcases Nat.lt_or_ge i n with q | q
  ·exact q
  ·have := h.none hi (hm i q hi)
   rw [← e, hg] at this
   cases this
 rwa [List.length_map] at this
theorem segM_nil : SegM [] fun _ => Option.none := ⟨fun _ _ => rfl, fun nm h => absurd rfl h⟩
def rowM (ds : List Bs) : Nat → Option Bs := fun i => ds[i]?
theorem rowM_snoc (ds : List Bs) (d : Bs) : setM (rowM ds) ds.length (some d) = rowM (ds ++ [d]) := by
 funext i
 unfold setM rowM
 by_cases e : i = ds.length
 ·rw [if_pos e, e, List.getElem?_append_right (Nat.le_refl _)]; simp
 ·rw [if_neg e]
  rcases Nat.lt_or_ge i ds.length with q | q
  ·rw [List.getElem?_append_left q]
  ·rw [List.getElem?_eq_none q, List.getElem?_eq_none (by simp; omega)]
theorem rowM_last (ds : List Bs) (x d : Bs) : setM (rowM (ds ++ [x])) ds.length (some d) = rowM (ds ++ [d]) := by
 funext i
 unfold setM rowM
 by_cases e : i = ds.length
 ·rw [if_pos e, e, List.getElem?_append_right (Nat.le_refl _)]; simp
 ·rw [if_neg e]
  rcases Nat.lt_or_ge i ds.length with q | q
  ·rw [List.getElem?_append_left q, List.getElem?_append_left q]
  ·rw [List.getElem?_eq_none (by simp; omega), List.getElem?_eq_none (by simp; omega)]
theorem blks_crt {fs : Files} {nm : Bs} (hs : Srt ltN fs) : ∀ b, b ∈ allBlks fs → b ∈ allBlks (crtF fs nm) := by
 intro b hb
 unfold crtF
 by_cases hc : codeC false fs nm = 0
 ·rw [if_pos hc]
  have hg := (codeC_zero hc).2.1
  obtain ⟨p, hp, hpb⟩ := List.mem_flatMap.1 hb
  refine List.mem_flatMap.2 ⟨p, getA_mem (k := p.1) (x := p.2) ?_, hpb⟩
  rw [getA_putA ordN hs, if_neg, getA_of_mem ordN hs hp]
  intro e
  rw [e, getA_of_mem ordN hs hp] at hg
  cases hg
 ·rw [if_neg hc]; exact hb
theorem free_all {l : Nat → Cell} {room k s : Nat} {fs last : Files} (h : FsInv l room k s fs last) : room ≤ freeN room fs last + (allBlks fs).length + (allBlks last).length := by
 have h1 := h.count
 have h2 := List.length_filter_le (fun b => !decide (b ∈ allBlks last)) (allBlks fs)
 omega
structure SegV (w0 w : World) (v p room : Nat) (m ml : Nat → Option Bs) (c : Nat) (G : List Nat) : Prop where
 ex : ∃ fs last, Lv w0 w v p room fs last c G ∧ SegM fs m ∧ SegM last ml ∧ ∀ b ∈ allBlks last, b ∈ allBlks fs
section
variable {w0 w w' : World} {v p room c : Nat} {m ml : Nat → Option Bs} {G : List Nat}
theorem SegV.upd (h : SegV w0 w v p room m ml c G) : Upd [] w0 w := by
 obtain ⟨fs, last, h1, -⟩ := h.ex
 exact h1.upd
theorem SegV.keep (h : SegV w0 w v p room m ml c G) (u : Upd [] w w') : SegV w0 w' v p room m ml c G := by
 obtain ⟨fs, last, h1, h2⟩ := h.ex
 exact ⟨fs, last, h1.keep u, h2⟩
theorem SegV.more {c' : Nat} (h : SegV w0 w v p room m ml c G) (hc : c ≤ c') : SegV w0 w v p room m ml c' G := by
 obtain ⟨fs, last, h1, h2⟩ := h.ex
 exact ⟨fs, last, h1.more hc, h2⟩
theorem SegV.lt (h : SegV w0 w v p room m ml c G) : ∀ i ∈ G, i < w.heap.size := by
 obtain ⟨fs, last, h1, h2⟩ := h.ex
 exact h1.lt
theorem SegV.guardF (h : SegV w0 w v p room m ml c G) {F : List Nat} (u : Upd F w w') (hF : ∀ i ∈ F, i ∈ G ∧ w0.heap.size ≤ i) {G' : List Nat} (hg : ∀ b ∈ G', w.heap.size ≤ b ∧ b < w'.heap.size) : SegV w0 w' v p room m ml c (G' ++ G) := by
 obtain ⟨fs, last, h1, h2⟩ := h.ex
 exact ⟨fs, last, h1.guardF u hF hg, h2⟩
theorem SegV.guard (h : SegV w0 w v p room m ml c G) (u : Upd [] w w') {G' : List Nat} (hg : ∀ b ∈ G', w.heap.size ≤ b ∧ b < w'.heap.size) : SegV w0 w' v p room m ml c (G' ++ G) := h.guardF u (by simp) hg
theorem SegV.create (h : SegV w0 w v p room m ml c G) {i : Nat} (hm : ∀ j, i ≤ j → j < 100 → m j = none) (hi : i < 64) :
  Calls Tryz.prog 11 #[.pointer (some ⟨v, 0, none⟩), .string (nmS i)] w fun r w' => r = .returned (.int .i64 0) ∧ SegV w0 w' v p room (setM m i (some [])) ml c G ∧ Stay G w w' := by
 obtain ⟨fs, last, h1, h2, h3, h4⟩ := h.ex
 obtain ⟨l, k, s, hi'⟩ := h1.inv
 have hg := h2.none (i := i) (by omega) (hm i (Nat.le_refl _) (by omega))
 have hl := h2.len hi'.now.srt i hm
 have hc : codeC false fs (nmS i).data.toList = 0 := by
  have := nameS_len i
  unfold codeC
  rw [nmS_list, if_neg Bool.false_ne_true, if_neg (by omega), if_neg (by rw [hg]; simp), if_neg (by omega)]
 refine (h1.create (nmS i) (nmS_size i)).mono fun r w' ⟨e, hl', hst⟩ => ⟨by rw [e, hc]; rfl, ⟨_, last, hl', ?_, h3, fun b hb => blks_crt hi'.now.srt b (h4 b hb)⟩, hst⟩
 unfold crtF
 rw [if_pos hc]
 exact h2.put hi'.now.srt (by omega) emptyF
theorem SegV.append (h : SegV w0 w v p room m ml c G) (hc : c ≤ 1000000) {i n : Nat} (hi : i < 100) {x : Bs} (hx : m i = some x) {dv : Value} {d : Bs} (hd : Rd w dv d) (hdo : d ≠ [] → ∀ g, dv.ownBlock = some g → g ∈ G ∨ g < w0.heap.size) (hm : ∀ j y, j < 100 → m j = some y → j < n ∧ y.length ≤ 8192) (hb : 16 * n + d.length / 512 + 1 ≤ room) (hxd : x.length + d.length ≤ 32768) :
  Calls Tryz.prog 13 #[.pointer (some ⟨v, 0, none⟩), .string (nmS i), dv] w fun r w' => r = .returned (.int .i64 0) ∧ SegV w0 w' v p room (setM m i (some (x ++ d))) ml (c + 1) G ∧ Stay G w w' := by
 obtain ⟨fs, last, h1, h2, h3, h4⟩ := h.ex
 obtain ⟨l, k, s, hi'⟩ := h1.inv
 obtain ⟨f, hg, rfl⟩ := h2.get hi hx
 have hlen := h2.len hi'.now.srt n fun j hj hj2 => by
  cases hmj : m j with
  | none => rfl
  | some y => have := (hm j y hj2 hmj).1; omega
 have hk : ∀ q ∈ fs, q.2.data.length ≤ 512 * 16 := fun q hq => by
  have hgq := getA_of_mem ordN hi'.now.srt hq
  obtain ⟨j, hj, e⟩ := h2.only q.1 (by rw [hgq]; simp)
  have := h2.at_ j hj
  rw [← e, hgq] at this
  have := (hm j _ hj this.symm).2
  omega
 have hn := need_le f d.length
 obtain ⟨hcode, g, hgd, hap⟩ := h1.apd h4 hg (d := d) hxd (m := 16) hk (by omega)
 refine (h1.append hc (nmS i) (nmS_size i) hd hdo (by omega)).mono fun r w' ⟨e, hl', hst⟩ => ⟨by rw [e, nmS_list, hcode]; rfl, ⟨_, last, hl', ?_, h3, ?_⟩, hst⟩
 ·rw [nmS_list, hap, ← hgd]
  exact h2.put hi'.now.srt hi g
 ·intro b hb'
  unfold apdF
  rw [nmS_list, if_pos hcode]
  unfold appF
  rw [hg]
  exact blks_put hi'.now hg (growF_blks _ _ _ _ _) b (h4 b hb')
theorem SegV.sync (h : SegV w0 w v p room m ml c G) (hc : c ≤ 1000000) :
  Calls Tryz.prog 14 #[.pointer (some ⟨v, 0, none⟩)] w fun r w' => r = .returned (.int .i64 0) ∧ SegV w0 w' v p room m m (c + 1) G ∧ Stay G w w' := by
 obtain ⟨fs, last, h1, h2, h3, h4⟩ := h.ex
 exact (h1.sync hc).mono fun r w' ⟨e, hl', hst⟩ => ⟨e, ⟨_, _, hl', h2, h2, fun b hb => hb⟩, hst⟩
theorem SegV.size (h : SegV w0 w v p room m ml c G) {i : Nat} (hi : i < 100) :
  Calls Tryz.prog 54 #[.pointer (some ⟨v, 0, none⟩), .string (nmS i)] w fun r w' => r = .returned (match m i with | some d => .tuple #[.int .i64 d.length, .int .i64 0] | none => .tuple #[.int .i64 0, .int .i64 80]) ∧ SegV w0 w' v p room m ml c G ∧ Stay G w w' := by
 obtain ⟨fs, last, h1, h2, h3, h4⟩ := h.ex
 refine (h1.size (nmS i) (nmS_size i)).mono fun r w' ⟨e, hl', hst⟩ => ⟨?_, ⟨_, _, hl', h2, h3, h4⟩, hst⟩
 rw [e]
 unfold sizeF
 rw [nmS_list]
 cases hm : m i with
 | none => rw [h2.none hi hm]; rfl
 | some d => obtain ⟨f, hg, rfl⟩ := h2.get hi hm; rw [hg]; rfl
theorem SegV.read (h : SegV w0 w v p room m ml c G) (hc : c ≤ 1000000) {i : Nat} (hi : i < 100) {d : Bs} (hm : m i = some d) :
  Calls Tryz.prog 56 #[.pointer (some ⟨v, 0, none⟩), .string (nmS i), .int .i64 0, .int .i64 d.length] w fun r w' => ∃ rv, r = .returned (.tuple #[rv, .int .i64 0]) ∧ Ow w' w.heap.size rv d ∧ SegV w0 w' v p room m ml c (rv.ownBlock.toList ++ G) ∧ Stay G w w' := by
 obtain ⟨fs, last, h1, h2, h3, h4⟩ := h.ex
 obtain ⟨f, hg, rfl⟩ := h2.get hi hm
 exact (h1.readAll hc (nmS i) (nmS_size i) hg f.data.length (Nat.le_refl _)).mono fun r w' ⟨rv, e, ho, hl, hst⟩ => ⟨rv, e, ho, ⟨_, _, hl, h2, h3, h4⟩, hst⟩
end
end Go.Proofs.YtgpefiacbipfpaaGreatDoor

namespace Go.Proofs.YtgpefiacbipfpaaGreatDoor
open Go.RowKit
theorem digit_one : ∀ n : Fin 10, (⟨#[48, 49, 50, 51, 52, 53, 54, 55, 56, 57, 97, 98, 99, 100, 101, 102, 103, 104, 105, 106, 107, 108, 109, 110, 111, 112, 113, 114, 115, 116, 117, 118, 119, 120, 121, 122]⟩ : ByteArray).extract n.val (n.val + 1) = ⟨((nameS n.val).drop 4).toArray⟩ := by decide +kernel
theorem digit_two : ∀ n : Fin 100, 10 ≤ n.val → (⟨#[48, 48, 48, 49, 48, 50, 48, 51, 48, 52, 48, 53, 48, 54, 48, 55, 48, 56, 48, 57, 49, 48, 49, 49, 49, 50, 49, 51, 49, 52, 49, 53, 49, 54, 49, 55, 49, 56, 49, 57, 50, 48, 50, 49, 50, 50, 50, 51, 50, 52, 50, 53, 50, 54, 50, 55, 50, 56, 50, 57, 51, 48, 51, 49, 51, 50, 51, 51, 51, 52, 51, 53, 51, 54, 51, 55, 51, 56, 51, 57, 52, 48, 52, 49, 52, 50, 52, 51, 52, 52, 52, 53, 52, 54, 52, 55, 52, 56, 52, 57, 53, 48, 53, 49, 53, 50, 53, 51, 53, 52, 53, 53, 53, 54, 53, 55, 53, 56, 53, 57, 54, 48, 54, 49, 54, 50, 54, 51, 54, 52, 54, 53, 54, 54, 54, 55, 54, 56, 54, 57, 55, 48, 55, 49, 55, 50, 55, 51, 55, 52, 55, 53, 55, 54, 55, 55, 55, 56, 55, 57, 56, 48, 56, 49, 56, 50, 56, 51, 56, 52, 56, 53, 56, 54, 56, 55, 56, 56, 56, 57, 57, 48, 57, 49, 57, 50, 57, 51, 57, 52, 57, 53, 57, 54, 57, 55, 57, 56, 57, 57]⟩ : ByteArray).extract (2 * n.val) (2 * n.val + 2) = ⟨((nameS n.val).drop 4).toArray⟩ := by decide +kernel
theorem digit_all : ∀ n : Fin 100, (⟨#[115, 101, 103, 46]⟩ : ByteArray) ++ ⟨((nameS n.val).drop 4).toArray⟩ = nmS n.val := by decide +kernel
set_option maxRecDepth 100000 in
theorem small_ok (w : World) (n : Nat) (hn : n < 100) : Calls Tryz.prog 185 #[.int .i64 n] w fun e w' => e = .returned (.string ⟨((nameS n).drop 4).toArray⟩) ∧ w' = w := by
 go_enter Tryz.func185, Tryz.ntmps185
 by_cases h : n < 10
 ·have h' : (n : Int) < 10 := by omega
  have hr := run_slice_string (P := Tryz.prog) w 9 ⟨#[48, 49, 50, 51, 52, 53, 54, 55, 56, 57, 97, 98, 99, 100, 101, 102, 103, 104, 105, 106, 107, 108, 109, 110, 111, 112, 113, 114, 115, 116, 117, 118, 119, 120, 121, 122]⟩ .i64 .i64 (n : Int) ((n : Int) + 1) Tryz.underlying9 (by omega) (by omega) (by show (n : Int) + 1 ≤ ((36 : Nat) : Int); omega)
  have h1 : ((n : Int) + 1).toNat = n + 1 := by omega
  rw [Int.toNat_natCast, h1, digit_one ⟨n, h⟩] at hr
  go_wp2_with fail
  go_ret
  exact ⟨rfl, rfl⟩
 ·have h' : ¬ (n : Int) < 10 := by omega
  have hr := run_slice_string (P := Tryz.prog) w 9 ⟨#[48, 48, 48, 49, 48, 50, 48, 51, 48, 52, 48, 53, 48, 54, 48, 55, 48, 56, 48, 57, 49, 48, 49, 49, 49, 50, 49, 51, 49, 52, 49, 53, 49, 54, 49, 55, 49, 56, 49, 57, 50, 48, 50, 49, 50, 50, 50, 51, 50, 52, 50, 53, 50, 54, 50, 55, 50, 56, 50, 57, 51, 48, 51, 49, 51, 50, 51, 51, 51, 52, 51, 53, 51, 54, 51, 55, 51, 56, 51, 57, 52, 48, 52, 49, 52, 50, 52, 51, 52, 52, 52, 53, 52, 54, 52, 55, 52, 56, 52, 57, 53, 48, 53, 49, 53, 50, 53, 51, 53, 52, 53, 53, 53, 54, 53, 55, 53, 56, 53, 57, 54, 48, 54, 49, 54, 50, 54, 51, 54, 52, 54, 53, 54, 54, 54, 55, 54, 56, 54, 57, 55, 48, 55, 49, 55, 50, 55, 51, 55, 52, 55, 53, 55, 54, 55, 55, 55, 56, 55, 57, 56, 48, 56, 49, 56, 50, 56, 51, 56, 52, 56, 53, 56, 54, 56, 55, 56, 56, 56, 57, 57, 48, 57, 49, 57, 50, 57, 51, 57, 52, 57, 53, 57, 54, 57, 55, 57, 56, 57, 57]⟩ .i64 .i64 ((n : Int) * 2) ((n : Int) * 2 + 2) Tryz.underlying9 (by omega) (by omega) (by show (n : Int) * 2 + 2 ≤ ((200 : Nat) : Int); omega)
  have h1 : ((n : Int) * 2).toNat = 2 * n := by omega
  have h2 : ((n : Int) * 2 + 2).toNat = 2 * n + 2 := by omega
  rw [h1, h2, digit_two ⟨n, hn⟩ (by show 10 ≤ n; omega)] at hr
  go_wp2_with fail
  go_ret
  exact ⟨rfl, rfl⟩
set_option maxRecDepth 100000 in
theorem itoa_ok (w : World) (n : Nat) (hn : n < 100) : Calls Tryz.prog 114 #[.int .i64 n] w fun e w' => e = .returned (.string ⟨((nameS n).drop 4).toArray⟩) ∧ w' = w := by
 have hI : Calls Tryz.prog 152 #[.int .i64 n] w fun e w' => e = .returned (.string ⟨((nameS n).drop 4).toArray⟩) ∧ w' = w := by
  have hF : Calls Tryz.prog 169 #[.int .i64 n, .int .i64 10] w fun e w' => e = .returned (.string ⟨((nameS n).drop 4).toArray⟩) ∧ w' = w := by
   have hn' : (n : Int) < 100 := by omega
   have h0 : (0 : Int) ≤ (n : Int) := by omega
   go_enter Tryz.func169, Tryz.ntmps169
   go_wp2_with fail
   refine (small_ok w n hn).mono ?_
   rintro r w' ⟨rfl, rfl⟩
   go_wp2_with fail
   go_ret
   exact ⟨rfl, rfl⟩
  go_enter Tryz.func152, Tryz.ntmps152
  go_wp2_with fail
  refine hF.mono ?_
  rintro r w' ⟨rfl, rfl⟩
  go_wp2_with fail
  go_ret
  exact ⟨rfl, rfl⟩
 go_enter Tryz.func114, Tryz.ntmps114
 go_wp2_with fail
 refine hI.mono ?_
 rintro r w' ⟨rfl, rfl⟩
 go_wp2_with fail
 go_ret
 exact ⟨rfl, rfl⟩
set_option maxRecDepth 100000 in
theorem sname_ok (w : World) (n : Nat) (hn : n < 100) : Calls Tryz.prog 55 #[.int .i64 n] w fun e w' => e = .returned (.string (nmS n)) ∧ w' = w := by
 have HD := Lib.hid (digit_all ⟨n, hn⟩)
 have hl : ¬ 9223372036854775807 < 4 + ((nameS n).length - 4) := by have := nameS_len n; omega
 go_enter Tryz.func55, Tryz.ntmps55
 go_wp2_with fail
 refine (itoa_ok w n hn).mono ?_
 rintro r w' ⟨rfl, rfl⟩
 go_wp2_with fail
 go_ret
 exact ⟨congrArg (fun z => Ending.returned (.string z)) HD.out, rfl⟩
end Go.Proofs.YtgpefiacbipfpaaGreatDoor

namespace Go.Proofs.YtgpefiacbipfpaaGreatDoor
open Go.RowKit
structure FrR where
 k : UInt8
 dv : Value
 d : Bs
def FrR.fr (x : FrR) : Frm := (x.k, x.d)
def cFr (x : FrR) : List Value := [.int .u8 x.k.toNat, x.dv]
theorem TFr : RowT cFr 2 32 22 25 where
 len := fun _ => rfl
 pos := by omega
 und := Tryz.underlying22
 info := by
  obtain ⟨i, h, h1, h2, h3⟩ := info_parts (show (Tryz.prog.info? 25).map (fun i => (i.zero, i.size, i.bytes)) = some (some (.agg #[.int .u8 0, .slice none 0 0]), 2, 32) by kernel_rfl)
  exact ⟨i, _, h, h1, h2, h3, rfl⟩
theorem oneFr {w : World} {l : List FrR} (h : ∀ x ∈ l, Rd w x.dv x.d) : ∀ x ∈ l, ∀ u ∈ cFr x, u.oneCell' = true := by
 intro x hx u hu
 obtain ⟨a, c, e, -⟩ := (h x hx).slice
 simp only [cFr, e, List.mem_cons, List.not_mem_nil, or_false] at hu
 rcases hu with rfl | rfl <;> rfl
abbrev OwFr (w : World) (base : Nat) (v : Value) (l : List FrR) : Prop := OwnG cFr 25 2 w base v l
abbrev cI (n : Nat) : List Value := [.int .i64 n]
theorem TI : RowT cI 1 8 31 3 where
 len := fun _ => rfl
 pos := by omega
 und := Tryz.underlying31
 info := by
  obtain ⟨i, h, h1, h2, h3⟩ := info_parts (show (Tryz.prog.info? 3).map (fun i => (i.zero, i.size, i.bytes)) = some (some (.int .i64 0), 1, 8) by kernel_rfl)
  exact ⟨i, _, h, h1, h2, h3, rfl⟩
theorem oneI (l : List Nat) : ∀ x ∈ l, ∀ u ∈ cI x, u.oneCell' = true := by
 intro x _ u hu
 simp only [List.mem_cons, List.not_mem_nil, or_false] at hu
 subst hu; rfl
abbrev OwI (w : World) (base : Nat) (v : Value) (l : List Nat) : Prop := OwnG cI 3 1 w base v l
set_option maxRecDepth 100000 in
set_option maxHeartbeats 1000000 in
theorem cloneI_ok (w : World) {v : Value} {l : List Nat} (h : RdG cI 1 w v l) (hl : l.length ≤ 100000000) : Calls Tryz.prog 61 #[v] w fun e w' => ∃ v', e = .returned v' ∧ OwnG cI 3 1 w' w.heap.size v' l ∧ Upd [] w w' := by
 obtain ⟨a, c, rfl, h1, h2, h3⟩ := h.slice
 have HL := Lib.hid h
 clear h
 rcases a with _ | ad
 ·obtain ⟨h4, rfl⟩ := h3 rfl
  obtain rfl := List.eq_nil_of_length_eq_zero h4
  have hop : ∀ W, (binOp .eql 31 (.slice none 0 0) (.slice none 0 0)).run Tryz.prog W = .ok (.bool true) W := fun W => Lib.run_eql_slice_nil W _ _ _ _ _ _ _ TI.und
  go_enter Tryz.func61, Tryz.ntmps61
  go_wp2_with fail
  go_ret
  exact ⟨_, rfl, OwnG.nil _ _, Upd.refl _ _⟩
 ·have hop : ∀ W, (binOp .eql 31 (.slice (some ad) l.length c) (.slice none 0 0)).run Tryz.prog W = .ok (.bool false) W := fun W => Lib.run_eql_slice_nil W _ _ _ _ _ _ _ TI.und
  go_enter Tryz.func61, Tryz.ntmps61
  go_wp2_with (at_builtin; refine wpList_append_G TI rfl _ _ rfl (l := []) (base := w.heap.size) rfl (OwnG.empty TI (heap_top _ _) (Nat.le_refl _)) rfl (SlAt.srcG TI (fun _ _ _ h => h) (HL.out.keep TI ((Upd.refl [] w).alloc _)).sl) (oneI _) ?c1 ?c2 ?c3 ?_)
  case c1 => (first | omega | (simp; done) | (simp; omega))
  case c2 => (first | omega | (simp; done) | (simp; omega))
  case c3 => (first | omega | (simp; done) | (simp; omega))
  intro v2 w2 hown2 hg2 _
  have HU2 : Hid (Upd [] w w2) := Lib.hid (((Upd.refl [] w).alloc _).grown hg2 (fun g hg => by simp [Value.ownBlock] at hg; omega))
  clear hg2
  go_wp2_with fail
  go_ret
  exact ⟨_, rfl, by simpa using hown2, HU2.out⟩
theorem ret_own {fn : Func} {R : Ending → World → Prop} {a : Act} {W : World} {B : Nat} {k : Int} {v : Value} (hr : fn.results = #[.cell 2 25])
  (hs : a.tmps.getD 2 undef = .pointer (some ⟨B, 0, none⟩)) (z0 : W.cell? ⟨B, 0, none⟩ = some (.int .u8 k)) (z1 : W.cell? ⟨B, 1, none⟩ = some v) (hd : a.defers = []) (h : R (.returned (.agg #[.int .u8 k, v])) W) : bodyPost Tryz.prog fn R .ret a W := by
 refine bodyPost_ret (v := .agg #[.int .u8 k, v]) ?_ hd h
 have hs' := hs
 simp only [Array.getD_eq_getD_getElem?] at hs'
 simp [results, hr, hs', go_sem, z0, z1]
abbrev boxFv (k : UInt8) (v : Value) : Obj := .cells #[.int .u8 k.toNat, v] 25 (0, 0)
theorem held_far {X : World} {B : Nat} {v v' x y : Value} (b : Nat) (hb : b < B) (h : X.cell? ⟨b, 0, none⟩ = some x ∧ X.cell? ⟨b, 1, none⟩ = some y) : ((X.setCell ⟨B, 0, none⟩ v).setCell ⟨B, 1, none⟩ v').cell? ⟨b, 0, none⟩ = some x ∧ ((X.setCell ⟨B, 0, none⟩ v).setCell ⟨B, 1, none⟩ v').cell? ⟨b, 1, none⟩ = some y := by
 constructor
 ·rw [World.cell?_setCell_far _ _ _ _ (fun e => by dsimp only at e; omega), World.cell?_setCell_far _ _ _ _ (fun e => by dsimp only at e; omega)]; exact h.1
 ·rw [World.cell?_setCell_far _ _ _ _ (fun e => by dsimp only at e; omega), World.cell?_setCell_far _ _ _ _ (fun e => by dsimp only at e; omega)]; exact h.2
theorem heap_keepA' {w : World} {b : Nat} {o : Obj} (o' : Obj) (h : w.heap[b]? = some o) : (w.alloc o').heap[b]? = some o := (((Upd.refl [] w).alloc o').block b (lt_of_blk h) (by simp)).trans h
set_option maxRecDepth 100000 in
set_option maxHeartbeats 2000000 in
theorem own_ok (w : World) (k : UInt8) {u : Value} {d : Bs} (hd : Rd w u d) (hd2 : d.length ≤ 100000000) :
  Calls Tryz.prog 63 #[.agg #[.int .u8 k.toNat, u]] w fun e w' => ∃ v', e = .returned (.agg #[.int .u8 k.toNat, v']) ∧ Ow w' w.heap.size v' d ∧ Upd [] w w' := by
 obtain ⟨a, c, rfl, h1, h2, h3⟩ := hd.slice
 have HD := Lib.hid hd
 clear hd
 go_enter Tryz.func63, Tryz.ntmps63
 go_upto_region 1 with (fail)
 have hb0 := heap_keepA' (.cells #[.int .u8 0, .slice none 0 0] 25 (0, 0)) (heap_top w (boxFv k (.slice a d.length c)))
 have hb1 := heap_top (w.alloc (boxFv k (.slice a d.length c))) (.cells #[.int .u8 0, .slice none 0 0] 25 (0, 0))
 have hu : Upd [] w ((w.alloc (boxFv k (.slice a d.length c))).alloc (.cells #[.int .u8 0, .slice none 0 0] 25 (0, 0))) := ((Upd.refl [] w).alloc _).alloc _
 rw [World.size_alloc] at hb1
 generalize (w.alloc (boxFv k (.slice a d.length c))).alloc (.cells #[.int .u8 0, .slice none 0 0] 25 (0, 0)) = W at *
 have HU := Lib.hid hu
 have HB := Lib.hid hb1
 have p0 := cell_blk hb0 0
 have p1 := cell_blk hb0 1
 simp only [List.getElem?_toArray, List.getElem?_cons_zero, List.getElem?_cons_succ] at p0 p1
 have HC := Lib.hid fun (V : World) (u : Upd [] w V) => clone8_ok V (HD.out.keep u).g hd2
 clear hb0 hb1 hu
 go_region_held3 (fun w' => w'.cell? ⟨w.heap.size, 0, none⟩ = some (.int .u8 k.toNat) ∧ w'.cell? ⟨w.heap.size, 1, none⟩ = some (.slice a d.length c))
  (first
   | (with_reducible exact held2 (Upd.refl [] W).drew ⟨p0, p1⟩)
   | (with_reducible exact held2 hv6 ⟨p0, p1⟩)
   | (with_reducible exact held_far _ (Nat.lt_succ_self _) (held2 hv6 ⟨p0, p1⟩)))
  (first
   | (go_at_call 92; (with_reducible refine (HC.out _ ?_).mono ?_); (exact HU.out.drew); rintro e w6 ⟨v6, rfl, ho6, hu6⟩; obtain ⟨a6, c6, rfl⟩ := ho6.slice; have hv6 : Upd [] W w6 := (Upd.refl [] W).drew.trans hu6; have hB6 := (hv6.block _ (by exact lt_of_blk HB.out) (by simp)).trans HB.out; have z0 := cell_blk hB6 0; have z1 := cell_blk hB6 1; have f0 := frozen_blk hB6 0; have f1 := frozen_blk hB6 1))
 go_wp2_with fail
 have hb3 := box_set2 hB6 (.int .u8 k.toNat) (.slice a6 d.length c6)
 refine ret_own (v := .slice a6 d.length c6) rfl rfl (cell_blk hb3 0) (cell_blk hb3 1) rfl ⟨_, rfl, ?_, ?_⟩
 ·refine OwnG.base (a := W.heap.size) (ho6.upd (((Upd.refl [w.heap.size + 1] w6).setCell (by simp) _ _).setCell (by simp) _ _) fun j hj q => ?_) HU.out.size
  have h1 := (ho6.block j q).1
  have h2 := lt_of_blk HB.out
  rw [heap_drew] at h1
  rw [List.mem_singleton] at hj
  omega
 ·exact ((HU.out.trans hv6).setCellNew (Nat.le_succ _) _ _).setCellNew (Nat.le_succ _) _ _
set_option maxRecDepth 100000 in
set_option maxHeartbeats 2000000 in
theorem frame_five (w : World) {v : Value} {l : Bs} (h : Rd w v l) (h5 : l.length = 5) : Calls Tryz.prog 115 #[v] w fun e w' => FrameV w.heap.size w' e (0, [], 0, 10) ∧ Upd [] w w' := by
 obtain ⟨a, c, rfl, h1, h2, h3⟩ := h.slice
 rw [h5] at h1 h3 h ⊢
 obtain ⟨ad, rfl⟩ : ∃ ad, a = some ad := by
  cases a with
  | none => exact absurd (h3 rfl).1 (by omega)
  | some ad => exact ⟨ad, rfl⟩
 obtain ⟨-, -, -, hcell⟩ := h.cell
 obtain ⟨b, off, e, hc⟩ := hcell (by omega)
 cases e
 by_cases hc5 : c = 5
 ·subst hc5
  have HU : Hid (∀ V, Upd [] w V → Calls Tryz.prog 130 #[.slice (some ⟨b, off, none⟩) 0 0] V fun e w' => e = .returned (.tuple #[.int .u64 (getUint []).1, .int .i64 (getUint []).2.1, .int .i64 (getUint []).2.2]) ∧ w' = V) := Lib.hid fun V u => uint_ok V (Rd.empty (by unfold maxLen; omega) (fun q => by cases q))
  clear hcell hc h
  go_enter Tryz.func115, Tryz.ntmps115
  go_wp2_with fail
  refine (HU.out _ ((Upd.refl [] w).alloc _)).mono ?_
  rintro r w1 ⟨rfl, rfl⟩
  have h1' : ¬ ((getUint []).2.2 : Int) = 0 := by decide
  go_wp2_with fail
  exact ret_frame Tryz.results115 rfl (cell_blk (heap_top _ _) 0) (cell_blk (heap_top _ _) 1) rfl ⟨⟨_, rfl, Rd.nil _, nil_new _⟩, (Upd.refl [] w).alloc _⟩
 ·have HU : Hid (∀ V, Upd [] w V → Calls Tryz.prog 130 #[.slice (some ⟨b, off + 5, none⟩) 0 (c - 5)] V fun e w' => e = .returned (.tuple #[.int .u64 (getUint []).1, .int .i64 (getUint []).2.1, .int .i64 (getUint []).2.2]) ∧ w' = V) := Lib.hid fun V u => uint_ok V (Rd.empty (by unfold maxLen; omega) (fun q => by cases q))
  clear hcell hc h
  go_enter Tryz.func115, Tryz.ntmps115
  go_wp2_with fail
  refine (HU.out _ ((Upd.refl [] w).alloc _)).mono ?_
  rintro r w1 ⟨rfl, rfl⟩
  have h1' : ¬ ((getUint []).2.2 : Int) = 0 := by decide
  go_wp2_with fail
  exact ret_frame Tryz.results115 rfl (cell_blk (heap_top _ _) 0) (cell_blk (heap_top _ _) 1) rfl ⟨⟨_, rfl, Rd.nil _, nil_new _⟩, (Upd.refl [] w).alloc _⟩
theorem getFrame_five {l : Bs} (h : l.length = 5) : getFrame l = (0, [], 0, 10) := by
 have hd : l.drop 5 = [] := List.drop_eq_nil_of_le (by omega)
 unfold getFrame
 rw [if_neg (by omega), hd]
 rfl
theorem frame_all (w : World) {v : Value} {l : Bs} (h : Rd w v l) : Calls Tryz.prog 115 #[v] w fun e w' => FrameV w.heap.size w' e (getFrame l) ∧ Upd [] w w' := by
 by_cases h5 : l.length = 5
 ·rw [getFrame_five h5]; exact frame_five w h h5
 ·exact frame_ok w h h5
set_option maxRecDepth 100000 in
set_option maxHeartbeats 2000000 in
theorem putFrame_long (w : World) (v : Value) {u : Value} {d : Bs} (k : UInt8) (hd : Rd w u d) (hd2 : 2000 < d.length) :
  Calls Tryz.prog 62 #[v, .agg #[.int .u8 k.toNat, u]] w fun e w' => e = .returned (.tuple #[.slice none 0 0, .int .i64 12]) ∧ Upd [] w w' := by
 obtain ⟨a, c, rfl, h1, h2, h3⟩ := hd.slice
 clear hd
 have hn : (2000 : Int) < (d.length : Int) := by omega
 go_enter Tryz.func62, Tryz.ntmps62
 go_wp2_with fail
 go_ret2
 exact ⟨rfl, (Upd.refl [] w).alloc _⟩
end Go.Proofs.YtgpefiacbipfpaaGreatDoor

namespace Go.Proofs.YtgpefiacbipfpaaGreatDoor
open Go.RowKit
theorem Rd.upd1 {w w' : World} {v : Value} {l : Bs} (h : Rd w v l) {F : List Nat} (u : Upd F w w') (hF : l ≠ [] → ∀ g, v.ownBlock = some g → g ∉ F) : Rd w' v l := by
 by_cases hl : l = []
 ·subst hl
  obtain ⟨⟨a, c, hv, h1, h2, h3⟩, h4⟩ := h
  exact ⟨⟨a, c, hv, h1, h2, fun i hi => absurd hi (by simp)⟩, h4⟩
 ·exact h.upd u (hF hl)
theorem Rd.blk_lt {w : World} {v : Value} {l : Bs} (h : Rd w v l) (hl : l ≠ []) {g : Nat} (hg : v.ownBlock = some g) : g < w.heap.size := by
 obtain ⟨a, c, rfl, h1, h2, h3⟩ := h.slice
 have hp := List.length_pos_iff.2 hl
 obtain ⟨-, -, -, hcell⟩ := h.cell
 obtain ⟨b, off, rfl, hc⟩ := hcell hp
 cases hg
 exact World.block_lt_of_cell? _ _ (hc 0 hp)
theorem Upd.ofGrown {w w' : World} {row : Option Nat} (h : w.grownBy w' row) : Upd row.toList w w' :=
 ⟨h.os, h.output, h.size, fun k hk hn => h.block k hk fun e => hn (by rw [← e]; simp)⟩
structure FrsS (w : World) (base : Nat) (fv : Value) (L : List FrR) : Prop where
 own : OwFr w base fv L
 dat : ∀ x ∈ L, Rd w x.dv x.d
 sep : ∀ x ∈ L, x.d ≠ [] → ∀ g, x.dv.ownBlock = some g → base ≤ g ∧ fv.ownBlock ≠ some g
def dfoot (x : FrR) : List Nat := if x.d = [] then [] else x.dv.ownBlock.toList
def ffoot (fv : Value) (L : List FrR) : List Nat := fv.ownBlock.toList ++ L.flatMap dfoot
theorem mem_dfoot {x : FrR} {g : Nat} : g ∈ dfoot x ↔ x.d ≠ [] ∧ x.dv.ownBlock = some g := by
 unfold dfoot
 split
 ·rename_i h; simp [h]
 ·rename_i h; simp [h]
theorem mem_ffoot {fv : Value} {L : List FrR} {g : Nat} : g ∈ ffoot fv L ↔ fv.ownBlock = some g ∨ ∃ x ∈ L, x.d ≠ [] ∧ x.dv.ownBlock = some g := by
 unfold ffoot
 simp only [List.mem_append, List.mem_flatMap, mem_dfoot]
 simp
section
variable {w w' : World} {base : Nat} {fv fv' : Value} {L R : List FrR}
theorem FrsS.nil (w : World) (base : Nat) : FrsS w base (.slice none 0 0) [] := ⟨OwnG.nil _ _, by simp, by simp⟩
theorem FrsS.low {b : Nat} (h : FrsS w base fv L) (hb : b ≤ base) : FrsS w b fv L := ⟨h.own.base hb, h.dat, fun x hx hd g hg => ⟨Nat.le_trans hb (h.sep x hx hd g hg).1, (h.sep x hx hd g hg).2⟩⟩
theorem FrsS.upd (h : FrsS w base fv L) {F : List Nat} (u : Upd F w w') (hF : ∀ i ∈ ffoot fv L, i ∉ F) : FrsS w' base fv L :=
 ⟨h.own.upd u fun j hj e => hF j (mem_ffoot.2 (.inl e)) hj, fun x hx => (h.dat x hx).upd1 u fun hd g hg => hF g (mem_ffoot.2 (.inr ⟨x, hx, hd, hg⟩)), h.sep⟩
theorem FrsS.keep (h : FrsS w base fv L) (u : Upd [] w w') : FrsS w' base fv L := h.upd u (by simp)
theorem FrsS.lt (h : FrsS w base fv L) : ∀ i ∈ ffoot fv L, base ≤ i ∧ i < w.heap.size := fun i hi => by
 rcases mem_ffoot.1 hi with e | ⟨x, hx, hd, hg⟩
 ·exact h.own.block i e
 ·exact ⟨(h.sep x hx hd i hg).1, (h.dat x hx).blk_lt hd hg⟩
theorem FrsS.app (h : FrsS w base fv L) (hg : w.grownBy w' fv.ownBlock) (ho : OwFr w' base fv' (L ++ R)) (hn : fv'.ownBlock = fv.ownBlock ∨ ∀ g, fv'.ownBlock = some g → w.heap.size ≤ g) (hR : ∀ x ∈ R, Rd w x.dv x.d) (hs : ∀ x ∈ R, x.d ≠ [] → ∀ g, x.dv.ownBlock = some g → base ≤ g ∧ fv.ownBlock ≠ some g) : FrsS w' base fv' (L ++ R) := by
 have hu := Upd.ofGrown hg
 have hd : ∀ x ∈ L ++ R, Rd w x.dv x.d ∧ (x.d ≠ [] → ∀ g, x.dv.ownBlock = some g → base ≤ g ∧ fv.ownBlock ≠ some g) := fun x hx => by
  rcases List.mem_append.1 hx with q | q
  ·exact ⟨h.dat x q, h.sep x q⟩
  ·exact ⟨hR x q, hs x q⟩
 refine ⟨ho, fun x hx => (hd x hx).1.upd1 hu fun hx2 g hg q => ?_, fun x hx hx2 g hg => ⟨((hd x hx).2 hx2 g hg).1, fun q => ?_⟩⟩
 ·exact ((hd x hx).2 hx2 g hg).2 (by simpa using q)
 ·rcases hn with e | e
  ·exact ((hd x hx).2 hx2 g hg).2 (by rw [← e]; exact q)
  ·have := e g q
   have := (hd x hx).1.blk_lt hx2 hg
   omega
end
set_option maxRecDepth 100000 in
set_option maxHeartbeats 2000000 in
theorem scan_ok (w : World) {v : Value} {b : Bs} (h : Rd w v b) (hb : b.length ≤ 100000) :
  Calls Tryz.prog 57 #[v] w fun e w' => ∃ fv L, e = .returned (.tuple #[fv, .int .i64 (scanB b).2]) ∧ FrsS w' w.heap.size fv L ∧ L.map FrR.fr = (scanB b).1 ∧ Upd [] w w' := by
 obtain ⟨a, c, rfl, h1, h2, h3⟩ := h.slice
 obtain ⟨n, hn⟩ : ∃ n, n = b.length := ⟨_, rfl⟩
 have HR := Lib.hid h
 have HN := Lib.hid hn
 rw [← hn] at h1 h3 hb HR ⊢
 clear hn h
 go_enter Tryz.func57, Tryz.ntmps57
 go_wp2_with fail
 go_loopg [2, 3, 4, 5, 6, 7, 8] (n + 1) (fun gh v2 v3 v4 v5 v6 v7 v8 wr => ∃ (at_ : Nat) (fv : Value) (L : List FrR), v4 = fv ∧ v5 = .int .i64 at_ ∧ at_ ≤ n ∧ gh = n + 1 - at_ ∧ Hid (FrsS wr w.heap.size fv L ∧ scanB b = (L.map FrR.fr ++ (scanB (b.drop at_)).1, at_ + (scanB (b.drop at_)).2) ∧ Upd [] w wr))
 case atStart => exact ⟨0, _, [], rfl, rfl, by omega, rfl, Lib.hid ⟨FrsS.nil _ _, by simp, Upd.refl _ _⟩⟩
 case round =>
  obtain ⟨at_, fv, L, rfl, rfl, hat, rfl, HS⟩ := hrel
  obtain ⟨fa, fc, fm, hfm, rfl⟩ := HS.out.1.own.sliceM
  have HFM := Lib.hid hfm
  clear hfm
  have hr := HR.out.keep HS.out.2.2
  go_wp2_with (first
   | (refine wpList_tail8 rfl _ _ rfl hr (i := at_) (by rw [← HN.out]; exact hat) rfl rfl ?_; intro a8 c8 m8 hm8 hr8 hb8; have HR8 := Lib.hid hr8; clear hm8 hr8 hb8)
   | fail)
  refine (frame_all wr HR8.out).mono ?_
  rintro r w1 ⟨⟨dv, rfl, hdv, hdo⟩, hu1⟩
  clear hr
  obtain ⟨K, hK⟩ : ∃ K, K = (getFrame (b.drop at_)).2.2.1 := ⟨_, rfl⟩
  obtain ⟨E, hE⟩ : ∃ E, E = (getFrame (b.drop at_)).2.2.2 := ⟨_, rfl⟩
  obtain ⟨a1, c1, hdvs, -⟩ := hdv.slice
  have hpos := getFrame_pos (b := b.drop at_)
  have hfl := getFrame_le (b.drop at_)
  rw [List.length_drop, ← HN.out] at hpos
  rw [← hK, ← hE] at hpos ⊢
  have HG := Lib.hid (And.intro hK hE)
  generalize hkk : (getFrame (b.drop at_)).1 = kk at *
  generalize hdd : (getFrame (b.drop at_)).2.1 = dd at *
  have HKD := Lib.hid (And.intro hkk hdd)
  have HDV := Lib.hid (And.intro hdv (And.intro hdo hu1))
  obtain ⟨dl, hdl⟩ : ∃ dl, dl = dd.length := ⟨_, rfl⟩
  rw [← hdl] at hdvs hfl
  clear hK hE hkk hdd hdv hdo hu1 HR8 hdl
  subst hdvs
  by_cases hE0 : E = 0
  ·subst hE0
   have hpos := hpos rfl
   have hC : FrsS ((w1.alloc (boxFv kk (.slice a1 dl c1))).alloc (boxFv kk (.slice a1 dl c1))) w.heap.size (.slice fa fm fc) L := ((HS.out.1.keep HDV.out.2.2).keep ((Upd.refl [] w1).alloc _)).keep ((Upd.refl [] _).alloc _)
   have HC := Lib.hid hC
   have hLl : L.length ≤ 100000 := by
    have h1 := scanB_few b
    have h2 := scanB_le b
    rw [HS.out.2.1] at h1
    rw [← HN.out] at h2
    rw [List.length_append, List.length_map] at h1
    rw [HS.out.2.1] at h2
    omega
   have HLl := Lib.hid hLl
   have hbox := heap_top w1 (boxFv kk (.slice a1 dl c1))
   have b0 := cell_blk hbox 0
   have b1 := cell_blk hbox 1
   clear hC hLl hbox
   go_wp2_with (first
    | (at_builtin; go_loud (refine wpList_append_G TFr rfl _ _ rfl (base := w.heap.size) (l := L) (r := [⟨kk, .slice a1 dl c1, dd⟩]) (by rfl) HC.out.own (by rfl) (src_new TFr (ty := 25) (B := w1.heap.size + 1) (heap_top' _ _ _ (by simp))) (oneFr (w := w1) (by simp only [List.mem_singleton, forall_eq]; exact HDV.out.1)) ?c1 ?c2 ?c3 ?_))
    | fail)
   case c1 => have := HLl.out; simp; omega
   case c2 => have := HLl.out; simp; omega
   case c3 => have := HS.out.2.2.size; have := HDV.out.2.2.size; simp; omega
   intro v4 w4 ho4 hg4 hn4
   have hA := HC.out.app hg4 ho4 (hn4.imp id fun q g hg => by simpa using q g hg) (by simp only [List.mem_singleton, forall_eq]; exact (HDV.out.1.keep ((Upd.refl [] w1).alloc _)).keep ((Upd.refl [] _).alloc _)) (by
    simp only [List.mem_singleton, forall_eq]
    intro hd g hg
    have h1 := HDV.out.2.1 g hg
    have h2 := HS.out.2.2.size
    refine ⟨by omega, fun q => ?_⟩
    have := (HS.out.1.own.block g q).2
    omega)
   have hU4 : Upd [] w w4 := (((HS.out.2.2.trans HDV.out.2.2).alloc _).alloc _).grown hg4 (fun g hg => (HC.out.own.block g hg).1)
   have H4 := Lib.hid (And.intro hA hU4)
   clear hA hU4 ho4 hg4 hn4 b0 b1
   go_wp2_with fail
   go_roundg (n + 1 - (at_ + K))
   case measure => omega
   case rel =>
    refine ⟨at_ + K, _, _, rfl, by go_num, by omega, rfl, Lib.hid ⟨H4.out.1, ?_, H4.out.2⟩⟩
    have h1 := HS.out.2.1
    rw [scanB_step (HG.out.2.symm), ← HG.out.1, HKD.out.1, HKD.out.2, List.drop_drop] at h1
    rw [h1, List.map_append]
    simp only [List.append_assoc, List.map_cons, List.map_nil, List.cons_append, List.nil_append]
    exact Prod.ext rfl (Nat.add_assoc ..).symm
  ·have hE' : ¬ (E : Int) = 0 := by omega
   have HFin : Hid (scanB b = (L.map FrR.fr, at_)) := Lib.hid (by
    have := HS.out.2.1
    rw [scanB_stop (b := b.drop at_) (by rw [← HG.out.2]; exact hE0)] at this
    simpa using this)
   go_wp2_with fail
   go_ret2
   refine ⟨_, L, ?_, (HS.out.1.keep HDV.out.2.2).keep ((Upd.refl [] w1).alloc _), by rw [HFin.out], (HS.out.2.2.trans HDV.out.2.2).alloc _⟩
   rw [HFin.out]
   rfl
end Go.Proofs.YtgpefiacbipfpaaGreatDoor
