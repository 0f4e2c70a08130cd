/- The sheet: Set. -/
import Derived.Test.YtdokpfgdddfdfaaDoorSh5
namespace Go.Proofs.YtdokpfgdddfdfaaDoor
open Go.RowKit

theorem insert_ok (w : World) {base B : Nat} {v : Value} {l1 l2 : List Fd} {x : Fd} (h : Own w base v (l1 ++ l2)) (hB : w.heap[B]? = some (boxF x)) (hne : v.ownBlock ≠ some B) (hbase : base ≤ w.heap.size) (hl : ((l1 ++ l2).length + 1) * 48 ≤ 140737488355328) :
    Calls Tryd.prog 47 #[v, .int .i64 l1.length, .slice (some ⟨B, 0, none⟩) 1 1] w fun e w' => ∃ v', e = .returned v' ∧ Own w' base v' (l1 ++ x :: l2) ∧ Upd v.ownBlock.toList w w' := by
  by_cases h2 : 0 < l2.length
  · obtain ⟨g, cap, X, rfl, hbg, hX, r1, r2, r3, r4⟩ := h.blk (by simp; omega)
    by_cases hroom : (l1 ++ l2).length + 1 ≤ cap
    · refine (insert_room w h hB (fun q => hne (by rw [q]; rfl)) h2 hroom).mono ?_
      rintro e w' ⟨rfl, ho, hu⟩
      exact ⟨_, rfl, ho, hu⟩
    · refine (insert_grow w h hB hbase h2 (by omega) hl).mono ?_
      rintro e w' ⟨v', rfl, ho, hu⟩
      exact ⟨v', rfl, ho, hu.mono (fun k hk => by simp at hk)⟩
  · obtain rfl : l2 = [] := List.eq_nil_of_length_eq_zero (by omega)
    simp only [List.append_nil] at h hl
    refine (insert_end w h hB hbase hl).mono ?_
    rintro e w' ⟨v', rfl, ho, hg⟩
    exact ⟨v', rfl, ho, hg.os, hg.output, hg.size, fun k hk hn => hg.block k hk (fun q => hn (by rw [← q]; simp))⟩

theorem idxF_cases {α : Type} (p : α → Bool) (l : List α) : (idxF p l = -1 ∧ ∀ x ∈ l, p x = false) ∨ ∃ (i : Nat) (hi : i < l.length), idxF p l = i ∧ p l[i] = true ∧ ∀ j (hj : j < i), p l[j] = false := by
  by_cases h : ∃ x ∈ l, p x = true
  · right
    have hs : (l.findIdx? p).isSome := by
      rw [List.findIdx?_isSome]
      obtain ⟨x, hx, hk⟩ := h
      exact List.any_eq_true.2 ⟨x, hx, hk⟩
    obtain ⟨i, hi⟩ := Option.isSome_iff_exists.1 hs
    obtain ⟨hl, hk, hj⟩ := List.findIdx?_eq_some_iff_getElem.1 hi
    exact ⟨i, hl, idxF_some hl hk (fun j q => by simpa using hj j q), hk, fun j q => by simpa using hj j q⟩
  · left
    have hn : ∀ x ∈ l, p x = false := fun x hx => by
      cases e : p x with
      | false => rfl
      | true => exact absurd ⟨x, hx, e⟩ h
    exact ⟨idxF_none fun i hi => hn _ (List.getElem_mem hi), hn⟩

theorem insF_split (l : List Fd) (x : Fd) : ∃ l1 l2, l = l1 ++ l2 ∧ insF l x = l1 ++ x :: l2 ∧ ((idxF (fun y => !leB y.nm x.nm) l = -1 ∧ l2 = []) ∨ idxF (fun y => !leB y.nm x.nm) l = l1.length) := by
  rcases idxF_cases (fun y : Fd => !leB y.nm x.nm) l with ⟨h1, h2⟩ | ⟨i, hi, h1, h2, h3⟩
  · have hs := split_while (fun y : Fd => leB y.nm x.nm) l (j := l.length) (Nat.le_refl _) (fun i hi => by simpa using h2 l[i] (List.getElem_mem hi)) (fun h => absurd h (by omega))
    exact ⟨l, [], by simp, by unfold insF; rw [hs.1, hs.2]; simp, Or.inl ⟨h1, rfl⟩⟩
  · have hs := split_while (fun y : Fd => leB y.nm x.nm) l (j := i) (by omega) (fun j hj => by simpa using h3 j hj) (fun h => by simpa using h2)
    exact ⟨l.take i, l.drop i, by simp, by unfold insF; rw [hs.1, hs.2], Or.inr (by rw [h1]; simp; omega)⟩

theorem Own.notBlock {w : World} {base : Nat} {v : Value} {l : List Fd} (h : Own w base v l) {B : Nat} (hB : w.heap.size ≤ B) : v.ownBlock ≠ some B := fun q => by
  have := (h.lt B q).2
  omega

set_option maxRecDepth 100000 in
set_option maxHeartbeats 1600000 in
theorem set_hit (v : Value) (l : List Fd) (x : Fd) (w : World) (h : RecAt w v l) (hl : l.length * 48 ≤ 140737488355328) {i : Nat} (hi : i < l.length) (hp : posF l x.nm = i) :
    Calls Tryd.prog 32 #[v, aggF x] w (OwnPost (l.set i x) w) := by
  have HR := Lib.hid (fun (W : World) (u : Upd [] w W) => h.keep u)
  have HP := Lib.hid hp
  have HC := Lib.hid (clone_ok v l _ (h.keep ((Upd.refl _ _).alloc (boxF x))) hl)
  obtain ⟨a, cap, rfl, -, -⟩ := h.isSlice
  clear hp h
  go_enter Tryd.func32, Tryd.ntmps32
  go_wp2_with fail
  refine HC.out.mono ?_
  rintro e w1 ⟨v1, rfl, hown, hu⟩
  have hbx : w1.heap[w.heap.size]? = some (boxF x) := by rw [hu.block _ (by simp) (by simp), heap_alloc, if_pos rfl]
  have x0 : w1.cell? ⟨w.heap.size, 0, none⟩ = some (.string x.nm) := cell_blk hbx 0
  have HO := Lib.hid hown
  have HB := Lib.hid hbx
  have HU : Hid (Upd [] w w1) := Lib.hid (((Upd.refl [] w).alloc _).trans hu)
  clear hown hu HC hbx
  go_wp2_with fail
  have hA := at_ok _ l x.nm _ (HR.out _ HU.out)
  rw [HP.out] at hA
  refine hA.mono ?_
  rintro e w2 ⟨rfl, hu2⟩
  have hbx : w2.heap[w.heap.size]? = some (boxF x) := by rw [hu2.block _ (lt_of_blk HB.out) (by simp)]; exact HB.out
  have hown2 : Own w2 (w.heap.size + 1) v1 l := by have := Own.keep HO.out hu2; simpa using this
  have HU2 : Hid (Upd [] w w2) := Lib.hid (HU.out.trans hu2)
  have x1 : w2.cell? ⟨w.heap.size, 1, none⟩ = some (.bool x.tx) := cell_blk hbx 1
  have x2 : w2.cell? ⟨w.heap.size, 2, none⟩ = some (.int .i64 x.n) := cell_blk hbx 2
  have x3 : w2.cell? ⟨w.heap.size, 3, none⟩ = some (.string x.s) := cell_blk hbx 3
  clear x0
  have x0 : w2.cell? ⟨w.heap.size, 0, none⟩ = some (.string x.nm) := cell_blk hbx 0
  have HO2 := Lib.hid hown2
  clear hA hu2 HO HU HB hbx
  rcases hown2.2 with ⟨_, hn⟩ | ⟨g, cap', cur, rfl, hg, hh, r1, r2, r3, r4⟩
  · omega
  have hfz := frozen_blk hh
  have hc := fun o (ho : o < cur.size) => show w2.cell? ⟨g, o, none⟩ = some (cur[o]'ho) by rw [cell_blk hh]; exact Array.getElem?_eq_getElem ho
  have y0 := hc (i * 4) (by omega)
  have y1 := hc (i * 4 + 1) (by omega)
  have y2 := hc (i * 4 + 2) (by omega)
  have y3 := hc (i * 4 + 3) (by omega)
  clear hown2 hc hh r4
  have hii : (i : Int) < (l.length : Int) := by omega
  go_wp2_with fail
  obtain ⟨hS, -⟩ := Own.set HO2.out hi x (alike_refl _)
  have hu := (((HU2.out.setCellNew (b := g) (by omega) (i * 4) (.string x.nm)).setCellNew (b := g) (by omega) (i * 4 + 1) (.bool x.tx)).setCellNew (b := g) (by omega) (i * 4 + 2) (.int .i64 x.n)).setCellNew (b := g) (by omega) (i * 4 + 3) (.string x.s)
  have HF : Hid (OwnPost (l.set i x) w (.returned (.slice (some ⟨g, 0, none⟩) l.length cap')) _) := Lib.hid ⟨_, rfl, own_mono hS (by omega), hu⟩
  clear hS hu
  go_ret
  exact HF.out

set_option maxRecDepth 100000 in
set_option maxHeartbeats 1600000 in
theorem set_miss (v : Value) (l : List Fd) (x : Fd) (w : World) (h : RecAt w v l) (hl : (l.length + 1) * 48 ≤ 140737488355328) (hp : posF l x.nm = -1) :
    Calls Tryd.prog 32 #[v, aggF x] w (OwnPost (insF l x) w) := by
  have HR := Lib.hid (fun (W : World) (u : Upd [] w W) => h.keep u)
  have HP := Lib.hid hp
  have HC := Lib.hid (clone_ok v l _ (h.keep ((Upd.refl _ _).alloc (boxF x))) (by omega))
  obtain ⟨a, cap, rfl, -, -⟩ := h.isSlice
  obtain ⟨l1, l2, hsp, hins, hidx⟩ := insF_split l x
  have HI := Lib.hid (And.intro hsp hins)
  have hlb : l.length ≤ 9223372036854775807 := by omega
  have hle : l1.length ≤ l.length := by rw [hsp]; simp
  clear hp h hsp hins
  go_enter Tryd.func32, Tryd.ntmps32
  go_wp2_with fail
  refine HC.out.mono ?_
  rintro e w1 ⟨v1, rfl, hown, hu⟩
  have hbx : w1.heap[w.heap.size]? = some (boxF x) := by rw [hu.block _ (by simp) (by simp), heap_alloc, if_pos rfl]
  have x0 : w1.cell? ⟨w.heap.size, 0, none⟩ = some (.string x.nm) := cell_blk hbx 0
  have HO := Lib.hid hown
  have HB := Lib.hid hbx
  have HU : Hid (Upd [] w w1) := Lib.hid (((Upd.refl [] w).alloc _).trans hu)
  clear hown hu HC hbx
  go_wp2_with fail
  have hA := at_ok _ l x.nm _ (HR.out _ HU.out)
  rw [HP.out] at hA
  refine hA.mono ?_
  rintro e w2 ⟨rfl, hu2⟩
  have hbx : w2.heap[w.heap.size]? = some (boxF x) := by rw [hu2.block _ (lt_of_blk HB.out) (by simp)]; exact HB.out
  have HO2 : Hid (Own w2 (w.heap.size + 1) v1 l) := Lib.hid (by have := Own.keep HO.out hu2; simpa using this)
  have HU2 : Hid (Upd [] w w2) := Lib.hid (HU.out.trans hu2)
  have HB2 := Lib.hid hbx
  clear hA hu2 HO HU HB hbx x0
  go_wp2_with fail
  have hJ := idxField_ok 46 #[.pointer (some ⟨w.heap.size, 0, none⟩)] (fun y => !leB y.nm x.nm) enters46 _ l w2 (HR.out _ HU2.out) (set1_ok x w.heap.size w2 HB2.out)
  have key : ∀ w3, Upd [] w2 w3 → Own w3 (w.heap.size + 1) v1 (l1 ++ l2) ∧ w3.heap[w.heap.size]? = some (boxF x) ∧ Upd [] w w3 := fun w3 u => ⟨by rw [← HI.out.1]; exact Own.keep HO2.out u, by rw [u.block _ (lt_of_blk HB2.out) (by simp)]; exact HB2.out, HU2.out.trans u⟩
  have HK := Lib.hid key
  clear key
  refine hJ.mono ?_
  rintro e w3 ⟨rfl, hu3⟩
  obtain ⟨hown3, hb3, hu30⟩ := HK.out w3 hu3
  have x0 : w3.cell? ⟨w.heap.size, 0, none⟩ = some (.string x.nm) := cell_blk hb3 0
  have x1 : w3.cell? ⟨w.heap.size, 1, none⟩ = some (.bool x.tx) := cell_blk hb3 1
  have x2 : w3.cell? ⟨w.heap.size, 2, none⟩ = some (.int .i64 x.n) := cell_blk hb3 2
  have x3 : w3.cell? ⟨w.heap.size, 3, none⟩ = some (.string x.s) := cell_blk hb3 3
  have hsz : w.heap.size + 1 ≤ w3.heap.size := lt_of_blk hb3
  have hIn := insert_ok (l1 := l1) (l2 := l2) (x := x) (B := w3.heap.size) (w3.alloc (boxF x)) (hown3.alloc _) (by rw [heap_alloc, if_pos rfl]) (hown3.notBlock (Nat.le_refl _)) (by simp; omega) (by rw [← HI.out.1]; exact hl)
  have HIn := Lib.hid hIn
  have HF : Hid (∀ v' w', Own w' (w.heap.size + 1) v' (l1 ++ x :: l2) → Upd v1.ownBlock.toList (w3.alloc (boxF x)) w' → OwnPost (insF l x) w (.returned v') w') := Lib.hid fun v' w' ho hu => ⟨v', rfl, by rw [HI.out.2]; exact own_mono ho (by omega), (hu30.alloc _).next hu (fun q hq hlt => by
    simp at hq
    have := (hown3.lt q hq).1
    omega)⟩
  clear hown3 hb3 hu30 hu3 hJ HK hIn HO2 HB2 HU2 HR HP
  rcases hidx with ⟨hi, rfl⟩ | hi
  · rw [hi]
    clear hi
    have hl1 : Hid (l1.length = l.length) := Lib.hid (by rw [HI.out.1]; simp)
    go_wp2_with fail
    have := HIn.out
    rw [hl1.out] at this
    refine this.mono ?_
    rintro e w4 ⟨v', rfl, ho, hu⟩
    have HG := Lib.hid (HF.out v' w4 ho hu)
    clear ho hu this
    go_wp2_with fail
    go_ret
    exact HG.out
  · rw [hi]
    clear hi
    go_wp2_with fail
    refine HIn.out.mono ?_
    rintro e w4 ⟨v', rfl, ho, hu⟩
    have HG := Lib.hid (HF.out v' w4 ho hu)
    clear ho hu
    go_wp2_with fail
    go_ret
    exact HG.out

theorem set_ok (v : Value) (l : List Fd) (x : Fd) (w : World) (h : RecAt w v l) (hl : (l.length + 1) * 48 ≤ 140737488355328) :
    Calls Tryd.prog 32 #[v, aggF x] w (OwnPost (setF l x) w) := by
  unfold setF
  rcases posF_cases l x.nm with ⟨hp, -, -⟩ | ⟨i, hi, hp, -, -, -⟩
  · rw [if_pos (by omega)]
    exact set_miss v l x w h hl hp
  · rw [if_neg (by omega), hp, Int.toNat_natCast]
    exact set_hit v l x w h (by omega) hi hp
end Go.Proofs.YtdokpfgdddfdfaaDoor
