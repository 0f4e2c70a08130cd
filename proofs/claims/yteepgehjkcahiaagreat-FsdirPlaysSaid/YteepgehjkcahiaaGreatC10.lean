/- The device's Crash. append(b, make([]byte, n)...), for bytes of the call's own. The record that is replaced whole: lay, Format. -/
import Derived.Lib.AppendZerosOnto
import Derived.Test.YteepgehjkcahiaaGreatC09
namespace Go.Proofs.YteepgehjkcahiaaGreat
open Go.RowKit Go.Maps
def cZ (x : Int) : List Value := [.int .i64 x]
abbrev OwZ (w : World) (base : Nat) (v : Value) (l : List Int) : Prop := OwnG cZ 3 1 w base v l
abbrev RdZ (w : World) (v : Value) (l : List Int) : Prop := RdG cZ 1 w v l
theorem flatZ (l : List Int) : flatG cZ l = l.map fun x => Value.int .i64 x := by
 induction l with
 | nil => rfl
 | cons x l ih => rw [List.map_cons, ← ih]; rfl
theorem flatZ_at (l : List Int) (i : Nat) (hi : i < l.length) : (flatG cZ l)[i]? = some (.int .i64 l[i]) := by
 rw [flatZ, List.getElem?_map, List.getElem?_eq_getElem hi]
 rfl
theorem OwnG.cellZ {w : World} {base : Nat} {v : Value} {l : List Int} (h : OwZ w base v l) : ∃ a c, v = .slice a l.length c ∧ ∀ i (hi : i < l.length), ∃ g, a = some ⟨g, 0, none⟩ ∧ base ≤ g ∧ g < w.heap.size ∧ w.cell? ⟨g, i, none⟩ = some (.int .i64 l[i]) := by
 obtain ⟨h0, h2⟩ := h
 rcases h2 with ⟨rfl, hn⟩ | ⟨g, cap, cur, rfl, hg, hh, r1, r2, r3, r4⟩
 ·exact ⟨none, 0, by rw [hn], fun i hi => by omega⟩
 ·refine ⟨_, _, rfl, fun i hi => ⟨g, rfl, hg, lt_of_blk hh, ?_⟩⟩
  rw [cell_blk hh]
  have := flatZ_at l i hi
  rw [← r4, List.getElem?_take] at this
  split at this
  ·simpa using this
  ·cases this
theorem RdG.cellZ {w : World} {v : Value} {l : List Int} (h : RdZ w v l) : ∃ a c, v = .slice a l.length c ∧ ∀ i (hi : i < l.length), ∃ b o, a = some ⟨b, o, none⟩ ∧ w.cell? ⟨b, o + i, none⟩ = some (.int .i64 l[i]) := by
 obtain ⟨⟨a, c, rfl, h1, h2, h3⟩, -⟩ := h
 refine ⟨a, c, rfl, fun i hi => ?_⟩
 obtain ⟨b, o, rfl, hc⟩ := h3 i hi
 refine ⟨b, o, rfl, ?_⟩
 have := hc 0 (.int .i64 l[i]) rfl
 simpa using this
theorem OwnG.rowK {w : World} {base : Nat} {v : Value} {l : List Bs} (h : OwnG cK 105 512 w base v l) (hl : l ≠ []) : ∃ g c, v = .slice (some ⟨g, 0, none⟩) l.length c ∧ ∀ i (hi : i < l.length), w.rangeAt g (i * 512) (cK l[i]) := by
 have hpos := List.length_pos_iff.2 hl
 obtain ⟨h0, h2⟩ := h
 rcases h2 with ⟨rfl, hn⟩ | ⟨g, cap, cur, rfl, hg, hh, r1, r2, r3, r4⟩
 ·omega
 ·exact ⟨g, cap, rfl, fun i hi => rangeK (X := cur.toList) (l := l) (m := l.length * 512) (by simpa using hh) r4 i hi⟩
theorem DevR.len {w : World} {p : Nat} {D : Dev} {sb mb : Nat} {L : List (Nat × Value)} {ops : Int} (h : DevR w p D sb mb L ops) : L.length ≤ D.n := by
 have h1 : (L.map (·.1)).Nodup := by
  have := h.srt
  unfold Srt at this
  rw [List.nodup_iff_pairwise_ne, List.pairwise_map]
  exact this.imp fun h => ordI.ne h
 have h2 := nodup_le h1 (n := D.n) fun x hx => by
  obtain ⟨y, hy, rfl⟩ := List.mem_map.1 hx
  exact (h.row y hy).2.2
 rwa [List.length_map] at h2
def PendPost (w : World) (l : List Int) (r : Ending) (w' : World) : Prop := ∃ v, r = .returned v ∧ OwZ w' w.heap.size v l ∧ Upd [] w w'
def keysL (L : List (Nat × Value)) : List Int := L.map fun x => (x.1 : Int)
def Dev.after (D : Dev) (S : List Bs) : Dev := ⟨D.n, fun i => ⟨S[i]?.getD (D.blk i).safe, []⟩, -1, false, 0⟩
theorem after_crashed {D : Dev} {S : List Bs} (hS : ∀ j (hj : j < S.length), S[j] ∈ (D.blk j).poss) : Crashed D (D.after S) := by
 refine ⟨rfl, rfl, rfl, fun i => rfl, fun i => ?_⟩
 show S[i]?.getD (D.blk i).safe ∈ _
 rcases Nat.lt_or_ge i S.length with h | h
 ·rw [List.getElem?_eq_getElem h]; exact hS i h
 ·rw [List.getElem?_eq_none h]; simp [Cell.poss]
theorem DevR.crashed {w w' : World} {p : Nat} {D : Dev} {sb mb : Nat} {L : List (Nat × Value)} {ops : Int} (h : DevR w p D sb mb L ops) {S : List Bs} (hl : S.length = D.n) (hS : ∀ j (hj : j < S.length), S[j] ∈ (D.blk j).poss)
  (hb : w'.heap[p]? = some (boxD sb D.n mb (-1) false ops)) (hs : w'.heap[sb]? = some (.cells (flatG cK S).toArray 105 (0, 0))) (hm : w'.ownsMap (H := Value) Tryz.prog 3 opq mb 0 (.map [])) :
  DevR w' p (D.after S) sb mb [] ops := by
 have hnd := h.nodup
 simp only [footD, List.nodup_cons, List.mem_cons, not_or] at hnd
 obtain ⟨⟨a1, a2, -⟩, ⟨a4, -⟩, -⟩ := hnd
 have hsl : safeL (D.after S) = S := by
  apply List.ext_getElem (by rw [safeL_len, hl]; rfl)
  intro i h1 h2
  rw [safeL_at]
  show S[i]?.getD (D.blk i).safe = _
  rw [List.getElem?_eq_getElem h2]
  rfl
 refine ⟨hb, by rw [hsl]; exact hs, hm, List.Pairwise.nil, by simp, fun i _ => rfl, ?_, h.n1, h.n2, Int.le_refl _, by simp [Dev.after], (after_crashed hS).sized h.sized, fun i => Nat.zero_le _⟩
 simp only [footD, List.map_nil, List.nodup_cons, List.mem_cons, List.not_mem_nil, or_false, not_or, not_false_eq_true, List.nodup_nil, and_true]
 exact ⟨⟨a1, a2⟩, a4⟩
def CrashPost (w : World) (p : Nat) (D : Dev) (F : List Nat) (r : Ending) (w' : World) : Prop := ∃ (D' : Dev) (F' : List Nat), r = .returned (.tuple #[]) ∧ Crashed D D' ∧ D'.wr = 0 ∧ DevAt w' p D' F' ∧ Upd F w w' ∧ ∀ k ∈ F', k ∈ F
set_option maxRecDepth 100000 in
set_option maxHeartbeats 4000000 in
theorem crash_of (HPD : ∀ (w : World) (p : Nat) (D : Dev) (sb mb : Nat) (L : List (Nat × Value)) (ops : Int), DevR w p D sb mb L ops → Calls Tryz.prog 61 #[.pointer (some ⟨p, 0, none⟩)] w (PendPost w (keysL L)))
  (w : World) {p : Nat} {D : Dev} {F : List Nat} (h : DevAt w p D F) (hwr : D.wr ≤ 137438953472) {pv : Value} {picks : List Int} (hp : RdZ w pv picks) (hpk : ∀ x ∈ picks, -9223372036854775808 ≤ x ∧ x ≤ 9223372036854775807) (hpF : picks ≠ [] → ∀ b, pv.ownBlock = some b → b ∉ F) :
  Calls Tryz.prog 22 #[.pointer (some ⟨p, 0, none⟩), pv] w (CrashPost w p D F) := by
 obtain ⟨sb, mb, L, ops, h, rfl⟩ := h
 have HP := Lib.hid (HPD w p D sb mb L ops h)
 have HD := Lib.hid h
 have hn2 := h.n2
 have hLn := h.len
 obtain ⟨ap, cp, rfl, hcp⟩ := hp.cellZ
 have HCP := Lib.hid hcp
 have HPK := Lib.hid hpk
 clear h HPD hp hcp hpk
 go_enter Tryz.func22, Tryz.ntmps22
 go_wp2_with fail
 refine HP.out.mono ?_
 rintro r w1 ⟨v, rfl, hv, hu1⟩
 have HR := Lib.hid (HD.out.upd hu1 (by simp))
 have HU1 := Lib.hid hu1
 obtain ⟨av, cv, rfl, hcv⟩ := hv.cellZ
 have hkl : (keysL L).length = L.length := by simp [keysL]
 have HCV := Lib.hid hcv
 rewrite [hkl]
 clear hu1 hv hcv
 go_wp2_with fail
 go_loopg [14] L.length (fun k v wr => ∃ (i : Nat) (S : List Bs), v = .int .i64 i ∧ i ≤ L.length ∧ k = L.length - i ∧ Hid (S.length = D.n ∧ wr.heap[sb]? = some (.cells (flatG cK S).toArray 105 (0, 0)) ∧ ∀ j (hj : j < S.length), S[j] ∈ (D.blk j).poss) ∧ Hid (Upd [sb] w1 wr))
 case atStart =>
  exact ⟨0, safeL D, rfl, by omega, rfl, Lib.hid ⟨safeL_len D, HR.out.safe, fun j hj => by rw [safeL_at]; simp [Cell.poss]⟩, Lib.hid (Upd.refl _ _)⟩
 case round =>
  obtain ⟨i, S, rfl, hi, rfl, HS, HU⟩ := hrel
  have hfoot := HR.out.nodup
  simp only [footD, List.nodup_cons, List.mem_cons, not_or] at hfoot
  have hsb := lt_of_blk HR.out.safe
  have c0' := cell_blk HR.out.box 0
  have c1' := cell_blk HR.out.box 1
  simp only [List.getElem?_toArray, List.getElem?_cons_zero, List.getElem?_cons_succ] at c0' c1'
  have c0 : wr.cell? ⟨p, 0, none⟩ = some (.slice (some ⟨sb, 0, none⟩) D.n D.n) := (World.cell?_of_block (HU.out.block p (lt_of_blk HR.out.box) (by simp; exact hfoot.1.1))).trans c0'
  have c1 : wr.cell? ⟨p, 1, none⟩ = some (.map (some mb)) := (World.cell?_of_block (HU.out.block p (lt_of_blk HR.out.box) (by simp; exact hfoot.1.1))).trans c1'
  by_cases hil : i < L.length
  ·have hlt : (i : Int) < (L.length : Int) := by omega
   obtain ⟨gv, rfl, hgv1, hgv2, hcell⟩ := HCV.out i (by rw [hkl]; exact hil)
   have hkey : (keysL L)[i]'(by rw [hkl]; exact hil) = (L[i].1 : Int) := by simp [keysL]
   rw [hkey] at hcell
   have hmem : L[i] ∈ L := List.getElem_mem hil
   have hgk := getA_of_mem ordI HR.out.srt hmem
   obtain ⟨hown, hne, hkn⟩ := HR.out.row _ hmem
   generalize hx : L[i] = x at *
   obtain ⟨n, u⟩ := x
   dsimp only at hown hne hkn hgk hcell
   obtain ⟨g, c, rfl, hrows⟩ := hown.rowK hne
   have hsb0 := lt_of_blk HD.out.safe
   have hgb := (hown.block g rfl).2
   have hgsb : g ≠ sb := fun e => hfoot.2.1.2 (List.mem_map.2 ⟨(n, _), hmem, by simp [blkOfV, Value.ownBlock, e]⟩)
   have cv1 : wr.cell? ⟨gv, i, none⟩ = some (.int .i64 n) := (World.cell?_of_block (HU.out.block gv hgv2 (by simp; omega))).trans hcell
   have HL := Lib.hid (MapI.look (owns_upd HR.out.map HU.out (by simp; exact fun e => hfoot.2.1.1 e.symm)) Tryz.underlying101 (z := .slice none 0 0) (by kernel_rfl) n (by omega))
   rewrite [hgk] at HL
   have hcap : (D.blk n).pend.length ≤ 137438953472 := Nat.le_trans (HD.out.cnt n) hwr
   have hpos : 0 < (D.blk n).pend.length := List.length_pos_iff.2 hne
   have HROW : Hid (∀ i, i < (D.blk n).pend.length → ∃ lst, lst ∈ (D.blk n).pend ∧ wr.rangeAt g (i * 512) (cK lst)) := Lib.hid fun i hi => ⟨_, List.getElem_mem hi, rangeAt_keep (hrows i hi) (HU.out.block g hgb (by simp; exact hgsb))⟩
   have hu105 := Tryz.underlying105
   have l2 : (n : Int) < (D.n : Int) := by omega
   clear hrows hown hne
   generalize hpe : (D.blk n).pend = pe at *
   generalize hme : pe.length = m at *
   have hwm : IntKind.i64.wrap ((m : Int) + 1) = (m : Int) + 1 := IntWalk.i64_in _ (by omega)
   have HC : (¬ (i : Int) < (picks.length : Int)) ∨ (∃ (b o y : Nat) (x : Int), (i : Int) < (picks.length : Int) ∧ ap = some ⟨b, o, none⟩ ∧ wr.cell? ⟨b, o + i, none⟩ = some (.int .i64 x) ∧ y < 9223372036854775808 ∧ ((0 ≤ x ∧ x = (y : Int)) ∨ (x < 0 ∧ IntKind.i64.wrap (x + 1) = x + 1 ∧ IntKind.i64.wrap (-(x + 1)) = (y : Int)))) := by
    by_cases hj : i < picks.length
    ·obtain ⟨b, o, rfl, hc⟩ := HCP.out i hj
     have hbF := hpF (List.ne_nil_of_length_pos (by omega)) b rfl
     have hblt := World.block_lt_of_cell? _ _ hc
     have hc2 : wr.cell? ⟨b, o + i, none⟩ = some (.int .i64 picks[i]) := ((World.cell?_of_block (HU.out.block b (Nat.lt_of_lt_of_le hblt HU1.out.size) (by simp; intro e; exact hbF (by rw [e]; simp [footD])))).trans (World.cell?_of_block (HU1.out.block b hblt (by simp)))).trans hc
     have hr := HPK.out _ (List.getElem_mem hj)
     rcases Int.lt_or_le picks[i] 0 with h | h
     ·exact .inr ⟨b, o, (-(picks[i] + 1)).toNat, _, by omega, rfl, hc2, by omega, .inr ⟨h, IntWalk.i64_in _ (by omega), by rw [IntWalk.i64_in _ (by omega)]; omega⟩⟩
     ·exact .inr ⟨b, o, picks[i].toNat, _, by omega, rfl, hc2, by omega, .inl ⟨h, by omega⟩⟩
    ·exact .inl (by omega)
   rcases HC with h | ⟨b, o, y, x, h1, rfl, hcx, hy, ⟨h2, rfl⟩ | ⟨h2, h3, h4⟩⟩
   ·go_wp2_with (first
     | (at_lookup; refine wpList_lookup_run rfl _ _ 101 rfl rfl rfl HL.out ?_)
     | fail)
    go_roundg (L.length - (i + 1))
    case rel => exact ⟨i + 1, S, by go_num, by omega, rfl, HS, HU⟩
    case measure => omega
   all_goals
    obtain ⟨r, hr⟩ : ∃ r : Nat, r = y % (m + 1) := ⟨_, rfl⟩
    have hrm : r < m + 1 := by rw [hr]; exact Nat.mod_lt _ (by omega)
    have hr1 : (y : Int) % ((m : Int) + 1) = (r : Int) := by rw [hr]; rfl
    have hr2 : (y : Int).tmod ((m : Int) + 1) = (r : Int) := by rw [IntWalk.rem_in _ _ (by omega)]; exact hr1
    clear hr
    rcases Nat.eq_zero_or_pos r with hr0 | hr0
    ·subst hr0
     go_wp2_with (first
      | (at_lookup; refine wpList_lookup_run rfl _ _ 101 rfl rfl rfl HL.out ?_)
      | fail)
     go_roundg (L.length - (i + 1))
     case rel => exact ⟨i + 1, S, by go_num, by omega, rfl, HS, HU⟩
     case measure => omega
    obtain ⟨r1, rfl⟩ : ∃ r1, r = r1 + 1 := ⟨r - 1, by omega⟩
    obtain ⟨lst, hlm, hrg3⟩ := HROW.out r1 (by omega)
    have hi105 : (Tryz.prog.info? 105).map (·.size) = some (cK lst).length := by rw [cK_len]; exact sizeK
    have hcK : 0 < (cK lst).length := by rw [cK_len]; omega
    have hu3 : Upd [sb] wr (wr.drew.setRow sb (flatG cK (S.set n lst)).toArray) := upd_setRow _ _ _
    have hw2 : IntKind.i64.wrap (r1 : Int) = (r1 : Int) := IntWalk.i64_in _ (by omega)
    have l4 : (r1 : Int) < (m : Int) := by omega
    go_wp2_with (first
     | (at_lookup; refine wpList_lookup_run rfl _ _ 101 rfl rfl rfl HL.out ?_)
     | fail)
    refine wp_region_noPanic ?_
    refine wp_region_held_drew (S := fun w' => w'.cell? ⟨p, 0, none⟩ = some (.slice (some ⟨sb, 0, none⟩) D.n D.n) ∧ w'.rangeAt g (r1 * 512) (cK lst)) (by kernel_rfl) (heldW (Upd.refl [] wr).drew (by simp) (by simp) hcK ⟨c0, hrg3⟩) (fun hHeld => ?_)
    refine wpAnyH_take (i := 0) (oi := ⟨some 45, _, _, _, _, _⟩) (v := .pointer (some ⟨p, 0, none⟩)) rfl (by kernel_rfl) (by kernel_rfl) (by kernel_rfl) (fun _ _ _ h => h) (Or.inl ⟨by rfl, by (intro W hSW; obtain ⟨hS1, hS2⟩ := hSW; go_simp)⟩) hHeld ?_
    simp only [Act.put, List.setIfInBounds_toArray, List.set_cons_zero, List.set_cons_succ]
    refine wpAnyH_take (i := 1) (oi := ⟨some 46, _, _, _, _, _⟩) (v := .pointer (some ⟨p, 0, none⟩)) rfl (by kernel_rfl) (by kernel_rfl) (by kernel_rfl) (fun _ _ _ h => h) (Or.inl ⟨by rfl, by (intro W hSW; obtain ⟨hS1, hS2⟩ := hSW; go_simp)⟩) hHeld ?_
    simp only [Act.put, List.setIfInBounds_toArray, List.set_cons_zero, List.set_cons_succ]
    refine wpAnyH_take (i := 2) (oi := ⟨some 47, _, _, _, _, _⟩) (v := .pointer (some ⟨p, 0, none⟩)) rfl (by kernel_rfl) (by kernel_rfl) (by kernel_rfl) (fun _ _ _ h => h) (Or.inl ⟨by rfl, by (intro W hSW; obtain ⟨hS1, hS2⟩ := hSW; go_simp)⟩) hHeld ?_
    simp only [Act.put, List.setIfInBounds_toArray, List.set_cons_zero, List.set_cons_succ]
    refine wpAnyH_take (i := 3) (oi := ⟨some 48, _, _, _, _, _⟩) (v := .slice (some ⟨sb, 0, none⟩) D.n D.n) rfl (by kernel_rfl) (by kernel_rfl) (by kernel_rfl) (fun _ _ _ h => h) (Or.inl ⟨by rfl, by (intro W hSW; obtain ⟨hS1, hS2⟩ := hSW; go_simp)⟩) hHeld ?_
    simp only [Act.put, List.setIfInBounds_toArray, List.set_cons_zero, List.set_cons_succ]
    refine wpAnyH_take (i := 4) (oi := ⟨some 49, _, _, _, _, _⟩) (v := .int .i64 n) rfl (by kernel_rfl) (by kernel_rfl) (by kernel_rfl) (fun _ _ _ h => h) (Or.inl ⟨by rfl, by (intro W hSW; obtain ⟨hS1, hS2⟩ := hSW; go_simp)⟩) hHeld ?_
    simp only [Act.put, List.setIfInBounds_toArray, List.set_cons_zero, List.set_cons_succ]
    refine wpAnyH_take (i := 5) (oi := ⟨some 50, _, _, _, _, _⟩) (v := .slice (some ⟨g, 0, none⟩) m c) rfl (by kernel_rfl) (by kernel_rfl) (by kernel_rfl) (fun _ _ _ h => h) (Or.inl ⟨by rfl, by (intro W hSW; obtain ⟨hS1, hS2⟩ := hSW; go_simp)⟩) hHeld ?_
    simp only [Act.put, List.setIfInBounds_toArray, List.set_cons_zero, List.set_cons_succ]
    refine wpAnyH_take (i := 6) (oi := ⟨some 51, _, _, _, _, _⟩) (v := .int .i64 ((r1 + 1 : Nat) : Int)) rfl (by kernel_rfl) (by kernel_rfl) (by kernel_rfl) (fun _ _ _ h => h) (Or.inl ⟨by rfl, by (intro W hSW; obtain ⟨hS1, hS2⟩ := hSW; go_simp)⟩) hHeld ?_
    simp only [Act.put, List.setIfInBounds_toArray, List.set_cons_zero, List.set_cons_succ]
    refine wpAnyH_take (i := 7) (oi := ⟨some 52, _, _, _, _, _⟩) (v := .int .i64 r1) rfl (by kernel_rfl) (by kernel_rfl) (by kernel_rfl) (fun _ _ _ h => h) (Or.inl ⟨by rfl, by (intro W hSW; obtain ⟨hS1, hS2⟩ := hSW; go_simp)⟩) hHeld ?_
    simp only [Act.put, List.setIfInBounds_toArray, List.set_cons_zero, List.set_cons_succ]
    refine wpAnyH_take (i := 8) (oi := ⟨some 53, _, _, _, _, _⟩) (v := .pointer (some ⟨g, r1 * 512, none⟩)) rfl (by kernel_rfl) (by kernel_rfl) (by kernel_rfl) (fun _ _ _ h => h) (Or.inl ⟨by rfl, by (intro W hSW; obtain ⟨hS1, hS2⟩ := hSW; go_simp)⟩) hHeld ?_
    simp only [Act.put, List.setIfInBounds_toArray, List.set_cons_zero, List.set_cons_succ]
    refine' wpAnyH_take (i := 9) (oi := ⟨some 54, _, _, _, _, _⟩) (v := _) rfl (by kernel_rfl) (by kernel_rfl) (by kernel_rfl) (fun _ _ _ h => h) (yieldsIf_load_mid (by rfl) _ _ rfl g (r1 * 512) rfl (cK lst) _ (fun W hW => hW.2) hu105 rfl hi105) hHeld ?_
    simp only [Act.put, List.setIfInBounds_toArray, List.set_cons_zero, List.set_cons_succ]
    refine wpAnyH_take (i := 10) (oi := ⟨some 55, _, _, _, _, _⟩) (v := .pointer (some ⟨sb, n * 512, none⟩)) rfl (by kernel_rfl) (by kernel_rfl) (by kernel_rfl) (fun _ _ _ h => h) (Or.inl ⟨by rfl, by (intro W hSW; obtain ⟨hS1, hS2⟩ := hSW; go_simp)⟩) hHeld ?_
    simp only [Act.put, List.setIfInBounds_toArray, List.set_cons_zero, List.set_cons_succ]
    refine wpAnyH_ready (rs := [11]) (by kernel_rfl) (by simp) ?_
    refine AllReadyH.cons (o := ⟨none, _, _, _, _, _⟩) rfl (fun K hK => ?_) AllReadyH.nil
    refine step_store_K (by rfl) _ _ (by rfl) (B := sb) (n := n) (l := S) (b := lst) (by rfl) (by rfl) HS.out.2.1 (by rw [HS.out.1]; exact hkn) ?_
    refine hK.out _ _ (heldW hu3 (by simp; exact hfoot.1.1) (by simp; exact hgsb) hcK ⟨c0, hrg3⟩) (fun _ => ?_)
    clear hK K
    refine wpAnyH_done (by kernel_rfl) ?_ _
    refine NoPanic.normal ?_
    simp only [Act.put]
    go_wp2_with fail
    go_roundg (L.length - (i + 1))
    case rel =>
     refine ⟨i + 1, S.set n lst, by go_num, by omega, rfl, Lib.hid ⟨by rw [List.length_set]; exact HS.out.1, setRow_heap _ _ _ _ _ _ HS.out.2.1, fun j hj => ?_⟩, Lib.hid (HU.out.trans hu3)⟩
     rw [List.getElem_set]
     split
     ·rename_i e; subst e; exact by rw [Cell.poss, hpe]; exact List.mem_cons_of_mem _ hlm
     ·exact HS.out.2.2 j (by simpa using hj)
    case measure => omega
  ·have hlt : ¬ (i : Int) < (L.length : Int) := by omega
   have hown := owns_upd HR.out.map HU.out (by simp; exact fun e => hfoot.2.1.1 e.symm)
   go_wp2_with (first
    | (refine wpList_clear_own (o := ⟨none, _, _, _, _, _⟩) rfl _ 101 rfl Tryz.underlying101 rfl hown ?_; intro w3 hm3 hu3; have b3 : w3.heap[p]? = some (boxD sb D.n mb D.fuse D.down ops) := (hu3.block p (Nat.lt_of_lt_of_le (lt_of_blk HR.out.box) HU.out.size) (by simp; exact hfoot.1.2.1)).trans ((HU.out.block p (lt_of_blk HR.out.box) (by simp; exact hfoot.1.1)).trans HR.out.box); have d2 := cell_blk b3 2; have d3 := cell_blk b3 3; have f2 := frozen_blk b3 2; have f3 := frozen_blk b3 3; simp only [List.getElem?_toArray, List.getElem?_cons_zero, List.getElem?_cons_succ] at d2 d3; have B3 := Lib.hid b3; clear b3; have M3 := Lib.hid hm3; have U3 := Lib.hid hu3; clear hm3 hu3)
    | fail)
   go_end0
   have hU4 : Upd [p] w3 ((w3.setCell ⟨p, 2, none⟩ (.int .i64 (-1))).setCell ⟨p, 3, none⟩ (.bool false)) := ((Upd.refl _ _).setCell (by simp) _ _).setCell (by simp) _ _
   have hb4 := (box_put ((box_put B3.out).2.1 (-1))).1 false
   have hs3 := (U3.out.block sb (lt_of_blk HS.out.2.1) (by simp; exact hfoot.2.1.1)).trans HS.out.2.1
   have hs4 := (hU4.block sb (lt_of_blk hs3) (by simp; exact fun e => hfoot.1.1 e.symm)).trans hs3
   have hm4 := owns_upd M3.out hU4 (by simp; exact fun e => hfoot.1.2.1 e.symm)
   refine ⟨D.after S, _, rfl, after_crashed HS.out.2.2, rfl, ⟨sb, mb, [], ops, HD.out.crashed HS.out.1 HS.out.2.2 hb4 hs4 hm4, rfl⟩, ?_, ?_⟩
   ·have q1 : Upd (footD p sb mb L) w w1 := HU1.out.mono (by simp)
    have q2 : Upd (footD p sb mb L) w1 wr := HU.out.mono fun k hk _ => by obtain rfl := List.mem_singleton.1 hk; simp [footD]
    have q3 : Upd (footD p sb mb L) wr w3 := U3.out.mono fun k hk _ => by obtain rfl := List.mem_singleton.1 hk; simp [footD]
    have q4 := hU4.mono (G := footD p sb mb L) fun k hk _ => by obtain rfl := List.mem_singleton.1 hk; simp [footD]
    exact ((q1.trans q2).trans q3).trans q4
   ·intro k hk
    simp only [footD, List.map_nil, List.mem_cons, List.not_mem_nil, or_false] at hk ⊢
    rcases hk with rfl | rfl | rfl <;> simp
end Go.Proofs.YteepgehjkcahiaaGreat

namespace Go.Proofs.YteepgehjkcahiaaGreat
open Go.RowKit Go.Maps
theorem zeros8 (k : Nat) : (Builtin.zeroCells (Value.int .u8 0).cells k).toList = flatG c8 (List.replicate k 0) := by
 rw [flat8, List.map_replicate]
 apply List.ext_getElem
 ·simp [Builtin.zeroCells]
  show k * 1 = k
  omega
 ·intro i h1 h2
  simp [Builtin.zeroCells, Value.cells]
  rw [Nat.mod_one]
  rfl
theorem append_zeros8 {w : World} {base : Nat} {v : Value} {l : Bs} (hown : Ow w base v l) (h0 : l ≠ []) (k : Nat) (hk : l.length + k ≤ 1000000) (hbase : base ≤ w.heap.size) (ty : TypeId) :
  ∃ v' w', (Builtin.append_ #[32, 3] ty #[v, .int .i64 k]).run Tryz.prog w = .ok v' w' ∧ Ow w' base v' (l ++ List.replicate k 0) ∧ w.grownBy w' v.ownBlock ∧ (v'.ownBlock = v.ownBlock ∨ ∀ g, v'.ownBlock = some g → w.heap.size ≤ g) := by
 obtain ⟨i0, z, hi0, hz0, hz1, hz2, hz3⟩ := T8.info
 obtain ⟨i1, h1, h2, h3, h4⟩ := info_parts (show (Tryz.prog.info? 5).map (fun i => (i.zero, i.size, i.bytes)) = some (some (.int .u8 0), 1, 1) by kernel_rfl)
 rw [h1] at hi0
 cases hi0
 rw [h2] at hz0
 cases hz0
 have hpos := List.length_pos_iff.2 h0
 have hlen : (flatG c8 l).length = l.length := by rw [flatG_len T8]; omega
 have hzl : (flatG c8 (List.replicate k 0)).length = k := by rw [flatG_len T8]; simp
 have hw : IntKind.i64.wrap (k : Int) = k := by rw [IntKind.wrap_i64]; omega
 have hneg : ¬ ((k : Int) < 0) := by omega
 have htn := Tryz.underlying3
 rcases hown.2 with ⟨rfl, hn⟩ | ⟨g, cap, cur, rfl, hbg, hg, hnc, hcm, hcs, htake⟩
 ·omega
 ·by_cases hroom : l.length + k ≤ cap
  ·have hfit : l.length + k ≤ cur.size := by rw [hcs]; omega
   have hst := run_storeCells_at Tryz.prog g l.length 5 (flatG c8 (List.replicate k 0)) 0 cur w hg (by rw [hzl]; omega) (flatG_one (one8 _))
   simp only [Nat.add_zero] at hst
   have h48 : ¬ (281474976710656 < (k : Int)) := by omega
   have hr : (Builtin.append_ #[32, 3] ty #[.slice (some ⟨g, 0, none⟩) l.length cap, .int .i64 k]).run Tryz.prog w = .ok (.slice (some ⟨g, 0, none⟩) (l.length + k) cap) (w.setRow g (cur.toList.take l.length ++ flatG c8 (List.replicate k 0) ++ cur.toList.drop (l.length + (flatG c8 (List.replicate k 0)).length)).toArray) := by
    rcases Nat.eq_zero_or_pos k with hk0 | hk0
    ·subst hk0
     simp only [List.replicate_zero, flatG, List.flatMap_nil] at hst ⊢
     simp [Builtin.append_, run_underlying T8.und, run_underlying htn, sizeOf, typeInfo, h1, h3, h4, asInt, asIntOf, hw, Nat.add_zero] at *
     simp [hnc, Addr.add_lit, hst]
    ·have hk1 : ¬ (k = 0) := by omega
     simp [Builtin.append_, run_underlying T8.und, run_underlying htn, sizeOf, typeInfo, zeroValue, h1, h2, h3, h4, asInt, asIntOf, hw, hneg, h48, hk1, hroom, Addr.add_lit, zeros8, hst]
   refine ⟨_, _, hr, ⟨by rw [flatG_len T8], .inr ⟨g, cap, _, by simp, hbg, setRow_heap w g cur _ _ _ hg, by simpa using hroom, hcm, ?_, ?_⟩⟩, ⟨rfl, rfl, rfl, by simp, fun j _ hj => setRow_other w g j _ (fun e => hj (by simp [Value.ownBlock, e]))⟩, .inl rfl⟩
   ·simp only [List.size_toArray, List.length_append, List.length_take, List.length_drop, Array.length_toList, hzl, hcs]
    omega
   ·have e : cur.toList.take l.length = flatG c8 l := by have := htake; rwa [Nat.mul_one] at this
    rw [flatG_app, e]
    have : (l ++ List.replicate k 0).length * 1 = (flatG c8 l ++ flatG c8 (List.replicate k 0)).length := by simp [hlen, hzl]
    rw [this]
    exact List.take_left
  ·have hr := Go.Lib.run_append_grow_zeros (P := Tryz.prog) w 32 3 ty 5 i0 (.int .u8 0) .i64 .i64 T8.und htn h1 h2 (some ⟨g, 0, none⟩) l.length cap (flatG c8 l) ?_ k (by omega) (by omega) (by omega) (by omega) (by rw [h4]; omega) (growslice_fits (by omega) (by rw [h4]; omega))
   ·have hge := grownCap_ge w (l.length + k) cap 5
    have hcm2 : grownCap w (l.length + k) cap 5 ≤ maxLen := grownCap_le_maxLen w (l.length + k) cap 5 (by unfold maxLen; omega)
    refine ⟨_, _, hr, ⟨by rw [flatG_len T8], .inr ⟨w.heap.size, _, _, by simp, hbase, heap_alloc_new w.drew _, by simpa using hge, hcm2, ?_, ?_⟩⟩, ⟨rfl, rfl, rfl, by simp, fun j hj _ => by rw [heap_alloc, if_neg (show ¬ j = w.drew.heap.size from Nat.ne_of_lt hj)]; rfl⟩, .inr fun g' hg' => by cases hg'; exact Nat.le_refl _⟩
    ·simp only [Array.size_append, List.size_toArray, size_zeroCells, hlen]
     simp [Value.cells]
     omega
    ·simp only [Array.toList_append, List.append_assoc, zeros8]
     rw [flatG_app, ← List.append_assoc]
     have : (l ++ List.replicate k 0).length * 1 = (flatG c8 l ++ flatG c8 (List.replicate k 0)).length := by simp [hlen, hzl]
     rw [this]
     exact List.take_left
   ·have hc := hown.cells (g := g) rfl
    exact run_firstCells_some (P := Tryz.prog) w.drew i0.size l.length ⟨g, 0, none⟩ l.length cap (flatG c8 l) (by rw [hlen, h3]; omega) hc
theorem wpList_append_zeros {w : World} {ops : Array Oper} {rest : List Oper} {o : Oper} {a : Act} {Q : Exit → Act → World → Prop} (hgd : o.guard = none) (s x : Operand)
  (ho : o.op = .call { callee := .builtin .append, args := #[s, x], argTypes := #[32, 3] }) {base : Nat} {v : Value} {l : Bs} (hs : a.eval s = v) (hown : Ow w base v l) (h0 : l ≠ []) {k : Nat}
  (hx : a.eval x = .int .i64 k) (hk : l.length + k ≤ 1000000) (hbase : base ≤ w.heap.size)
  (h : ∀ v' w', Ow w' base v' (l ++ List.replicate k 0) → w.grownBy w' v.ownBlock → (v'.ownBlock = v.ownBlock ∨ ∀ g, v'.ownBlock = some g → w.heap.size ≤ g) → wpList Tryz.prog ops Q rest (a.put o.dst v') w') : wpList Tryz.prog ops Q (o :: rest) a w := by
 obtain ⟨v', w', hrun, h2, h3, h4⟩ := append_zeros8 hown h0 k hk hbase o.type
 exact Go.Lib.wpList_append_run w hgd s x _ _ ho _ _ hs hx v' w' hrun (h v' w' h2 h3 h4)
end Go.Proofs.YteepgehjkcahiaaGreat

namespace Go.Proofs.YteepgehjkcahiaaGreat
open Go.RowKit Go.Maps
theorem DevAt.lt {w : World} {p : Nat} {D : Dev} {F : List Nat} (h : DevAt w p D F) : ∀ k ∈ F, k < w.heap.size := by
 obtain ⟨sb, mb, L, ops, h, rfl⟩ := h
 intro k hk
 simp only [footD, List.mem_cons, List.mem_map] at hk
 rcases hk with e | e | e | ⟨x, hx, e⟩
 ·rw [e]; exact lt_of_blk h.box
 ·rw [e]; exact lt_of_blk h.safe
 ·rw [e]; exact World.ownsMap.lt h.map
 ·obtain ⟨h1, h2, -⟩ := h.row x hx
  obtain ⟨g, c, hv, -⟩ := h1.lastK h2
  have hb : x.2.ownBlock = some g := by rw [hv]; rfl
  rw [← e]
  simp only [blkOfV, hb, Option.getD_some]
  exact (h1.block g hb).2
theorem DevAt.p_mem {w : World} {p : Nat} {D : Dev} {F : List Nat} (h : DevAt w p D F) : p ∈ F := by
 obtain ⟨sb, mb, L, ops, -, rfl⟩ := h
 simp [footD]
theorem DevAt.sized {w : World} {p : Nat} {D : Dev} {F : List Nat} (h : DevAt w p D F) : Sized D.blk := by
 obtain ⟨sb, mb, L, ops, h, -⟩ := h
 exact h.sized
theorem DevAt.bounds {w : World} {p : Nat} {D : Dev} {F : List Nat} (h : DevAt w p D F) : 64 ≤ D.n ∧ D.n ≤ 512 := by
 obtain ⟨sb, mb, L, ops, h, -⟩ := h
 exact ⟨h.n1, h.n2⟩
theorem WritePost.seq {w w1 w2 : World} {p : Nat} {D D1 : Dev} {F F1 : List Nat} {a b : List DOp} {r : Ending} (hE : Eff a D 0 D1) (hU : Upd F w w1) (hF : ∀ k ∈ F1, k ∈ F ∨ w.heap.size ≤ k) (h : WritePost w1 p D1 F1 b r w2) : WritePost w p D F (a ++ b) r w2 := by
 obtain ⟨e, D2, F2, rfl, hE2, hD2, hU2, hF2⟩ := h
 refine ⟨e, D2, F2, rfl, hE.next hE2, hD2, hU.next hU2 fun k hk hlt => ?_, fun k hk => ?_⟩
 ·rcases hF k hk with q | q
  ·exact q
  ·omega
 ·rcases hF2 k hk with q | q
  ·exact hF k q
  ·exact .inr (Nat.le_trans hU.size q)
theorem WritePost.stop {w w1 : World} {p : Nat} {D D1 : Dev} {F F1 : List Nat} {a : List DOp} {e : Nat} (b : List DOp) (he : e ≠ 0) (hE : Eff a D e D1) (hD : DevAt w1 p D1 F1) (hU : Upd F w w1) (hF : ∀ k ∈ F1, k ∈ F ∨ w.heap.size ≤ k) : WritePost w p D F (a ++ b) (.returned (.int .i64 e)) w1 :=
 ⟨e, D1, F1, rfl, hE.stop b he, hD, hU, hF⟩
theorem WritePost.from {w0 w w' : World} {p : Nat} {D : Dev} {F : List Nat} {t : List DOp} {r : Ending} (u : Upd [] w0 w) (h : WritePost w p D F t r w') : WritePost w0 p D F t r w' := by
 obtain ⟨e, D1, F1, rfl, hE, hD, hU, hF⟩ := h
 exact ⟨e, D1, F1, rfl, hE, hD, (u.mono (by simp)).trans hU, fun k hk => (hF k hk).imp id fun q => Nat.le_trans u.size q⟩
theorem OwnG.sliceM {α : Type} {f : α → List Value} {e : TypeId} {k : Nat} {w : World} {base : Nat} {v : Value} {l : List α} (h : OwnG f e k w base v l) : ∃ a c m, m = l.length ∧ v = .slice a m c := by
 obtain ⟨a, c, h⟩ := h.slice
 exact ⟨a, c, _, rfl, h⟩
theorem OwnG.headG {α : Type} {f : α → List Value} {e : TypeId} {k : Nat} {w : World} {base : Nat} {v : Value} {l : List α} (h : OwnG f e k w base v l) (h0 : l ≠ []) : ∃ g c, v = .slice (some ⟨g, 0, none⟩) l.length c ∧ base ≤ g ∧ g < w.heap.size := by
 have hpos := List.length_pos_iff.2 h0
 rcases h.2 with ⟨rfl, hn⟩ | ⟨g, cap, cur, rfl, hg, hh, r1, r2, r3, r4⟩
 ·omega
 ·exact ⟨g, cap, rfl, hg, lt_of_blk hh⟩
theorem Rd.sliceM {w : World} {v : Value} {l : Bs} (h : Rd w v l) : ∃ a c m, m = l.length ∧ m ≤ c ∧ c ≤ 9223372036854775807 ∧ v = .slice a m c := by
 obtain ⟨a, c, rfl, h1, h2, -⟩ := h.slice
 exact ⟨a, c, _, rfl, h1, h2, rfl⟩
set_option maxRecDepth 100000 in
theorem wrong_ok (w : World) {p : Nat} {D : Dev} {F : List Nat} (h : DevAt w p D F) : Calls Tryz.prog 140 #[.pointer (some ⟨p, 0, none⟩), .int .i64 0] w fun e w' => e = .returned (.int .i64 0) ∧ w' = w := by
 have HB := Lib.hid (blocks_ok w h)
 have hb := h.bounds
 clear h
 generalize D.n = N at *
 go_enter Tryz.func140, Tryz.ntmps140
 go_wp2_with fail
 refine HB.out.mono ?_
 rintro e w1 ⟨rfl, rfl⟩
 go_wp2_with fail
 go_ret
 exact ⟨rfl, rfl⟩
set_option maxRecDepth 100000 in
set_option maxHeartbeats 4000000 in
theorem lay_ok (w : World) {p : Nat} {D : Dev} {F : List Nat} (h : DevAt w p D F) (n : Nat) (hn : n < D.n) (hwr : D.wr ≤ 137438953400) (c : Nat) (hc : c < 9223372036854775808) {v : Value} {d : Bs} (hd : Rd w v d) (hdl : d.length ≤ 400) :
  Calls Tryz.prog 148 #[.pointer (some ⟨p, 0, none⟩), .int .i64 n, .int .i64 c, v] w (WritePost w p D F [.write n (slotB c d), .flush]) := by
 obtain ⟨a, cp, rfl, hcap, hc63, -⟩ := hd.slice
 have HD := Lib.hid h
 have HV := Lib.hid hd
 have hn2 := h.bounds.2
 have hul : (putU c).length ≤ 10 := putU_len64 (by omega)
 have hwc : IntKind.u64.wrap (c : Int) = (c : Int) := by rw [IntKind.wrap_u64]; omega
 clear h hd
 go_enter Tryz.func148, Tryz.ntmps148
 go_wp2_with fail
 refine (putUint_ok w (Rd.nil _) c (by omega) (by simp)).mono ?_
 rintro e w1 ⟨v1, rfl, ho1, hU1⟩
 have HU1 := Lib.hid hU1
 have hs1 := hU1.size
 go_wp2_with (at_builtin; refine wpList_append_G T8 rfl _ _ rfl (l := [] ++ putU c) rfl ho1 rfl (HV.out.keep HU1.out).src (one8 _) ?c1 ?c2 ?c3 ?_)
 case c1 => simp; omega
 case c2 => simp; omega
 case c3 => omega
 intro v2 w2 ho2 hg2 _
 have HU2 : Hid (Upd [] w w2) := Lib.hid (HU1.out.grown hg2 (fun g hg => by have := (ho1.block g hg).1; omega))
 have HR2 : Hid (Rd w2 v2 (putU c ++ d)) := Lib.hid (by have := Ow.rd ho2; simpa using this)
 obtain ⟨a2, c2, m2, hm2, rfl⟩ := ho2.sliceM
 clear hm2
 clear ho1 hU1 hg2 ho2
 go_wp2_with fail
 have HPF := Lib.hid (putFrame_ok w2 (Rd.nil w2) 115 HR2.out (by rw [List.length_append]; omega) (by simp))
 have e115 : ((115 : UInt8).toNat : Int) = 115 := rfl
 rewrite [e115] at HPF
 refine HPF.out.mono ?_
 clear HPF e115
 rintro e w3 ⟨v3, rfl, ho3, hU3⟩
 have HU3 := Lib.hid (HU2.out.trans hU3)
 have hs3 := HU2.out.size
 have hs33 := hU3.size
 have e3 : [] ++ putFrame 115 (putU c ++ d) = putFrame 115 (putU c ++ d) := by simp
 rw [e3] at ho3
 clear hU3 e3
 have hfl : (putFrame 115 (putU c ++ d)).length ≤ 430 := by
  have h2 : (putU (putU c ++ d).length).length ≤ 10 := putU_len64 (by simp; omega)
  simp only [putFrame, frameRest, put32, List.length_append, List.length_cons, List.length_nil] at *
  omega
 have hf0 : putFrame 115 (putU c ++ d) ≠ [] := by simp [putFrame, put32]
 have hpad : putFrame 115 (putU c ++ d) ++ List.replicate (512 - (putFrame 115 (putU c ++ d)).length) 0 = slotB c d := rfl
 have hsl : (slotB c d).length = 512 := slotB_len (by omega) hdl
 generalize hfr : putFrame 115 (putU c ++ d) = fr at *
 obtain ⟨a3, c3, m3, hm3, rfl⟩ := ho3.sliceM
 have hm5 : m3 ≤ 430 := by omega
 have hk : (512 : Int) - (m3 : Int) = ((512 - m3 : Nat) : Int) := by omega
 have hwk : IntKind.i64.wrap ((512 - m3 : Nat) : Int) = ((512 - m3 : Nat) : Int) := IntWalk.i64_in _ (by omega)
 obtain ⟨k, hkk⟩ : ∃ k, k = 512 - m3 := ⟨_, rfl⟩
 rw [← hkk] at hk hwk
 have hk6 : fr.length + k ≤ 1000000 := by omega
 have HKK := Lib.hid hkk
 have HM3 := Lib.hid hm3
 clear hkk hm3
 go_wp2_with (first
  | (refine wpList_append_zeros rfl _ _ rfl (l := fr) (k := k) rfl ho3 hf0 rfl hk6 (by omega) ?_)
  | fail)
 intro v4 w4 ho4 hg4 _
 have HU4 : Hid (Upd [] w w4) := Lib.hid (HU3.out.grown hg4 (fun g hg => by have := (ho3.block g hg).1; omega))
 have e4 : fr ++ List.replicate k 0 = slotB c d := by rw [HKK.out, HM3.out]; exact hpad
 rw [e4] at ho4
 have hne : slotB c d ≠ [] := by intro q; rw [q] at hsl; simp at hsl
 obtain ⟨g4, c4, hv4, hg4b, hg4l⟩ := ho4.headG hne
 rw [hsl] at hv4
 subst hv4
 have HD4 := Lib.hid (HD.out.upd HU4.out (by simp))
 have HW := Lib.hid (write_ok w4 HD4.out n hn (by omega) (Ow.rd ho4) hsl (fun q => by have := HD.out.lt _ q; omega))
 clear ho3 ho4 hg4 hpad HR2 HU2 HU3 HKK HM3 e4 hk hwk hf0 hfl
 go_wp2_with fail
 refine HW.out.mono ?_
 rintro r w5 ⟨e, D5, F5, rfl, hE, hD5, hU5, hF5⟩
 have H5 := Lib.hid (And.intro hE (And.intro hD5 (And.intro hU5 hF5)))
 clear hE hD5 hU5 hF5 HW
 by_cases he : e = 0
 ·subst he
  have HFl := Lib.hid (flush_ok w5 H5.out.2.1 (by have := H5.out.1.wr; simp at this; omega))
  go_wp2_with fail
  refine HFl.out.mono ?_
  rintro r w6 h6
  have H6 := Lib.hid (WritePost.from HU4.out (WritePost.seq H5.out.1 H5.out.2.2.1 H5.out.2.2.2 h6))
  obtain ⟨e6, D6, F6, rfl, -⟩ := h6
  go_wp2_with fail
  go_ret
  exact H6.out
 ·have he' : ¬ (e : Int) = 0 := by omega
  go_wp2_with fail
  go_ret
  exact WritePost.from HU4.out (WritePost.stop [.flush] he H5.out.1 H5.out.2.1 H5.out.2.2.1 H5.out.2.2.2)
end Go.Proofs.YteepgehjkcahiaaGreat
