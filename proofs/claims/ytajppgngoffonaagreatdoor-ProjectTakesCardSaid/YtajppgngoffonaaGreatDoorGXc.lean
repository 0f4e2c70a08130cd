/- The rules' count. The library's IndexFunc and ContainsFunc over the rows of a table (printed by gidx.py). The rules' formed. -/
import Derived.Deep.RegionHeld3
import Derived.BigQuiet
import Derived.Test.YtajppgngoffonaaGreatDoorGXs
import Derived.Test.YtajppgngoffonaaGreatDoorGSh
namespace Go.Proofs.YtajppgngoffonaaGreatDoor
open Go.RowKit

set_option maxRecDepth 100000 in
set_option maxHeartbeats 1000000 in
theorem count_ok : ∀ (x : Xp) (m : Nat) (w : World), m ≤ 64 → KidsAt w x.av x.kids →
    Calls Tryz.prog 64 #[aggX x, .int .i64 m] w fun e w' => e = .returned (.int .i64 (cntX x m)) ∧ Upd [] w w' := by
  refine Ex.ind fun x ih m w hm hk => ?_
  obtain ⟨kd, n, s, av, kids⟩ := x
  obtain ⟨a, cap, hav, h1, h2, h3⟩ := (kidsAt_iff _ _ _).1 hk
  dsimp only at hav ih h1 h3
  subst hav
  have HI := Lib.hid ih
  have H3 := Lib.hid h3
  have hc : Hid (cntX ⟨kd, n, s, .slice a kids.list.length cap, kids⟩ m = cntL kids.list (m + 1)) := Lib.hid (cnt_list kids (m + 1))
  have hcl := cntX_le ⟨kd, n, s, .slice a kids.list.length cap, kids⟩ m hm
  generalize cntX ⟨kd, n, s, .slice a kids.list.length cap, kids⟩ m = R at *
  unfold maxLen at h2
  clear ih h3 hk
  generalize kids.list = l at *
  go_enter Tryz.func64, Tryz.ntmps64
  go_wp2_with fail
  go_loopg [1, 6, 12] l.length (fun k t1 _ t12 wr => ∃ j c : Nat, t12 = .int .i64 j ∧ t1 = .int .i64 c ∧ j ≤ l.length ∧ k = l.length - j ∧ c ≤ 65 ∧ Hid (R = cntL (l.drop j) c) ∧ Hid (Upd [] w wr))
  case atStart => exact ⟨0, m + 1, rfl, by go_num, by omega, rfl, by omega, Lib.hid (by simpa using hc.out), Lib.hid ((Upd.refl _ _).alloc _)⟩
  case round =>
    obtain ⟨j, c, rfl, rfl, hj, rfl, hc65, hR, HU⟩ := hrel
    by_cases hjl : j < l.length
    · have hlt : (j : Int) < (l.length : Int) := by omega
      obtain ⟨b, off, rfl, hf⟩ := H3.out j hjl
      have hf2 := hf.keep HU.out
      obtain ⟨c0, c1, c2, c3⟩ := hf2.1
      have hsh : ∃ a c, l[j].av = .slice a l[j].kids.list.length c := by
        obtain ⟨a', c', e', -⟩ := hf2.2
        exact ⟨a', c', e'⟩
      by_cases h64 : 64 < c
      · have hRc : Hid (R = c) := Lib.hid (by rw [hR.out]; exact cntL_stop _ _ h64)
        have hgt : (64 : Int) < (c : Int) := by omega
        clear hf hf2
        generalize l[j] = y at *
        obtain ⟨ya, yc, hyv⟩ := hsh
        obtain ⟨ykd, yn, ys, yav, ykids⟩ := y
        dsimp only at hyv c0 c1 c2 c3
        subst hyv
        go_wp2_with fail
        go_ret
        exact ⟨by rw [hRc.out]; rfl, HU.out.alloc _⟩
      · have hgt : ¬ (64 : Int) < (c : Int) := by omega
        have hst : Hid (R = cntL (l.drop (j + 1)) (cntX l[j] c)) := Lib.hid (by rw [hR.out]; exact cntL_drop l c j hjl (by omega))
        have hcall := HI.out l[j] (List.getElem_mem hjl) c (wr.alloc (.cells #[.int .i64 l[j].kd, .int .i64 l[j].n, .string l[j].s, l[j].av] 54)) (by omega) (hf2.2.keep ((Upd.refl [] wr).alloc _))
        have hle := cntX_le l[j] c (by omega)
        have HC := Lib.hid hcall
        clear hcall hf hf2
        generalize hy : l[j] = y at *
        clear hy
        obtain ⟨ya, yc, hyv⟩ := hsh
        obtain ⟨ykd, yn, ys, yav, ykids⟩ := y
        dsimp only at hyv c0 c1 c2 c3 HC
        subst hyv
        generalize cntX ⟨ykd, yn, ys, .slice ya ykids.list.length yc, ykids⟩ c = c2' at *
        go_wp2_with fail
        refine HC.out.mono ?_
        rintro e w2 ⟨rfl, hu⟩
        have HU2 := Lib.hid ((HU.out.alloc _).trans hu)
        clear hu HC
        go_wp2_with fail
        go_roundg (l.length - (j + 1))
        case measure => omega
        case rel => exact ⟨j + 1, c2', by go_num, rfl, by omega, rfl, hle, hst, HU2⟩
    · have hlt : ¬ (j : Int) < (l.length : Int) := by omega
      have hRc : Hid (R = c) := Lib.hid (by rw [hR.out, List.drop_eq_nil_of_le (by omega)]; rfl)
      go_wp2_with fail
      go_ret
      exact ⟨by rw [hRc.out]; rfl, HU.out⟩
end Go.Proofs.YtajppgngoffonaaGreatDoor

namespace Go.Proofs.YtajppgngoffonaaGreatDoor
open Go.RowKit

set_option maxRecDepth 100000 in
set_option maxHeartbeats 800000 in
theorem idxX_ok (g : Nat) (lb : Array Value) (p : Xp → Bool) (eg : ∀ args w, (callFunc g args).run Tryz.prog w = .ok (.enter g args) w) (v : Value) (l : List Xp) (w : World) (h : SlAt 4 XpAt w v l)
    (hp : ∀ (W : World) (x : Xp), x ∈ l → Upd [] w W → Calls Tryz.prog g (#[aggX x] ++ lb) W fun e w' => e = .returned (.bool (p x)) ∧ Upd [] w w') :
    Calls Tryz.prog 132 #[v, .func (.func g) #[] lb] w fun e w' => e = .returned (.int .i64 (idxF p l)) ∧ Upd [] w w' := by
  have HP := Lib.hid hp
  obtain ⟨a, cap, rfl, h1, h2, h3⟩ := h
  have H3 := Lib.hid h3
  clear h3 hp
  unfold maxLen at h2
  go_enter Tryz.func132, Tryz.ntmps132
  go_wp2_with fail
  go_loopg [5, 8] l.length (fun n _ i wr => ∃ j : Nat, i = .int .i64 j ∧ j ≤ l.length ∧ n = l.length - j ∧ Hid (∀ i (hi : i < j) (hl : i < l.length), p l[i] = false) ∧ Hid (Upd [] w wr))
  case atStart => exact ⟨0, rfl, by omega, rfl, Lib.hid (fun i hi => by omega), Lib.hid (Upd.refl _ _)⟩
  case round =>
    obtain ⟨j, rfl, hj, rfl, hA, HU⟩ := hrel
    by_cases hjl : j < l.length
    · have hlt : (j : Int) < (l.length : Int) := by omega
      obtain ⟨b, off, rfl, hf⟩ := H3.out j hjl
      obtain ⟨c0, c1, c2, c3⟩ := (hf.keep HU.out).1
      have hcall := HP.out wr l[j] (List.getElem_mem hjl) HU.out
      clear hf
      cases hq : p l[j] with
      | true =>
        have hres : Hid (idxF p l = j) := Lib.hid (idxF_some hjl hq (fun i hi => hA.out i hi (by omega)))
        rw [hq] at hcall
        clear hq
        generalize l[j] = x at *
        go_wp2_with (go_at_fn g; refine hcall.mono ?_; rintro e w' ⟨rfl, hu'⟩)
        go_ret
        exact ⟨by rw [hres.out]; rfl, hu'⟩
      | false =>
        have hA2 : Hid (∀ i (hi : i < j + 1) (hl : i < l.length), p l[i] = false) := Lib.hid (fun i hi hl => by
          rcases Nat.lt_or_ge i j with h | h
          · exact hA.out i h hl
          · have : i = j := by omega
            subst this; exact hq)
        rw [hq] at hcall
        clear hq
        generalize l[j] = x at *
        go_wp2_with (go_at_fn g; refine hcall.mono ?_; rintro e w' ⟨rfl, hu'⟩)
        go_roundg (l.length - (j + 1))
        case measure => omega
        case rel => exact ⟨j + 1, by go_num, by omega, rfl, hA2, Lib.hid hu'⟩
    · have hlt : ¬ (j : Int) < (l.length : Int) := by omega
      have hres : Hid (idxF p l = -1) := Lib.hid (idxF_none (fun i hi => hA.out i (by omega) hi))
      go_wp2_with fail
      go_ret
      exact ⟨by rw [hres.out]; rfl, HU.out⟩

set_option maxRecDepth 100000 in
theorem conX_ok (g : Nat) (lb : Array Value) (p : Xp → Bool) (eg : ∀ args w, (callFunc g args).run Tryz.prog w = .ok (.enter g args) w) (v : Value) (l : List Xp) (w : World) (h : SlAt 4 XpAt w v l)
    (hp : ∀ (W : World) (x : Xp), x ∈ l → Upd [] w W → Calls Tryz.prog g (#[aggX x] ++ lb) W fun e w' => e = .returned (.bool (p x)) ∧ Upd [] w w') :
    Calls Tryz.prog 93 #[v, .func (.func g) #[] lb] w fun e w' => e = .returned (.bool (l.any p)) ∧ Upd [] w w' := by
  have HC := Lib.hid (idxX_ok g lb p eg v l w h hp)
  obtain ⟨a, cap, rfl, -, -, -⟩ := h
  clear hp
  rcases idxF_cases p l with ⟨h1, h2⟩ | ⟨i, hi, h1, h2, -⟩
  · have hr : l.any p = false := by
      rw [List.any_eq_false]
      intro x hx
      simp [h2 x hx]
    rw [hr]
    rw [h1] at HC
    clear h1 h2 hr
    go_enter Tryz.func93, Tryz.ntmps93
    go_wp2_with fail
    refine HC.out.mono ?_
    rintro e w' ⟨rfl, hu⟩
    have HU := Lib.hid hu
    clear hu
    go_wp2_with fail
    go_ret
    exact ⟨rfl, HU.out⟩
  · have hr : l.any p = true := List.any_eq_true.2 ⟨l[i], List.getElem_mem hi, h2⟩
    rw [hr]
    rw [h1] at HC
    clear h1 h2 hr
    go_enter Tryz.func93, Tryz.ntmps93
    go_wp2_with fail
    refine HC.out.mono ?_
    rintro e w' ⟨rfl, hu⟩
    have HU := Lib.hid hu
    clear hu
    go_wp2_with fail
    go_ret
    exact ⟨rfl, HU.out⟩

end Go.Proofs.YtajppgngoffonaaGreatDoor

namespace Go.Proofs.YtajppgngoffonaaGreatDoor
open Go.RowKit

abbrev boxX (x : Xp) : Obj := .cells #[.int .i64 x.kd, .int .i64 x.n, .string x.s, x.av] 54

theorem ExAt.kids {w : World} {v : Value} {l : List Xp} (h : ExAt w v l) {y : Xp} (hy : y ∈ l) : KidsAt w y.av y.kids := by
  obtain ⟨i, hi, rfl⟩ := List.mem_iff_getElem.1 hy
  obtain ⟨a, cap, -, -, -, h3⟩ := h
  obtain ⟨b, off, -, hx⟩ := h3 i hi
  exact hx.2

theorem KidsAt.isSlice {w : World} {v : Value} {f : Ex} (h : KidsAt w v f) : ∃ a c, v = .slice a f.list.length c := by
  obtain ⟨a', c', e', -⟩ := h
  exact ⟨a', c', e'⟩

set_option maxRecDepth 100000 in
theorem formed1_ok (y : Xp) (h : ∀ w, KidsAt w y.av y.kids → Calls Tryz.prog 65 #[aggX y] w fun e w' => e = .returned (.bool (formX y)) ∧ Upd [] w w') (W : World) (hk : KidsAt W y.av y.kids) :
    Calls Tryz.prog 111 #[aggX y] W fun e w' => e = .returned (.bool (!formX y)) ∧ Upd [] W w' := by
  have HC := Lib.hid (h (W.alloc (boxX y)) (hk.keep ((Upd.refl [] W).alloc _)))
  obtain ⟨a, c, hs⟩ := hk.isSlice
  obtain ⟨kd, n, s, av, kids⟩ := y
  dsimp only at hs
  subst hs
  clear h hk
  generalize formX ⟨kd, n, s, .slice a kids.list.length c, kids⟩ = R at *
  go_enter Tryz.func111, Tryz.ntmps111
  go_wp2_with fail
  refine HC.out.mono ?_
  rintro e w1 ⟨rfl, hu⟩
  have HU : Hid (Upd [] W w1) := Lib.hid (((Upd.refl [] W).alloc _).trans hu)
  clear hu HC
  go_wp2_with fail
  go_ret
  exact ⟨rfl, HU.out⟩

theorem entersFormed1 : ∀ args w, (callFunc 111 args).run Tryz.prog w = .ok (.enter 111 args) w := enters_of Tryz.func111 (by kernel_rfl) rfl

set_option maxRecDepth 100000 in
set_option maxHeartbeats 1000000 in
theorem formed_ok : ∀ (x : Xp) (w : World), KidsAt w x.av x.kids →
    Calls Tryz.prog 65 #[aggX x] w fun e w' => e = .returned (.bool (formX x)) ∧ Upd [] w w' := by
  refine Ex.ind fun x ih w hk => ?_
  obtain ⟨kd, n, s, av, kids⟩ := x
  dsimp only at ih hk
  have hkl := (kidsAt_iff _ _ _).1 hk
  have HC : Hid (∀ W, Upd [] w W → Calls Tryz.prog 93 #[av, .func (.func 111) #[] #[]] W fun e w' => e = .returned (.bool (kids.list.any fun y => !formX y)) ∧ Upd [] W w') :=
    Lib.hid fun W u => conX_ok _ #[] (fun y => !formX y) entersFormed1 av kids.list W (hkl.keep u) fun W' y hy u' =>
      (formed1_ok y (fun w' hk' => ih y hy w' hk') W' ((hkl.keep (u.trans u')).kids hy)).mono fun e w' h => ⟨h.1, u'.trans h.2⟩
  have hR : Hid (formX ⟨kd, n, s, av, kids⟩ = (decide ((kids.list.length : Int) = arityN kd) && !(kids.list.any fun y => !formX y))) := Lib.hid (by
    rw [formX_eq]
    congr 1
    rw [List.all_eq_not_any_not])
  obtain ⟨a, c, hs⟩ := hk.isSlice
  subst hs
  generalize formX ⟨kd, n, s, .slice a kids.list.length c, kids⟩ = R at *
  clear ih hkl
  generalize (kids.list.any fun y => !formX y) = A at *
  have HA := Lib.hid (fun W => arity_ok kd W)
  by_cases hq : (kids.list.length : Int) = arityN kd
  · have hR2 : Hid (R = !A) := Lib.hid (by rw [hR.out, decide_eq_true hq]; rfl)
    generalize arityN kd = N at *
    have hqb : ((kids.list.length : Int) == N) = true := by simpa using hq
    clear hR hk hq
    have hu0 : Hid (Upd [] w (w.alloc (boxX ⟨kd, n, s, .slice a kids.list.length c, kids⟩))) := Lib.hid ((Upd.refl [] w).alloc _)
    have hb0 : (w.alloc (boxX ⟨kd, n, s, .slice a kids.list.length c, kids⟩)).heap[w.heap.size]? = some (boxX ⟨kd, n, s, .slice a kids.list.length c, kids⟩) := by rw [heap_alloc, if_pos rfl]
    go_enter Tryz.func65, Tryz.ntmps65
    go_upto_region 1 with (fail)
    change Code.wp _ _ _ _ (w.alloc (boxX ⟨kd, n, s, .slice a kids.list.length c, kids⟩))
    generalize (w.alloc (boxX ⟨kd, n, s, .slice a kids.list.length c, kids⟩)) = W at *
    have c0 : W.cell? ⟨w.heap.size, 0, none⟩ = some (.int .i64 kd) := cell_blk hb0 0
    have c3 : W.cell? ⟨w.heap.size, 3, none⟩ = some (.slice a kids.list.length c) := cell_blk hb0 3
    clear hb0
    generalize w.heap.size = B at *
    go_region_held3 (fun w' => w'.cell? ⟨B, 0, none⟩ = some (.int .i64 kd) ∧ w'.cell? ⟨B, 3, none⟩ = some (.slice a kids.list.length c))
      (first | go_keep | exact ⟨cell_keep hu1 (by exact c0), cell_keep hu1 (by exact c3)⟩)
      (first
        | (go_at_call 93; refine (HC.out _ (by exact hu0.out.alike ⟨rfl, rfl, rfl⟩)).mono ?_; rintro e w1 ⟨rfl, hu1⟩)
        | (go_at_call 110; refine (HA.out _).mono ?_; rintro e w2 ⟨rfl, rfl⟩))
    have HU : Hid (Upd [] w w1) := Lib.hid (hu0.out.drew.trans hu1)
    clear hu1
    go_wp2_with fail
    go_ret
    exact ⟨by rw [hR2.out]; rfl, HU.out⟩
  · have hR2 : Hid (R = false) := Lib.hid (by rw [hR.out, decide_eq_false hq]; rfl)
    generalize arityN kd = N at *
    have hqb : ((kids.list.length : Int) == N) = false := by simpa using hq
    clear hR hk hq
    have hu0 : Hid (Upd [] w (w.alloc (boxX ⟨kd, n, s, .slice a kids.list.length c, kids⟩))) := Lib.hid ((Upd.refl [] w).alloc _)
    have hb0 : (w.alloc (boxX ⟨kd, n, s, .slice a kids.list.length c, kids⟩)).heap[w.heap.size]? = some (boxX ⟨kd, n, s, .slice a kids.list.length c, kids⟩) := by rw [heap_alloc, if_pos rfl]
    go_enter Tryz.func65, Tryz.ntmps65
    go_upto_region 1 with (fail)
    change Code.wp _ _ _ _ (w.alloc (boxX ⟨kd, n, s, .slice a kids.list.length c, kids⟩))
    generalize (w.alloc (boxX ⟨kd, n, s, .slice a kids.list.length c, kids⟩)) = W at *
    have c0 : W.cell? ⟨w.heap.size, 0, none⟩ = some (.int .i64 kd) := cell_blk hb0 0
    have c3 : W.cell? ⟨w.heap.size, 3, none⟩ = some (.slice a kids.list.length c) := cell_blk hb0 3
    clear hb0
    generalize w.heap.size = B at *
    go_quiet (first | (go_at_call 110; refine Calls.quiet_of_same (HA.out _)))
    go_wp2_with fail
    go_ret
    exact ⟨by rw [hR2.out]; rfl, by exact hu0.out.alike ⟨rfl, rfl, rfl⟩⟩
end Go.Proofs.YtajppgngoffonaaGreatDoor
