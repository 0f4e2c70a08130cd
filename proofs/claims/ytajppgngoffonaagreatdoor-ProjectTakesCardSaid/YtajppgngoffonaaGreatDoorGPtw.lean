/- ProjectTakes returns true, in whatever memory. -/
import Derived.Test.YtajppgngoffonaaGreatDoorGPaw
import Derived.Test.YtajppgngoffonaaGreatDoorGPdt
import Derived.Test.YtajppgngoffonaaGreatDoorGPrs
import Derived.Test.YtajppgngoffonaaGreatDoorGPr
import Derived.Test.YtajppgngoffonaaGreatDoorGPt
import Derived.Test.YtajppgngoffonaaGreatDoorGPck
namespace Go.Proofs.YtajppgngoffonaaGreatDoor
open Go.RowKit

theorem held8 {W W' : World} {b b' o' : Nat} {v1 v2 v3 v4 v5 v6 v7 v8 : Value} (u : Upd [] W W')
    (h : W.cell? ⟨b, 0, none⟩ = some v1 ∧ W.cell? ⟨b, 1, none⟩ = some v2 ∧ W.cell? ⟨b', o', none⟩ = some v3 ∧ W.cell? ⟨b', o' + 1, none⟩ = some v4 ∧ W.cell? ⟨b', o' + 2, none⟩ = some v5 ∧ W.cell? ⟨b', o' + 3, none⟩ = some v6 ∧ W.cell? ⟨b', o' + 4, none⟩ = some v7 ∧ W.cell? ⟨b', o' + 5, none⟩ = some v8) :
    W'.cell? ⟨b, 0, none⟩ = some v1 ∧ W'.cell? ⟨b, 1, none⟩ = some v2 ∧ W'.cell? ⟨b', o', none⟩ = some v3 ∧ W'.cell? ⟨b', o' + 1, none⟩ = some v4 ∧ W'.cell? ⟨b', o' + 2, none⟩ = some v5 ∧ W'.cell? ⟨b', o' + 3, none⟩ = some v6 ∧ W'.cell? ⟨b', o' + 4, none⟩ = some v7 ∧ W'.cell? ⟨b', o' + 5, none⟩ = some v8 :=
  ⟨cell_keep u h.1, cell_keep u h.2.1, cell_keep u h.2.2.1, cell_keep u h.2.2.2.1, cell_keep u h.2.2.2.2.1, cell_keep u h.2.2.2.2.2.1, cell_keep u h.2.2.2.2.2.2.1, cell_keep u h.2.2.2.2.2.2.2⟩

theorem ViewAt.next0 {W0 w w' : World} {vb mb : Nat} {nm : ByteArray} {sv lv : Value} {sums : List Sm} {us : List U.Up} {cur : Int} {L : List Rw} (h : ViewAt W0 w vb mb nm sv lv sums us cur L) (u : Upd [] w w') : ViewAt W0 w' vb mb nm sv lv sums us cur L :=
  ⟨h.v0, h.m0, h.ne, h.upd.trans u, h.sums, h.ups, (u.block vb (lt_of_blk h.box) (by simp)).trans h.box, h.rows.upd u (by simp), h.good⟩

theorem like_entry {sums sums' : List Sm} {us us' : List U.Up} (hls : sums'.length = sums.length) (hS : ∀ i (h : i < sums.length) (h' : i < sums'.length), LikeS sums[i] sums'[i]) (hlu : us'.length = us.length) (hU : ∀ i (h : i < us.length) (h' : i < us'.length), LikeU us[i] us'[i]) (L : List Rw) (e : Nt) :
    entryR us' sums' L e = entryR us sums L e := by
  unfold entryR
  rw [like_apply hlu (fun i h => hU i h (by omega))]
  exact like_take hls (fun i h => hS i h (by omega)) L

theorem like_fits {sums sums' : List Sm} (hls : sums'.length = sums.length) (hS : ∀ i (h : i < sums.length) (h' : i < sums'.length), LikeS sums[i] sums'[i]) (h : ∀ s ∈ sums, FitS s) : ∀ s ∈ sums', FitS s := fun s hs => by
  obtain ⟨i, hi, rfl⟩ := List.mem_iff_getElem.1 hs
  exact like_fitS (hS i (by omega) hi) (h _ (List.getElem_mem _))
theorem like_oks {us us' : List U.Up} (hlu : us'.length = us.length) (hU : ∀ i (h : i < us.length) (h' : i < us'.length), LikeU us[i] us'[i]) (h : ∀ u ∈ us, ∀ c ∈ u.ch, OkF c.f) : ∀ u ∈ us', ∀ c ∈ u.ch, OkF c.f := fun u hu => by
  obtain ⟨i, hi, rfl⟩ := List.mem_iff_getElem.1 hu
  rw [(hU i (by omega) hi).2.2]
  exact h _ (List.getElem_mem _)

theorem RwOwn.sl {w : World} {base : Nat} {v : Value} {L : List Rw} (h : RwOwn w base v L) : SlAt 2 (CellsAt cellsR) w v L := by
  obtain ⟨a, c, hv, h1, h2, h3⟩ := h
  refine ⟨a, c, hv, h1, h2, fun i hi => ?_⟩
  obtain ⟨g, e, -, -, hc⟩ := h3 i hi
  exact ⟨g, 0, e, by rw [Nat.zero_add]; exact hc⟩

theorem cell_far {w : World} {b o o' : Nat} {v : Value} (h : o ≠ o') : (w.setCell ⟨b, o, none⟩ v).cell? ⟨b, o', none⟩ = w.cell? ⟨b, o', none⟩ := World.cell?_setCell_other _ _ _ _ (by simp [h])
theorem cell_near {w : World} {b o : Nat} {u v : Value} (h : w.cell? ⟨b, o, none⟩ = some u) : (w.setCell ⟨b, o, none⟩ v).cell? ⟨b, o, none⟩ = some v := World.cell?_setCell_same _ _ _ h

/-- Rows that may be written, whatever they are. -/
def Wr (w : World) (a : Option Addr) (base n : Nat) : Prop := ∀ i, i < n → ∃ g, a = some ⟨g, 0, none⟩ ∧ base ≤ g ∧ (∃ k m, w.cell? ⟨g, i * 2, none⟩ = some (.string k) ∧ w.cell? ⟨g, i * 2 + 1, none⟩ = some (.int .i64 m)) ∧ w.frozen? ⟨g, i * 2, none⟩ = false ∧ w.frozen? ⟨g, i * 2 + 1, none⟩ = false

theorem RwOwn.wr {w : World} {base : Nat} {a : Option Addr} {n c : Nat} {L : List Rw} (h : RwOwn w base (.slice a n c) L) : Wr w a base L.length := by
  obtain ⟨a', c', hv, -, -, h3⟩ := h
  simp only [Value.slice.injEq] at hv
  obtain ⟨rfl, -, -⟩ := hv
  intro i hi
  obtain ⟨g, e, hb, hf, hc⟩ := h3 i hi
  exact ⟨g, e, hb, ⟨_, _, cells_two.1 hc⟩, hf 0 (by omega), hf 1 (by omega)⟩

theorem Wr.step {w : World} {g base n i : Nat} (h : Wr w (some ⟨g, 0, none⟩) base n) (hi : i < n) (s : ByteArray) (m : Int) : Wr ((w.setCell ⟨g, i * 2, none⟩ (.string s)).setCell ⟨g, i * 2 + 1, none⟩ (.int .i64 m)) (some ⟨g, 0, none⟩) base n := by
  intro j hj
  obtain ⟨g', e, hb, ⟨k, m', c0, c1⟩, f0, f1⟩ := h j hj
  simp only [Option.some.injEq, Addr.mk.injEq, and_true] at e
  subst e
  refine ⟨g, rfl, hb, ?_, by simpa using f0, by simpa using f1⟩
  by_cases hij : j = i
  · subst hij
    refine ⟨s, m, ?_, ?_⟩
    · rw [cell_far (by omega), cell_near c0]
    · exact cell_near (u := .int .i64 m') (by rw [cell_far (by omega)]; exact c1)
  · refine ⟨k, m', ?_, ?_⟩
    · rw [cell_far (by omega), cell_far (by omega)]; exact c0
    · rw [cell_far (by omega), cell_far (by omega)]; exact c1

set_option maxRecDepth 100000 in
set_option maxHeartbeats 4000000 in
theorem takes_walk (nm : ByteArray) (sv lv ev : Value) (key : ByteArray) (sums : List Sm) (us : List U.Up) (es : List Nt) (w : World) (hT : Tab w) (hn : nm.size ≤ 140737488355328) (hs : SumsAt w sv sums) (hfs : ∀ s ∈ sums, FitS s) (hsl : sums.length * 128 ≤ 140737488355328)
    (hu : U.UpsAt w lv us) (hfu : ∀ u ∈ us, ∀ c ∈ u.ch, OkF c.f) (hul : us.length * 48 ≤ 140737488355328) (huc : ∀ u ∈ us, u.ch.length * 88 ≤ 140737488355328) (he : NtsAt w ev es) (hfe : ∀ e ∈ es, FitNt e) (hel : es.length * 80 ≤ 140737488355328) (hk : key.size ≤ maxLen) :
    Calls Tryz.prog 3 #[.agg #[.string nm, sv], lv, ev, .string key] w fun e w' => e = .returned (.bool true) ∧ Upd [] w w' := by
  have HA := Lib.hid (fun (W : World) (u : Upd [] w W) => awake_ok W (hT.upd u))
  have HN := Lib.hid (fun (W : World) (u : Upd [] w W) => new_walk nm sv lv sums us W (SumsAt.keep u hs) (hu.keep u) hsl hul huc)
  have HC1 := Lib.hid (fun (W : World) (u : Upd [] w W) => pcheck_ok nm sv sums W hn (SumsAt.keep u hs) hfs)
  have HC2 := Lib.hid (fun (W : World) (u : Upd [] w W) => refPcheck_ok nm sv sums W hn (SumsAt.keep u hs) hfs)
  have HS := Lib.hid (fun (W : World) (u : Upd [] w W) => And.intro (SumsAt.keep u hs) (hu.keep u))
  have HE := Lib.hid (fun (W : World) (u : Upd [] w W) => NtsAt.keep u he)
  have HF := Lib.hid (And.intro hfs (And.intro hfu (And.intro hul (And.intro hfe hT))))
  obtain ⟨sa, scap, hsv⟩ : ∃ a c, sv = .slice a sums.length c := by obtain ⟨a, c, h, -⟩ := hs; exact ⟨a, c, h⟩
  obtain ⟨la, lcap, hlv⟩ : ∃ a c, lv = .slice a us.length c := by obtain ⟨a, c, h, -⟩ := hu; exact ⟨a, c, h⟩
  obtain ⟨ea, ecap, hev, he1, he2, -⟩ := he
  unfold maxLen at he2
  subst hsv hlv hev
  clear hT hs hfs hu hfu hul huc hfe
  go_enter Tryz.func3, Tryz.ntmps3
  go_wp2_with fail
  have ub : Upd [] w (w.alloc (boxPr nm (.slice sa sums.length scap))) := (Upd.refl [] w).alloc _
  refine (HA.out _ ub).mono ?_
  rintro e w1 ⟨rfl, hu1⟩
  have hp1 := (hu1.block w.heap.size (by simp) (by simp)).trans (heap_top w (boxPr nm (.slice sa sums.length scap)))
  have hU1 := ub.trans hu1
  have p0 : w1.cell? ⟨w.heap.size, 0, none⟩ = some (.string nm) := cell_blk hp1 0
  have p1 : w1.cell? ⟨w.heap.size, 1, none⟩ = some (.slice sa sums.length scap) := cell_blk hp1 1
  have H1 := Lib.hid (And.intro hU1 hp1)
  clear hu1 hp1 hU1 ub HA
  go_wp2_with fail
  refine (HN.out _ H1.out.1).mono ?_
  rintro e w2 ⟨W0, vb, mb, sv', lv', sums', us', rfl, hv2, hls, hS, hlu, hU, hu2, hu0⟩
  have hp2 := (hu2.block w.heap.size (lt_of_blk H1.out.2) (by simp)).trans H1.out.2
  have H2 := Lib.hid (And.intro (H1.out.1.trans hu2) hp2)
  have HV := Lib.hid hv2
  have HU0 := Lib.hid (H1.out.1.trans hu0)
  have HL := Lib.hid (And.intro hls (And.intro hS (And.intro hlu hU)))
  have hvb := lt_of_blk hv2.box
  have hpW : w.heap.size < W0.heap.size := Nat.lt_of_lt_of_le (lt_of_blk H1.out.2) hu0.size
  clear hv2 hu2 hp2 hu0 hls hS hlu hU p0 p1 HN H1
  go_wp2_with fail
  have hmb : mb < w2.heap.size := HV.out.rows.lt
  have hv0 := HV.out.v0
  have hm0 := HV.out.m0
  have HFS := Lib.hid (like_fits HL.out.1 HL.out.2.1 HF.out.1)
  have HFU := Lib.hid (like_oks HL.out.2.2.1 HL.out.2.2.2 HF.out.2.1)
  have HLE := Lib.hid (fun L e => like_entry HL.out.1 HL.out.2.1 HL.out.2.2.1 HL.out.2.2.2 L e)
  have hlu := HL.out.2.2.1
  have HE0 := Lib.hid (HE.out w (Upd.refl [] w))
  have hul := HF.out.2.2.1
  have HT0 : Hid (Tab W0) := Lib.hid (HF.out.2.2.2.2.upd HU0.out)
  go_loopg [11, 12, 13] es.length (fun k v c i wr => ∃ (j cu : Nat) (L : List Rw), i = .int .i64 j ∧ c = .int .i64 cu ∧ j ≤ es.length ∧ cu ≤ j ∧ k = es.length - j ∧ Hid (Upd [] w wr) ∧ Hid (w2.heap.size ≤ wr.heap.size) ∧ Hid (wr.heap[w.heap.size]? = some (boxPr nm (.slice sa sums.length scap))) ∧ Hid (ViewAt W0 wr vb mb nm sv' lv' sums' us' cu L) ∧ Hid (RwIn wr w2.heap.size v L))
  case atStart => exact ⟨0, 0, [], rfl, rfl, by omega, by omega, rfl, Lib.hid H2.out.1, Lib.hid (Nat.le_refl _), Lib.hid H2.out.2, HV, Lib.hid (RwIn.nil _ _)⟩
  case round =>
    obtain ⟨j, cu, L, rfl, rfl, hj, hcu, rfl, HUr, HZr, HPr, HVr, HRr⟩ := hrel
    have hvs := HRr.out.1
    obtain ⟨ra, rcap, hrv, -, -, -⟩ := hvs
    subst hrv
    by_cases hjl : j < es.length
    · have hlt : (j : Int) < (es.length : Int) := by omega
      obtain ⟨a', cap', hv', -, -, h3⟩ := HE0.out
      simp only [Value.slice.injEq] at hv'
      obtain ⟨rfl, -, rfl⟩ := hv'
      obtain ⟨b, off, rfl, hc, hr⟩ := h3 j hjl
      have hft := HF.out.2.2.2.1 es[j] (List.getElem_mem hjl)
      have hbl : b < w.heap.size := World.block_lt_of_cell? _ _ (hc 0 _ rfl)
      have c0 : wr.cell? ⟨b, off + j * 6, none⟩ = some (.int .i64 es[j].pos) := cell_keep HUr.out (hc 0 _ rfl)
      have c1 : wr.cell? ⟨b, off + j * 6 + 1, none⟩ = some (.string es[j].st) := cell_keep HUr.out (hc 1 _ rfl)
      have c2 : wr.cell? ⟨b, off + j * 6 + 2, none⟩ = some (.int .i64 es[j].num) := cell_keep HUr.out (hc 2 _ rfl)
      have c3 : wr.cell? ⟨b, off + j * 6 + 3, none⟩ = some (.string es[j].ty) := cell_keep HUr.out (hc 3 _ rfl)
      have c4 : wr.cell? ⟨b, off + j * 6 + 4, none⟩ = some (.int .i64 es[j].ver) := cell_keep HUr.out (hc 4 _ rfl)
      have c5 : wr.cell? ⟨b, off + j * 6 + 5, none⟩ = some (es[j].fv) := cell_keep HUr.out (hc 5 _ rfl)
      have HRE := Lib.hid (And.intro hr hft)
      obtain ⟨fa, fcap, hfv, -, -⟩ := hr.isSlice
      clear h3 hc hr hft
      generalize es[j] = e at *
      by_cases hpos : e.pos = (cu : Int)
      · have HTK := Lib.hid (take_on HVr.out e (by omega) hpos (HRE.out.1.keep HUr.out) HRE.out.2 HFS.out HFU.out (by omega) HT0.out)
        have hst := HLE.out L e
        have hentry : Hid (entryR us' sums' L e = entryR us sums L e) := Lib.hid hst
        clear hst
        have HDT := Lib.hid (fun (V : World) (u : Upd [] w V) (hz : w2.heap.size ≤ V.heap.size) (h : RwIn V w2.heap.size (.slice ra L.length rcap) L) => refTake_ok w2.heap.size (.slice ra L.length rcap) L nm (.slice sa sums.length scap) (.slice la us.length lcap) sums us e V h HVr.out.good hz (HS.out V u).1 (HS.out V u).2 (HRE.out.1.keep u) HRE.out.2 HF.out.1 HF.out.2.1 (by omega) (HF.out.2.2.2.2.upd u))
        obtain ⟨pos, st, num, ty, ver, fv, fs⟩ := e
        dsimp only at c0 c1 c2 c3 c4 c5 hfv hpos
        subst hfv hpos
        go_wp2_with fail
        refine HTK.out.mono ?_
        rintro E w5 ⟨rfl, hu5, hv5⟩
        have hbr : b < wr.heap.size := World.block_lt_of_cell? _ _ c0
        have hk5 : ∀ o x, wr.cell? ⟨b, o, none⟩ = some x → w5.cell? ⟨b, o, none⟩ = some x := fun o x h => (World.cell?_of_block (hu5.block b hbr (by simp; omega))).trans h
        replace c0 := hk5 _ _ c0
        replace c1 := hk5 _ _ c1
        replace c2 := hk5 _ _ c2
        replace c3 := hk5 _ _ c3
        replace c4 := hk5 _ _ c4
        replace c5 := hk5 _ _ c5
        have hp5 := (hu5.block w.heap.size (lt_of_blk HPr.out) (by simp; omega)).trans HPr.out
        have p0 : w5.cell? ⟨w.heap.size, 0, none⟩ = some (.string nm) := cell_blk hp5 0
        have p1 : w5.cell? ⟨w.heap.size, 1, none⟩ = some (.slice sa sums.length scap) := cell_blk hp5 1
        have HUw5 : Hid (Upd [] w w5) := Lib.hid (HUr.out.next hu5 (fun k hk hlt => by simp at hk; omega))
        have HR5 := Lib.hid (HRr.out.upd hu5 (fun k hk => by simp at hk; omega))
        have HZ5 := Lib.hid (Nat.le_trans HZr.out hu5.size)
        have HP5 := Lib.hid hp5
        have HV5 := Lib.hid hv5
        have HD := Lib.hid (fun (V : World) (u : Upd [] w5 V) => HDT.out V (HUw5.out.trans u) (Nat.le_trans HZ5.out u.size) (HR5.out.keep u))
        clear hu5 hv5 hk5 hbr hp5 HTK HDT
        go_wp2_with fail
        go_region_held3 (fun w' => w'.cell? ⟨w.heap.size, 0, none⟩ = some (.string nm) ∧ w'.cell? ⟨w.heap.size, 1, none⟩ = some (.slice sa sums.length scap) ∧ w'.cell? ⟨b, off + j * 6, none⟩ = some (.int .i64 cu) ∧ w'.cell? ⟨b, off + j * 6 + 1, none⟩ = some (.string st) ∧ w'.cell? ⟨b, off + j * 6 + 2, none⟩ = some (.int .i64 num) ∧ w'.cell? ⟨b, off + j * 6 + 3, none⟩ = some (.string ty) ∧ w'.cell? ⟨b, off + j * 6 + 4, none⟩ = some (.int .i64 ver) ∧ w'.cell? ⟨b, off + j * 6 + 5, none⟩ = some (.slice fa fs.length fcap))
          (first
            | (with_reducible exact held8 (Upd.refl [] w5).drew ⟨p0, p1, c0, c1, c2, c3, c4, c5⟩)
            | (with_reducible exact held8 hv6 ⟨p0, p1, c0, c1, c2, c3, c4, c5⟩))
          (first
            | (go_at_call 7; (with_reducible refine (HD.out _ ?_).mono ?_); (exact ⟨rfl, rfl, Nat.le_refl _, fun _ _ _ => rfl⟩); rintro e w6 ⟨v6, rfl, hr6, hu6⟩; have hv6 : Upd [] w5 w6 := ⟨hu6.os, hu6.output, hu6.size, hu6.block⟩))
        have H6 := Lib.hid (And.intro hr6 hv6)
        clear hr6 hu6 hv6 p0 p1 c0 c1 c2 c3 c4 c5
        go_wp2_with fail
        go_roundg (es.length - (j + 1))
        case measure => omega
        case rel => exact ⟨j + 1, cu + 1, _, by go_num, by go_num, by omega, by omega, rfl, Lib.hid (HUw5.out.trans H6.out.2), Lib.hid (Nat.le_trans HZ5.out H6.out.2.size), Lib.hid ((H6.out.2.block w.heap.size (lt_of_blk HP5.out) (by simp)).trans HP5.out), Lib.hid (HV5.out.next0 H6.out.2), Lib.hid (by rw [hentry.out]; exact H6.out.1)⟩
      · have HTK := Lib.hid (take_skip HVr.out e ⟨fa, _, fcap, hfv⟩ hpos)
        obtain ⟨pos, st, num, ty, ver, fv, fs⟩ := e
        dsimp only at c0 c1 c2 c3 c4 c5 hfv hpos
        subst hfv
        go_wp2_with fail
        refine HTK.out.mono ?_
        rintro E w5 ⟨rfl, hu5⟩
        replace c0 := cell_keep hu5 c0
        have HU5 := Lib.hid hu5
        clear hu5 c1 c2 c3 c4 c5 HTK
        go_wp2_with fail
        go_roundg (es.length - (j + 1))
        case measure => omega
        case rel => exact ⟨j + 1, cu, L, by go_num, rfl, by omega, by omega, rfl, Lib.hid (HUr.out.trans HU5.out), Lib.hid (Nat.le_trans HZr.out HU5.out.size), Lib.hid ((HU5.out.block w.heap.size (lt_of_blk HPr.out) (by simp)).trans HPr.out), Lib.hid (HVr.out.next0 HU5.out), Lib.hid (HRr.out.keep HU5.out)⟩
    · have hlt : ¬ (j : Int) < (es.length : Int) := by omega
      obtain ⟨wv, hwv⟩ : ∃ x, x = wr := ⟨_, rfl⟩
      subst hwv
      go_wp2_with fail
      refine (vrows_ok HVr.out).mono ?_
      rintro E w3 ⟨av, rfl, hr3, hu3⟩
      have HR3 := Lib.hid hr3
      have HU3 := Lib.hid hu3
      obtain ⟨aa, ac, hav, ha1, ha2, -⟩ := hr3
      subst hav
      unfold maxLen at ha2
      clear hu3
      go_wp2_with fail
      refine (refSame_ok (.slice aa L.length ac) (.slice ra L.length rcap) L L w3 HR3.out.sl (HRr.out.keep HU3.out).1).mono ?_
      rintro E w4 ⟨rfl, hu4⟩
      rewrite [sameR_iff.2 rfl]
      have HU4 := Lib.hid (HU3.out.trans hu4)
      have HW4 : Hid (Wr w4 aa wv.heap.size L.length) := Lib.hid (fun i hi => by
        obtain ⟨g, e, hb, ⟨k, m, c0, c1⟩, f0, f1⟩ := HR3.out.wr i hi
        have hq := (hu4.block g (World.block_lt_of_cell? _ _ c0) (by simp))
        exact ⟨g, e, hb, ⟨k, m, (World.cell?_of_block hq).trans c0, (World.cell?_of_block hq).trans c1⟩, (World.frozen?_of_block hq).trans f0, (World.frozen?_of_block hq).trans f1⟩)
      clear hu4
      go_wp2_with fail
      go_loopg [17] L.length (fun k i wr => ∃ n : Nat, i = .int .i64 n ∧ n ≤ L.length ∧ k = L.length - n ∧ Hid (Upd [] wv wr) ∧ Hid (Wr wr aa wv.heap.size L.length))
      case atStart => exact ⟨0, rfl, by omega, rfl, HU4, HW4⟩
      case round =>
        obtain ⟨n, rfl, hn2, rfl, HUq, HWq⟩ := hrel
        by_cases hnl : n < L.length
        · have hlt2 : (n : Int) < (L.length : Int) := by omega
          obtain ⟨g, hg, hgb, ⟨k, m, c0, c1⟩, f0, f1⟩ := HWq.out n hnl
          subst hg
          have f0' : wr.frozen? ⟨g, 0 + n * 2, none⟩ = false := by rw [Nat.zero_add]; exact f0
          go_wp2_with fail
          go_roundg (L.length - (n + 1))
          case measure => omega
          case rel => exact ⟨n + 1, by go_num, by omega, rfl, Lib.hid ((HUq.out.setCellNew hgb _ _).setCellNew hgb _ _), Lib.hid (HWq.out.step hnl _ _)⟩
        · have hlt2 : ¬ (n : Int) < (L.length : Int) := by omega
          go_wp2_with fail
          refine (vrows_ok (HVr.out.next0 HUq.out)).mono ?_
          rintro E w6 ⟨bv, rfl, hr6, hu6⟩
          have HR6 := Lib.hid hr6
          have HU6 := Lib.hid (HUq.out.trans hu6)
          obtain ⟨ba, bc, hbv, -, -, -⟩ := hr6
          subst hbv
          clear hu6
          go_wp2_with fail
          refine (refSame_ok (.slice ba L.length bc) (.slice ra L.length rcap) L L w6 HR6.out.sl (HRr.out.keep HU6.out).1).mono ?_
          rintro E w7 ⟨rfl, hu7⟩
          rewrite [sameR_iff.2 rfl]
          have HU7 := Lib.hid (HU6.out.trans hu7)
          clear hu7
          have HG1 := Lib.hid (vget_ok (HVr.out.next0 HU7.out) key hk)
          have HG2 := Lib.hid (refGet_ok' (.slice ra L.length rcap) L key w7 (HRr.out.keep HU7.out).1 HVr.out.good.srt)
          generalize (getR L key).getD 0 = gm at *
          generalize (getR L key).isSome = gt at *
          go_wp2_with fail
          refine HG1.out.mono ?_
          rintro E w8 ⟨rfl, rfl⟩
          go_wp2_with fail
          refine HG2.out.mono ?_
          rintro E w9 ⟨rfl, hu9⟩
          have HU9 := Lib.hid (HU7.out.trans hu9)
          have hp9 := (HU9.out.block w.heap.size (lt_of_blk HPr.out) (by simp)).trans HPr.out
          have p0 : w9.cell? ⟨w.heap.size, 0, none⟩ = some (.string nm) := cell_blk hp9 0
          have p1 : w9.cell? ⟨w.heap.size, 1, none⟩ = some (.slice sa sums.length scap) := cell_blk hp9 1
          have HP9 := Lib.hid hp9
          have HCU := Lib.hid (fun (V : World) (u : Upd [] w9 V) => vcursor_ok (HVr.out.next0 (HU9.out.trans u)))
          have HUw9 := Lib.hid (HUr.out.trans HU9.out)
          have HCA := Lib.hid (fun (V : World) (u : Upd [] w9 V) => HC1.out V (HUw9.out.trans u))
          have HCB := Lib.hid (fun (V : World) (u : Upd [] w9 V) => HC2.out V (HUw9.out.trans u))
          clear hu9 hp9 HG1 HG2 HC1 HC2
          generalize checkPj nm sums = ck at *
          go_wp2_with fail
          go_region_held3 (fun w' => w'.cell? ⟨w.heap.size, 0, none⟩ = some (.string nm) ∧ w'.cell? ⟨w.heap.size, 1, none⟩ = some (.slice sa sums.length scap))
            (first
              | (with_reducible exact ⟨cell_keep (Upd.refl [] w9).drew p0, cell_keep (Upd.refl [] w9).drew p1⟩)
              | (with_reducible exact ⟨cell_keep hv11 p0, cell_keep hv11 p1⟩)
              | (with_reducible exact ⟨cell_keep hv10 p0, cell_keep hv10 p1⟩))
            (first
              | (go_at_call 12; (with_reducible refine (HCU.out _ ?_).mono ?_); (exact ⟨rfl, rfl, Nat.le_refl _, fun _ _ _ => rfl⟩); rintro e w9' ⟨rfl, rfl⟩)
              | (go_at_call 13; (with_reducible refine (HCA.out _ ?_).mono ?_); (exact ⟨rfl, rfl, Nat.le_refl _, fun _ _ _ => rfl⟩); rintro e w10 ⟨rfl, hu10⟩; have hv10 : Upd [] w9 w10 := ⟨hu10.os, hu10.output, hu10.size, hu10.block⟩)
              | (go_at_call 14; (with_reducible refine (HCB.out _ ?_).mono ?_); (exact hv10); rintro e w11 ⟨rfl, hu11⟩; have hv11 : Upd [] w9 w11 := hv10.trans hu11))
          have H11 := Lib.hid (HUw9.out.trans hv11)
          go_wp2_with fail
          go_ret
          exact ⟨rfl, H11.out⟩
end Go.Proofs.YtajppgngoffonaaGreatDoor
