/- RulesApart, walked. -/
import Derived.Deep.RegionLaw
import Derived.Test.YtnokekoojmljaaaDoorGAw
import Derived.Test.YtnokekoojmljaaaDoorGSe
import Derived.Test.YtnokekoojmljaaaDoorGTn
namespace Go.Proofs.YtnokekoojmljaaaDoor
open Go.RowKit

/-- What a decision is, in parts. -/
def decK : Except Int Dcn → List (ByteArray × Int × List Fd)
  | .ok (.events l) => l.map fun e => (e.ty, 0, e.fs)
  | _ => []
def decR : Except Int Dcn → Bool
  | .ok (.refused _) => true
  | _ => false
def decS : Except Int Dcn → ByteArray
  | .ok (.refused s) => s
  | _ => eB
def decN : Except Int Dcn → Int
  | .error c => c
  | _ => 0

theorem dec_split {r : Except Int Dcn} {w : World} {e : Ending} {w' : World} (h : DecPost r w e w') :
    ∃ a m c l, e = .returned (decT (decR r) (decS r) (.slice a m c) (decN r)) ∧ EvsAt w' (.slice a m c) l ∧ l.map keyE = decK r ∧ Upd [] w w' := by
  have hn : ∀ W, EvsAt W (.slice none 0 0) [] := fun W => ⟨none, 0, rfl, Nat.le_refl _, by unfold maxLen; omega, fun i hi => absurd hi (by simp)⟩
  match r, h with
  | .error c, h => exact ⟨none, 0, 0, [], h.1, hn _, rfl, h.2⟩
  | .ok (.refused s), h => exact ⟨none, 0, 0, [], h.1, hn _, rfl, h.2⟩
  | .ok (.events l), h =>
    obtain ⟨v, h1, h2, h3⟩ := h
    obtain ⟨lv, e1, e2, -⟩ := evs_at h2
    obtain ⟨a, c, hv, -, -⟩ := e2.isSlice
    subst hv
    refine ⟨a, _, c, _, h1, e2, ?_, h3⟩
    rw [e1]
    simp [decK, keyE, evn, List.map_map, Function.comp_def]

theorem infoH : (Tryd.prog.info? 49).map (fun i => (i.zero, i.size, i.bytes)) = some (some (.agg #[.string ByteArray.empty, .slice none 0 0, .slice none 0 0]), 3, 64) := by kernel_rfl
theorem info_partsH : ∃ i, Tryd.prog.info? 49 = some i ∧ i.zero = some (.agg #[.string ByteArray.empty, .slice none 0 0, .slice none 0 0]) ∧ i.size = 3 ∧ i.bytes = 64 := info_parts infoH

/-- A row of one handler, appended to none. -/
theorem hdl_append {w : World} {B : Nat} (h : Hdl) (hB : w.heap[B]? = some (.cells #[.string h.cmd, h.nv, h.cv] 49 (0, 0))) (hn : NedsAt w h.nv h.needs) (hc : CsesAt w h.cv h.cases) :
    ∃ g c w', (Builtin.append_ #[23, 23] 23 #[.slice none 0 0, .slice (some ⟨B, 0, none⟩) 1 1]).run Tryd.prog w = .ok (.slice (some ⟨g, 0, none⟩) 1 c) w' ∧ HdlC w' g 0 h ∧ (1 ≤ c ∧ c ≤ maxLen ∧ w.heap.size ≤ g) ∧ Upd [] w w' := by
  obtain ⟨i0, hi0, hz0, hz1, hz2⟩ := info_partsH
  obtain ⟨na, nc, hnv, -, -⟩ := hn.isSlice
  obtain ⟨ca, cc, hcv, -, -⟩ := hc.isSlice
  obtain ⟨v', w', hrun, q2, q3, -⟩ := run_append_own_wide (P := Tryd.prog) w w.heap.size 23 23 49 i0 _ 3 64 Tryd.underlying23 hi0 hz0 hz1 hz2 rfl (by omega) (.slice none 0 0) 0 [] (World.ownsRow_nil _ _ _ _) ⟨B, 0, none⟩ 1 1 [.string h.cmd, h.nv, h.cv] rfl
    (fun j u hu => by
      match j, hu with
      | 0, hu => cases hu; exact cell_blk hB 0
      | 1, hu => cases hu; exact cell_blk hB 1
      | 2, hu => cases hu; exact cell_blk hB 2)
    (fun u hu => by
      rw [hnv, hcv] at hu
      simp only [List.mem_cons, List.not_mem_nil, or_false] at hu
      rcases hu with rfl | rfl | rfl <;> rfl)
    (by unfold maxLen; omega) (by omega) (Nat.le_refl _)
  have u : Upd [] w w' := (Upd.refl [] w).grown q3 (fun k hk => by cases hk)
  obtain ⟨h0, h2⟩ := q2
  rcases h2 with ⟨-, hn0⟩ | ⟨g, cap, cur, rfl, hg, hh, r1, r2, r3, r4⟩
  · cases hn0
  · have key : ∀ f, f < 3 → w'.cell? ⟨g, f, none⟩ = [.string h.cmd, h.nv, h.cv][f]? := fun f hf => by
      rw [cell_blk hh, ← Array.getElem?_toList]
      have := congrArg (fun l => l[f]?) r4
      simp only [List.getElem?_take_of_lt (show f < (0 + 1) * 3 by omega)] at this
      rw [this]
      rfl
    exact ⟨g, cap, w', hrun, ⟨key 0 (by omega), key 1 (by omega), key 2 (by omega)⟩, ⟨r1, r2, hg⟩, u⟩

theorem sl_oneC {α : Type} {k : Nat} {At : World → Nat → Nat → α → Prop} {w : World} {B c : Nat} {x : α} (h1 : 1 ≤ c) (h2 : c ≤ maxLen) (h : At w B 0 x) : SlAt k At w (.slice (some ⟨B, 0, none⟩) 1 c) [x] := by
  refine ⟨_, c, rfl, h1, h2, fun i hi => ⟨B, 0, rfl, ?_⟩⟩
  have hi' : i < 1 := hi
  obtain rfl : i = 0 := by omega
  rw [Nat.zero_mul, Nat.add_zero]
  exact h

theorem cell_other {w : World} {B b o : Nat} {v : Value} (h : ¬ b = B) (p : Nat) : (w.setCell ⟨B, o, none⟩ v).cell? ⟨b, p, none⟩ = w.cell? ⟨b, p, none⟩ := World.cell?_of_block (by rw [heap_setCell, if_neg h])

abbrev boxRl (hv ev : Value) : Obj := .cells #[hv, ev] 26
abbrev boxHd (h : Hdl) : Obj := .cells #[.string h.cmd, h.nv, h.cv] 49

set_option maxRecDepth 100000 in
set_option maxHeartbeats 8000000 in
theorem apart_walk (P : Pl) (hP : FitP P) (vs vg hv ev : Value) (hs : List Hdl) (es : List Evo) (cmd : ByteArray) (w : World) (hT : Tab w) (hp : PlAt w P vs vg) (hh : HdlsAt w hv hs) (he : EvosAt w ev es) (hfit : FitR hs es) :
    Calls Tryd.prog 7 #[.agg #[hv, ev], .string P.st, vs, .string cmd, vg] w fun e w' => e = .returned (.bool true) ∧ Upd [] w w' := by
  have u0 : Upd [] w (w.alloc (boxRl hv ev)) := (Upd.refl [] w).alloc _
  have b0 : (w.alloc (boxRl hv ev)).heap[w.heap.size]? = some (boxRl hv ev) := by rw [heap_alloc, if_pos rfl]
  have HA := Lib.hid (awake_ok _ (hT.upd u0))
  obtain ⟨ha, hcp, rfl, h1, h2⟩ := hh.isSlice
  obtain ⟨ea, ec, rfl, -, -⟩ := he.isSlice
  have HD := Lib.hid (fun W (u : Upd [] w W) (a : Option Addr) (n c : Nat) => decide_ok P hP vs vg (.slice ha hs.length hcp) (.slice a n c) hs cmd W (hT.upd u) (hp.keep u) (hh.keep u) hfit.2.2.1 ⟨a, n, c, rfl⟩)
  have HD1 := Lib.hid (fun W (u : Upd [] w W) (v : Value) (l : List Hdl) (hl : HdlsAt W v l) (hf : ∀ h ∈ l, h ∈ hs) => decide_ok P hP vs vg v (.slice none 0 0) l cmd W (hT.upd u) (hp.keep u) hl (fun h hm => hfit.2.2.1 h (hf h hm)) ⟨none, 0, 0, rfl⟩)
  have HH := Lib.hid (fun W (u : Upd [] w W) => hh.keep u)
  have H0 := Lib.hid (And.intro u0 b0)
  obtain ⟨sa, sc, hvs, -, -⟩ := hp.1.isSlice
  obtain ⟨ga, gc, hvg, -, -⟩ := hp.2.isSlice
  clear hT hp hh he hP u0 b0 hfit
  subst hvs hvg
  obtain ⟨st, state, given⟩ := P
  dsimp only at HD HD1
  go_enter Tryd.func7, Tryd.ntmps7
  go_wp2_with fail
  refine HA.out.mono ?_
  rintro e w1 ⟨rfl, hu1⟩
  have hb1 := (hu1.block _ (lt_of_blk H0.out.2) (by simp)).trans H0.out.2
  have hne0 : w.heap.size < w1.heap.size := lt_of_blk hb1
  have HS1 : Hid (Upd [] w (w1.alloc (boxRl nilV nilV)) ∧ (w1.alloc (boxRl nilV nilV)).heap[w1.heap.size]? = some (boxRl nilV nilV) ∧ (w1.alloc (boxRl nilV nilV)).heap[w.heap.size]? = some (boxRl (.slice ha hs.length hcp) (.slice ea es.length ec))) :=
    Lib.hid ⟨(H0.out.1.trans hu1).alloc _, by rw [heap_alloc, if_pos rfl], blk_alloc hb1⟩
  clear hu1 hb1 H0 HA
  go_wp2_with fail
  generalize hB1 : w1.heap.size = B1 at *
  have HB1 := Lib.hid hB1
  clear hB1
  go_loopg [13] (hs.length + 1) (fun n i wr => ∃ (j : Nat) (oa : Option Addr) (oc : Nat) (l : List Hdl), i = .int .i64 j ∧ j ≤ hs.length ∧ n = hs.length + 1 - j ∧ Hid (Upd [] w wr) ∧ Hid (wr.heap[B1]? = some (boxRl (.slice oa l.length oc) nilV)) ∧ Hid (wr.heap[w.heap.size]? = some (boxRl (.slice ha hs.length hcp) (.slice ea es.length ec))) ∧ Hid (HdlsAt wr (.slice oa l.length oc) l) ∧
      Hid ((oa = none ∧ oc = 0 ∧ l = [] ∧ ∀ i (h : i < hs.length), i < j → ¬ hs[i].cmd = cmd) ∨ (∃ h, l = [h] ∧ h ∈ hs ∧ hs.find? (fun h => decide (h.cmd = cmd)) = some h)))
  case atStart =>
    exact ⟨0, none, 0, [], rfl, by omega, rfl, Lib.hid HS1.out.1, Lib.hid HS1.out.2.1, Lib.hid HS1.out.2.2, Lib.hid (sl_nil _), Lib.hid (Or.inl ⟨rfl, rfl, rfl, fun i _ hi => absurd hi (by omega)⟩)⟩
  case round =>
    obtain ⟨j, oa, oc, l, rfl, hj, rfl, HU, HB, HX, HO, HC⟩ := hrel
    have e0 : wr.cell? ⟨w.heap.size, 0, none⟩ = some (.slice ha hs.length hcp) := cell_blk HX.out 0
    have e1 : wr.cell? ⟨w.heap.size, 1, none⟩ = some (.slice ea es.length ec) := cell_blk HX.out 1
    have f0 : wr.cell? ⟨B1, 0, none⟩ = some (.slice oa l.length oc) := cell_blk HB.out 0
    have f1 : wr.cell? ⟨B1, 1, none⟩ = some nilV := cell_blk HB.out 1
    have hxl := lt_of_blk HX.out
    have hbl := lt_of_blk HB.out
    by_cases hgo : j < hs.length ∧ l = []
    · obtain ⟨hjl, rfl⟩ := hgo
      have hlt : (j : Int) < (hs.length : Int) := by omega
      have hno : oa = none ∧ oc = 0 ∧ ∀ i (h : i < hs.length), i < j → ¬ hs[i].cmd = cmd := by
        rcases HC.out with ⟨h1, h2, -, h⟩ | ⟨h, h', -⟩
        · exact ⟨h1, h2, h⟩
        · cases h'
      obtain ⟨rfl, rfl, hno⟩ := hno
      obtain ⟨hb, hoff, rfl, hat⟩ := (by
        obtain ⟨a', c', e', -, -, h3⟩ := HH.out wr HU.out
        simp only [Value.slice.injEq] at e'
        obtain ⟨rfl, -, rfl⟩ := e'
        exact h3 j hjl : ∃ b off, ha = some ⟨b, off, none⟩ ∧ HdlAt wr b (off + j * 3) hs[j])
      have hmem := List.getElem_mem hjl
      have HM := Lib.hid hmem
      have HJL := Lib.hid hjl
      obtain ⟨⟨c0, c1, c2⟩, hnd, hcs⟩ := hat
      obtain ⟨na, nc, hnv, -, -⟩ := hnd.isSlice
      obtain ⟨ca, cc, hcv, -, -⟩ := hcs.isSlice
      have hblt := World.block_lt_of_cell? _ _ c0
      have hq := eqB hs[j].cmd cmd
      by_cases hcmd : hs[j].cmd = cmd
      · rw [decide_eq_true hcmd] at hq
        have hfind : Hid (hs.find? (fun h => decide (h.cmd = cmd)) = some hs[j]) := Lib.hid (List.find?_eq_some_iff_getElem.2 ⟨by simpa using hcmd, j, hjl, rfl, fun i hi => by simpa using hno i (by omega) hi⟩)
        have hND := Lib.hid hnd
        have hCS := Lib.hid hcs
        clear hno hnd hcs hcmd hmem
        generalize hs[j] = h at *
        clear hjl
        obtain ⟨hcm, hnv', hneeds, hcv', hcases⟩ := h
        dsimp only at c0 c1 c2 hnv hcv hq hND hCS
        subst hnv hcv
        have hap := hdl_append (w := wr.drew.alloc (boxHd ⟨hcm, .slice na hneeds.length nc, hneeds, .slice ca hcases.length cc, hcases⟩)) (B := wr.heap.size) ⟨hcm, .slice na hneeds.length nc, hneeds, .slice ca hcases.length cc, hcases⟩ (by exact heap_top wr.drew _) (hND.out.keep (((Upd.refl [] wr).drew).alloc _)) (hCS.out.keep (((Upd.refl [] wr).drew).alloc _))
        obtain ⟨g, gcap, w5, hrun, hat5, ⟨hg1, hg2, hg3⟩, hu5⟩ := hap
        rw [World.size_alloc] at hg3
        have hg4 : wr.heap.size + 1 ≤ g := hg3
        have hu6 : Upd [] wr w5 := (((Upd.refl [] wr).drew).alloc _).trans hu5
        have f5 : w5.heap[B1]? = some (boxRl nilV nilV) := (hu6.block _ hbl (by simp)).trans HB.out
        have g0 : w5.cell? ⟨B1, 0, none⟩ = some nilV := cell_blk f5 0
        have g1 := frozen_blk f5
        have hN : Hid (Upd [] w (w5.setCell ⟨B1, 0, none⟩ (.slice (some ⟨g, 0, none⟩) 1 gcap)) ∧ (w5.setCell ⟨B1, 0, none⟩ (.slice (some ⟨g, 0, none⟩) 1 gcap)).heap[B1]? = some (boxRl (.slice (some ⟨g, 0, none⟩) 1 gcap) nilV) ∧ (w5.setCell ⟨B1, 0, none⟩ (.slice (some ⟨g, 0, none⟩) 1 gcap)).heap[w.heap.size]? = some (boxRl (.slice (some ⟨hb, hoff, none⟩) hs.length hcp) (.slice ea es.length ec)) ∧ HdlsAt (w5.setCell ⟨B1, 0, none⟩ (.slice (some ⟨g, 0, none⟩) 1 gcap)) (.slice (some ⟨g, 0, none⟩) 1 gcap) [⟨hcm, .slice na hneeds.length nc, hneeds, .slice ca hcases.length cc, hcases⟩]) := Lib.hid (by
          have hUW : Upd [] w (w5.setCell ⟨B1, 0, none⟩ (.slice (some ⟨g, 0, none⟩) 1 gcap)) := (HU.out.trans hu6).setCellNew (by omega) 0 _
          refine ⟨hUW, by rw [heap_setCell, if_pos rfl, f5]; rfl, ?_, ?_⟩
          · rw [heap_setCell, if_neg (by omega)]
            exact (hu6.block _ hxl (by simp)).trans HX.out
          · obtain ⟨d0, d1, d2⟩ := hat5
            obtain ⟨i, hi, hie⟩ := List.mem_iff_getElem.1 HM.out
            obtain ⟨_, _, _, -, -, h3⟩ := HH.out _ hUW
            obtain ⟨_, _, _, hI⟩ := h3 i hi
            rw [hie] at hI
            exact sl_oneC hg1 hg2 ⟨⟨(cell_other (by omega) _).trans d0, (cell_other (by omega) _).trans d1, (cell_other (by omega) _).trans d2⟩, hI.2⟩)
        have f0' : wr.drew.cell? ⟨B1, 0, none⟩ = some nilV := f0
        have e0' : wr.drew.cell? ⟨w.heap.size, 0, none⟩ = some (.slice (some ⟨hb, hoff, none⟩) hs.length hcp) := e0
        have c0' : wr.drew.cell? ⟨hb, hoff + j * 3, none⟩ = some (.string hcm) := c0
        have c1' : wr.drew.cell? ⟨hb, hoff + j * 3 + 1, none⟩ = some (.slice na hneeds.length nc) := c1
        have c2' : wr.drew.cell? ⟨hb, hoff + j * 3 + 2, none⟩ = some (.slice ca hcases.length cc) := c2
        clear hND hCS f5 hu6 hu5 hat5
        dsimp only [List.length_nil] at f0 f0'
        go_upto_region 7 with (fail)
        go_region_law (first | (refine step_append_run (by rfl) _ _ 23 23 (by rfl) _ _ (by rfl) (by rfl) (by exact hrun) ?_))
        all_goals
          go_wp2_with fail
          go_roundg (hs.length + 1 - (j + 1))
          case measure => omega
          case rel => exact ⟨j + 1, _, _, [_], by go_num, by have := HJL.out; omega, rfl, Lib.hid hN.out.1, Lib.hid hN.out.2.1, Lib.hid hN.out.2.2.1, Lib.hid hN.out.2.2.2, Lib.hid (Or.inr ⟨_, rfl, HM.out, hfind.out⟩)⟩
      · rw [decide_eq_false hcmd] at hq
        have hno2 : Hid (∀ i (h : i < hs.length), i < j + 1 → ¬ hs[i].cmd = cmd) := Lib.hid (fun i h hi => by
          rcases Nat.lt_or_ge i j with h' | h'
          · exact hno i h h'
          · have : i = j := by omega
            subst this; exact hcmd)
        clear hno hnd hcs hcmd hmem HM
        generalize hs[j] = h at *
        clear hjl
        obtain ⟨hcm, hnv', hneeds, hcv', hcases⟩ := h
        dsimp only at c0 c1 c2 hnv hcv hq
        subst hnv hcv
        dsimp only [List.length_nil] at f0
        go_wp2_with fail
        go_roundg (hs.length + 1 - (j + 1))
        case measure => omega
        case rel => exact ⟨j + 1, none, 0, [], by go_num, by have := HJL.out; omega, rfl, HU, HB, HX, HO, Lib.hid (Or.inl ⟨rfl, rfl, rfl, hno2.out⟩)⟩
    · have hfin : Hid (∀ R, decideX hs ⟨st, state, given⟩ cmd = R → decideX l ⟨st, state, given⟩ cmd = R ∧ (∀ h ∈ l, h ∈ hs) ∧ (l.length = 1 ∨ (l = [] ∧ R = .error 136))) := Lib.hid (by
        intro R hR
        rcases HC.out with ⟨-, -, rfl, h⟩ | ⟨h, rfl, hm, hfd⟩
        · have hn : hs.find? (fun h => decide (h.cmd = cmd)) = none := List.find?_eq_none.2 (fun x hx => by
            obtain ⟨i, hi, rfl⟩ := List.mem_iff_getElem.1 hx
            have : j = hs.length := by
              rcases Nat.lt_or_ge j hs.length with q | q
              · exact absurd ⟨q, rfl⟩ hgo
              · omega
            simpa using h i hi (by omega))
          have hR2 := decide_none hs ⟨st, state, given⟩ cmd hn
          rw [hR] at hR2
          exact ⟨by rw [hR2]; rfl, by simp, Or.inr ⟨rfl, hR2⟩⟩
        · exact ⟨by rw [decide_one hs _ cmd hfd, hR], fun x hx => by simp at hx; subst hx; exact hm, Or.inl rfl⟩)
      obtain ⟨R, hR⟩ : ∃ R, decideX hs ⟨st, state, given⟩ cmd = R := ⟨_, rfl⟩
      obtain ⟨hR1, hmem, hlen⟩ := hfin.out R hR
      have HDa := Lib.hid (fun W (u : Upd [] w W) => HD.out W u ea es.length ec)
      have HDb := Lib.hid (fun W (u : Upd [] w W) (hl : HdlsAt W (.slice oa l.length oc) l) => HD1.out W u (.slice oa l.length oc) l hl hmem)
      rw [hR] at HDa
      rw [hR1] at HDb
      have HLN := Lib.hid hlen
      have hx : (¬ (j : Int) < (hs.length : Int)) ∨ ((j : Int) < (hs.length : Int) ∧ ((l.length : Int) == 0) = false) := by
        rcases Nat.lt_or_ge j hs.length with q | q
        · refine Or.inr ⟨by omega, ?_⟩
          have : l ≠ [] := fun e => hgo ⟨q, e⟩
          have := List.length_pos_iff.2 this
          simp
          omega
        · exact Or.inl (by omega)
      clear hfin hR hR1 hmem hlen hgo HD HD1 HC HH HS1 HB1
      have HR := Lib.hid (show decN R = decN R from rfl)
      have hN0 : l.length = 1 ∨ (l = [] ∧ decN R = 136) := by
        rcases HLN.out with h | ⟨h, h'⟩
        · exact Or.inl h
        · exact Or.inr ⟨h, by rw [h']; rfl⟩
      have HN0 := Lib.hid hN0
      have HSP := Lib.hid (fun w e w' (h : DecPost R w e w') => dec_split h)
      clear HR HLN hN0
      generalize hdr : decR R = dr at *
      generalize hds : decS R = ds at *
      generalize hdn : decN R = dn at *
      generalize hdk : decK R = dk at *
      clear hdr hds hdn hdk
      rcases hx with hlt | ⟨hlt, hl0⟩
      all_goals
        go_wp2_with fail
        refine (HDa.out _ HU.out).mono ?_
        intro e w2 hpost
        obtain ⟨a1, m1, n1, l1, rfl, hat1, hk1, hu2⟩ := HSP.out _ _ _ hpost
        have HU2 : Hid (Upd [] w w2) := Lib.hid (HU.out.trans hu2)
        have hbb := (hu2.block _ hbl (by simp)).trans HB.out
        have hbl2 := lt_of_blk hbb
        have hne2 : ¬ B1 = w2.heap.size := by omega
        have g0 : w2.cell? ⟨B1, 0, none⟩ = some (.slice oa l.length oc) := cell_blk hbb 0
        have g1 : w2.cell? ⟨B1, 1, none⟩ = some nilV := cell_blk hbb 1
        have H3 : Hid (Upd [] w (w2.alloc (.cells #[.bool dr, .string ds, .slice a1 m1 n1] 41)) ∧ HdlsAt (w2.alloc (.cells #[.bool dr, .string ds, .slice a1 m1 n1] 41)) (.slice oa l.length oc) l ∧ EvsAt (w2.alloc (.cells #[.bool dr, .string ds, .slice a1 m1 n1] 41)) (.slice a1 m1 n1) l1 ∧
            (w2.alloc (.cells #[.bool dr, .string ds, .slice a1 m1 n1] 41)).heap[B1]? = some (boxRl (.slice oa l.length oc) nilV) ∧ (w2.alloc (.cells #[.bool dr, .string ds, .slice a1 m1 n1] 41)).heap[w2.heap.size]? = some (.cells #[.bool dr, .string ds, .slice a1 m1 n1] 41 (0, 0))) :=
          Lib.hid ⟨HU2.out.alloc _, HO.out.keep (hu2.alloc _), hat1.keep ((Upd.refl [] w2).alloc _), blk_alloc hbb, heap_top _ _⟩
        have HK1 := Lib.hid hk1
        clear hpost hat1 hk1 hu2 hbb HU HB HX HO e0 e1 f0 f1
        dsimp only [decT]
        go_wp2_with fail
        refine (HDb.out _ H3.out.1 H3.out.2.1).mono ?_
        intro e w4 hpost
        obtain ⟨a2, m2, n2, l2, rfl, hat2, hk2, hu4⟩ := HSP.out _ _ _ hpost
        have HU4 : Hid (Upd [] w w4) := Lib.hid (H3.out.1.trans hu4)
        have hbb := (hu4.block _ (lt_of_blk H3.out.2.2.2.1) (by simp)).trans H3.out.2.2.2.1
        have hba := (hu4.block _ (lt_of_blk H3.out.2.2.2.2) (by simp)).trans H3.out.2.2.2.2
        have hat1 := H3.out.2.2.1.keep hu4
        generalize w2.heap.size = Ba at *
        have hbla := lt_of_blk hba
        have hnea : ¬ Ba = w4.heap.size := by omega
        have hblb := lt_of_blk hbb
        have hneb : ¬ B1 = w4.heap.size := by omega
        have g0 : w4.cell? ⟨Ba, 2, none⟩ = some (.slice a1 m1 n1) := cell_blk hba 2
        have hSE := sameEvs_ok (.slice a1 m1 n1) (.slice a2 m2 n2) l1 l2 (w4.alloc (.cells #[.bool dr, .string ds, .slice a2 m2 n2] 41)) (hat1.keep ((Upd.refl [] w4).alloc _)) (hat2.keep ((Upd.refl [] w4).alloc _)) (HK1.out.trans hk2.symm)
        have H5 : Hid (Upd [] w (w4.alloc (.cells #[.bool dr, .string ds, .slice a2 m2 n2] 41)) ∧ (w4.alloc (.cells #[.bool dr, .string ds, .slice a2 m2 n2] 41)).heap[B1]? = some (boxRl (.slice oa l.length oc) nilV) ∧
            (w4.alloc (.cells #[.bool dr, .string ds, .slice a2 m2 n2] 41)).heap[Ba]? = some (.cells #[.bool dr, .string ds, .slice a1 m1 n1] 41 (0, 0)) ∧ (w4.alloc (.cells #[.bool dr, .string ds, .slice a2 m2 n2] 41)).heap[w4.heap.size]? = some (.cells #[.bool dr, .string ds, .slice a2 m2 n2] 41 (0, 0))) :=
          Lib.hid ⟨HU4.out.alloc _, blk_alloc hbb, blk_alloc hba, heap_top _ _⟩
        have HSE := Lib.hid hSE
        clear hpost hat1 hat2 hk2 hu4 hbb hba H3 HU2 HU4 hSE HK1 g1 hbl2 hne2
        dsimp only [decT]
        go_wp2_with fail
        refine HSE.out.mono ?_
        rintro e w6 ⟨rfl, hu6⟩
        have HU6 : Hid (Upd [] w w6) := Lib.hid (H5.out.1.trans hu6)
        have hbb := (hu6.block _ (lt_of_blk H5.out.2.1) (by simp)).trans H5.out.2.1
        have hba := (hu6.block _ (lt_of_blk H5.out.2.2.1) (by simp)).trans H5.out.2.2.1
        have hbc := (hu6.block _ (lt_of_blk H5.out.2.2.2) (by simp)).trans H5.out.2.2.2
        generalize w4.heap.size = Bc at *
        have q0 : w6.cell? ⟨Ba, 0, none⟩ = some (.bool dr) := cell_blk hba 0
        have q1 : w6.cell? ⟨Ba, 1, none⟩ = some (.string ds) := cell_blk hba 1
        have r0 : w6.cell? ⟨Bc, 0, none⟩ = some (.bool dr) := cell_blk hbc 0
        have r1 : w6.cell? ⟨Bc, 1, none⟩ = some (.string ds) := cell_blk hbc 1
        have z0 : w6.cell? ⟨B1, 0, none⟩ = some (.slice oa l.length oc) := cell_blk hbb 0
        have e1 : (dr == dr) = true := by simp
        have e2 : (ds.toList == ds.toList) = true := by simp
        clear hu6 hbb hba hbc H5 HSE g0 hlt
        rcases HN0.out with hl1 | ⟨hl1, hdn⟩
        · have e3 : ((l.length : Int) == 1) = true := by rw [hl1]; rfl
          go_wp2_with fail
          go_ret
          exact ⟨rfl, HU6.out⟩
        · subst hl1 hdn
          go_wp2_with fail
          go_ret
          exact ⟨rfl, HU6.out⟩
end Go.Proofs.YtnokekoojmljaaaDoor
