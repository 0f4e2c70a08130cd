/- The rules' Check. -/
import Derived.Test.YtajppgngoffonaaGreatDoorGLkF
import Derived.Test.YtajppgngoffonaaGreatDoorGCc
namespace Go.Proofs.YtajppgngoffonaaGreatDoor
open Go.RowKit

abbrev boxH (h : Hdl) : Obj := .cells #[.string h.cmd, h.nv, h.cv] 152
abbrev boxN (n : Ned) : Obj := .cells #[.string n.nm, .bool n.tx] 154
abbrev boxE (e : Evo) : Obj := .cells #[.string e.ty, e.sv, e.dv] 108
abbrev boxR (hv ev : Value) : Obj := .cells #[hv, ev] 113
abbrev boxL (k : Lk) : Obj := .cells #[.bool k.m, .bool k.n, .bool k.f] 148

/-- What holds all along in Check: the table's box, the look. -/
structure CkIn (w : World) (SR : Obj) (B K : Nat) (k : Lk) (W : World) : Prop where
  box : W.heap[B]? = some SR
  lk : LkAt W K k
  upd : Upd [] w W

theorem CkIn.keep {w : World} {SR : Obj} {B K : Nat} {k : Lk} {W W' : World} (h : CkIn w SR B K k W) (u : Upd [] W W') : CkIn w SR B K k W' :=
  ⟨(u.block _ (lt_of_blk h.box) (by simp)).trans h.box, h.lk.keep u, h.upd.trans u⟩
theorem CkIn.grown {w : World} {SR : Obj} {B K base : Nat} {k : Lk} {W W' : World} {v : Value} {l : List ByteArray} (h : CkIn w SR B K k W) (g : W.grownBy W' v.ownBlock) (ho : OwnS W base v l) (hB : B < base) (hK : K < base) (hw : w.heap.size ≤ base) : CkIn w SR B K k W' :=
  ⟨(g.block B (lt_of_blk h.box) (fun q => by have := (ho.lt _ q.symm).1; omega)).trans h.box, LkAt.grown h.lk g ho hK, h.upd.grown g (fun q hq => by have := (ho.lt q hq).1; omega)⟩
theorem CkIn.look {w : World} {SR : Obj} {B K : Nat} {k k' : Lk} {W W' : World} (h : CkIn w SR B K k W) (hl : LkAt W' K k') (u : Upd [K] W W') (hB : B ≠ K) (hK : w.heap.size ≤ K) : CkIn w SR B K k' W' :=
  ⟨(u.block B (lt_of_blk h.box) (by simpa using hB)).trans h.box, hl, h.upd.old hK u⟩

theorem LkAt.other {w w' : World} {K : Nat} {k : Lk} (h : LkAt w K k) (e : w'.heap[K]? = w.heap[K]?) : LkAt w' K k := e.trans h

theorem OwnS.base {w : World} {a b : Nat} {v : Value} {l : List ByteArray} (h : OwnS w a v l) (hb : b ≤ a) : OwnS w b v l := by
  obtain ⟨h1, h2⟩ := h
  refine ⟨h1, ?_⟩
  rcases h2 with h2 | ⟨g, cap, cur, e, hge, r⟩
  · exact .inl h2
  · exact .inr ⟨g, cap, cur, e, Nat.le_trans hb hge, r⟩
theorem twice_one (s : ByteArray) : twice [s] = !nameOk s := by simp [twice, twL]
theorem any_drop {α : Type} (f : α → Bool) (l : List α) (j : Nat) (hj : j < l.length) : (l.drop j).any f = (f l[j] || (l.drop (j + 1)).any f) := by
  rw [List.drop_eq_getElem_cons hj, List.any_cons]

theorem sts_two {w : World} {B : Nat} {v1 v2 : Value} {l1 l2 : List ByteArray} (h : w.heap[B]? = some (.cells #[v1, v2] 106 (0, 0))) (h1 : StrsAt w v1 l1) (h2 : StrsAt w v2 l2) :
    SlAt 1 StsAt w (.slice (some ⟨B, 0, none⟩) 2 2) [(v1, l1), (v2, l2)] := by
  refine ⟨_, 2, rfl, by simp, by unfold maxLen; omega, fun i hi => ⟨B, 0, rfl, ?_⟩⟩
  match i, hi with
  | 0, _ => exact ⟨cell_blk h 0, h1⟩
  | 1, _ => exact ⟨cell_blk h 1, h2⟩
theorem totS_two (v1 v2 : Value) (l1 l2 : List ByteArray) : totS [(v1, l1), (v2, l2)] = l1.length + l2.length := by simp [totS]
theorem catS_two (v1 v2 : Value) (l1 l2 : List ByteArray) : catS [(v1, l1), (v2, l2)] = l1 ++ l2 := by simp [catS]

set_option maxRecDepth 100000 in
set_option maxHeartbeats 8000000 in
theorem check_ok (hv ev : Value) (hs : List Hdl) (es : List Evo) (w : World) (hh : HdlsAt w hv hs) (he : EvosAt w ev es) (hf : FitR hs es) :
    Calls Tryz.prog 55 #[.agg #[hv, ev]] w fun e w' => e = .returned (.int .i64 (checkR hs es)) ∧ Upd [] w w' := by
  have HH := Lib.hid hh
  have HE := Lib.hid he
  have HF := Lib.hid hf
  have HC : Hid (checkR hs es = (lkR hs es).code) := Lib.hid (lkR_code hs es).symm
  have HT : Hid (lkR hs es = (((Lk.mk (decide (32 < hs.length) || decide (32 < es.length)) false false).or (lkL lkH (hs.drop 0))).or (lkL lkE es)).or ⟨false, twice (hs.map Hdl.cmd) || twice (es.map Evo.ty), false⟩) := Lib.hid rfl
  obtain ⟨ha, hcap, hhv, hh1, hh2⟩ := hh.isSlice
  obtain ⟨ea, ecap, hev, he1, he2⟩ := he.isSlice
  have hlh : hs.length * 64 ≤ 140737488355328 := hf.1
  have hle : es.length * 64 ≤ 140737488355328 := hf.2.1
  generalize lkR hs es = T at *
  generalize checkR hs es = R at *
  obtain ⟨M, hM0⟩ : ∃ M, M = (decide (32 < hs.length) || decide (32 < es.length)) := ⟨_, rfl⟩
  rw [← hM0] at HT
  subst hhv hev
  clear hh he hf
  go_enter Tryz.func55, Tryz.ntmps55
  go_upto_region 1 with (fail)
  obtain ⟨SR, hSR⟩ : ∃ SR, SR = boxR (.slice ha hs.length hcap) (.slice ea es.length ecap) := ⟨_, rfl⟩
  have hb0 : (w.alloc (boxR (.slice ha hs.length hcap) (.slice ea es.length ecap))).heap[w.heap.size]? = some SR := by rw [heap_alloc, if_pos rfl, hSR]
  have hu0 : Upd [] w (w.alloc (boxR (.slice ha hs.length hcap) (.slice ea es.length ecap))) := (Upd.refl [] w).alloc _
  have hsz0 : (w.alloc (boxR (.slice ha hs.length hcap) (.slice ea es.length ecap))).heap.size = w.heap.size + 1 := by simp
  change Code.wp _ _ _ _ (w.alloc (boxR (.slice ha hs.length hcap) (.slice ea es.length ecap)))
  generalize (w.alloc (boxR (.slice ha hs.length hcap) (.slice ea es.length ecap))) = W at *
  have HSR := Lib.hid hSR
  have r0 : W.cell? ⟨w.heap.size, 0, none⟩ = some (.slice ha hs.length hcap) := by have := hb0; rw [hSR] at this; exact cell_blk this 0
  have r1 : W.cell? ⟨w.heap.size, 1, none⟩ = some (.slice ea es.length ecap) := by have := hb0; rw [hSR] at this; exact cell_blk this 1
  have HI := Lib.hid (And.intro hb0 (And.intro hu0 hsz0))
  clear hSR hb0 hu0
  obtain ⟨B, hB⟩ : ∃ B, B = w.heap.size := ⟨_, rfl⟩
  go_cut [3] (fun s3 W2 => s3 = .pointer (some ⟨w.heap.size + 1, 0, none⟩) ∧ Hid (CkIn w SR w.heap.size (w.heap.size + 1) ⟨M, false, false⟩ W2) ∧ W2.heap.size = w.heap.size + 2)
  case first =>
    have hD : ∀ g : Bool, Hid (CkIn w SR w.heap.size (w.heap.size + 1) ⟨g, false, false⟩ (W.alloc (boxL ⟨g, false, false⟩)) ∧ (W.alloc (boxL ⟨g, false, false⟩)).heap.size = w.heap.size + 2) := fun g =>
      Lib.hid ⟨⟨blk_alloc HI.out.1, by unfold LkAt; rw [heap_alloc, if_pos hsz0.symm], HI.out.2.1.alloc _⟩, by simp [hsz0]⟩
    by_cases h1 : 32 < hs.length
    · have hi : (32 : Int) < (hs.length : Int) := by omega
      obtain rfl : M = true := by rw [hM0, decide_eq_true h1]; rfl
      have hE := hD true
      clear hD hM0 h1
      go_wp2_with fail
      go_meet
      case rel => exact ⟨rfl, Lib.hid hE.out.1, hE.out.2⟩
    · have hi : ¬ (32 : Int) < (hs.length : Int) := by omega
      by_cases h2 : 32 < es.length
      · have hi2 : (32 : Int) < (es.length : Int) := by omega
        obtain rfl : M = true := by rw [hM0, decide_eq_false h1, decide_eq_true h2]; rfl
        have hE := hD true
        clear hD hM0 h1 h2
        go_wp2_with fail
        go_meet
        case rel => exact ⟨rfl, Lib.hid hE.out.1, hE.out.2⟩
      · have hi2 : ¬ (32 : Int) < (es.length : Int) := by omega
        obtain rfl : M = false := by rw [hM0, decide_eq_false h1, decide_eq_false h2]; rfl
        have hE := hD false
        clear hD hM0 h1 h2
        go_wp2_with fail
        go_meet
        case rel => exact ⟨rfl, Lib.hid hE.out.1, hE.out.2⟩
  case rest =>
    obtain ⟨rfl, hI, hszc⟩ := hcut
    clear r0 r1 HI hM0
    obtain ⟨K, hK⟩ : ∃ K, K = w.heap.size + 1 := ⟨_, rfl⟩
    rw [← hK] at hI ⊢
    have hKK : w.heap.size ≤ K := by omega
    have hBK : w.heap.size ≠ K := by omega
    have hKs : K < w.heap.size + 2 := by omega
    clear hK
    have hb1 := hI.out.box
    rw [HSR.out] at hb1
    have r0 : wc.cell? ⟨w.heap.size, 0, none⟩ = some (.slice ha hs.length hcap) := cell_blk hb1 0
    clear hb1
    go_wp2_with fail
    go_loopg [4, 7, 8, 10, 12, 31, 58, 73] hs.length (fun n t4 _ _ _ _ t31 _ _ wr => ∃ (j : Nat) (k' : Lk), t31 = .int .i64 j ∧ j ≤ hs.length ∧ n = hs.length - j ∧ Hid (OwnS wr (w.heap.size + 2) t4 ((hs.map Hdl.cmd).take j)) ∧ Hid (T = ((k'.or (lkL lkH (hs.drop j))).or (lkL lkE es)).or ⟨false, twice (hs.map Hdl.cmd) || twice (es.map Evo.ty), false⟩) ∧ Hid (CkIn w SR w.heap.size K k' wr) ∧ w.heap.size + 2 ≤ wr.heap.size)
    case atStart => exact ⟨0, _, rfl, by omega, rfl, Lib.hid (own_nilS _ _), HT, hI, by omega⟩
    case round =>
      obtain ⟨j, k', rfl, hj, rfl, hO, hA, hJ, hsz⟩ := hrel
      by_cases hjl : j < hs.length
      · have hlt : (j : Int) < (hs.length : Int) := by omega
        obtain ⟨a', cap', hv, g1, g2, g3⟩ := HH.out.keep hJ.out.upd
        simp only [Value.slice.injEq] at hv
        obtain ⟨rfl, -, rfl⟩ := hv
        obtain ⟨b, off, rfl, hy⟩ := g3 j hjl
        obtain ⟨⟨c0, c1, c2⟩, hn, hc⟩ := hy
        obtain ⟨na, ncap, hnv, -, -⟩ := hn.isSlice
        obtain ⟨ca, ccap, hcv, -, -⟩ := hc.isSlice
        have hfh := HF.out.2.2.1 hs[j] (List.getElem_mem hjl)
        have hT' : Hid (T = (((k'.or (lkH hs[j])).or (lkL lkH (hs.drop (j + 1)))).or (lkL lkE es)).or ⟨false, twice (hs.map Hdl.cmd) || twice (es.map Evo.ty), false⟩) := Lib.hid (by rw [hA.out, lkL_drop _ hs j hjl, ← Lk.or_assoc k' (lkH hs[j])])
        have hx0 : NedsAt w hs[j].nv hs[j].needs ∧ CsesAt w hs[j].cv hs[j].cases := by
          obtain ⟨a2, cap2, hv2, q1, q2, q3⟩ := HH.out
          obtain ⟨b2, off2, e2, hy2⟩ := q3 j hjl
          exact hy2.2
        have htk : Hid ((hs.map Hdl.cmd).take (j + 1) = (hs.map Hdl.cmd).take j ++ [hs[j].cmd]) := Lib.hid (by rw [List.take_add_one, List.getElem?_map, List.getElem?_eq_getElem hjl]; rfl)
        have htl : ((hs.map Hdl.cmd).take j).length = j := by simp; omega
        have hlc : Hid (k'.or (lkH hs[j]) = ((Lk.mk (k'.m || (decide (16 < hs[j].cases.length) || decide (16 < hs[j].needs.length))) (k'.n || twice (hs[j].needs.map Ned.nm)) k'.f).or (lkL lkK (hs[j].cases.drop 0)))) := Lib.hid (by
          unfold lkH
          rw [← Lk.or_assoc, List.drop_zero]
          simp [Lk.or])
        clear g3 hn hc
        generalize hXX : k'.or (lkH hs[j]) = K2 at *
        generalize hs[j] = y at *
        clear hXX
        obtain ⟨cmd, nv, needs, cv, cases⟩ := y
        dsimp only at hnv hcv c0 c1 c2 hfh hx0 htk hlc
        subst hnv hcv
        have HX0 := Lib.hid hx0
        have HFH := Lib.hid hfh
        clear hx0 hfh
        have HBX : Hid (((wr.alloc (boxH ⟨cmd, .slice na needs.length ncap, needs, .slice ca cases.length ccap, cases⟩)).alloc (.cells #[.string cmd] 9)).heap[wr.heap.size]? = some (boxH ⟨cmd, .slice na needs.length ncap, needs, .slice ca cases.length ccap, cases⟩)) := Lib.hid (blk_alloc (by rw [heap_alloc, if_pos rfl]))
        have HBS : Hid (((wr.alloc (boxH ⟨cmd, .slice na needs.length ncap, needs, .slice ca cases.length ccap, cases⟩)).alloc (.cells #[.string cmd] 9)).heap[wr.heap.size + 1]? = some (.cells #[.string cmd] 9 (0, 0))) := Lib.hid (by rw [heap_alloc, if_pos (by simp)])
        go_wp2_with (at_builtin; refine wpList_append_str rfl _ _ rfl (base := w.heap.size + 2) (l := (hs.map Hdl.cmd).take j) (A := some ⟨wr.heap.size + 1, 0, none⟩) (c := 1) (r := [cmd]) rfl ((hO.out.alloc _).alloc _) rfl (srcS_box (by exact HBS.out)) ?c1 ?c2 ?_)
        case c1 => rw [htl]; simp; omega
        case c2 => simp; omega
        intro v7 w7 ho7 hg7
        have hJ7 : CkIn w SR w.heap.size K k' w7 := CkIn.grown (base := w.heap.size + 2) ((hJ.out.keep ((Upd.refl [] wr).alloc _)).keep ((Upd.refl [] _).alloc _)) hg7 ((hO.out.alloc _).alloc _) (by omega) (by omega) (by omega)
        have hb7 : w7.heap[wr.heap.size]? = some (boxH ⟨cmd, .slice na needs.length ncap, needs, .slice ca cases.length ccap, cases⟩) := (hg7.block _ (lt_of_blk HBX.out) (fun q => by have := (hO.out.lt _ q.symm).2; omega)).trans HBX.out
        rw [← htk.out] at ho7
        have hs7 : w.heap.size + 2 ≤ w7.heap.size := by have := hg7.size; simp only [World.size_alloc] at this; omega
        have hCK : wr.heap.size ≠ K := by omega
        have HO7 := Lib.hid ho7
        have HJ7 := Lib.hid hJ7
        have HB7 := Lib.hid hb7
        clear hJ7 hb7 ho7 hg7 HBX HBS c0 c1 c2 hO hJ htk htl
        obtain ⟨C, hCd⟩ : ∃ C, C = wr.heap.size := ⟨_, rfl⟩
        rw [← hCd] at hCK HB7
        go_upto_region 7 with (fail)
        rw [← hCd]
        clear hCd hsz
        obtain ⟨M2, hM0⟩ : ∃ M2, M2 = (k'.m || (decide (16 < cases.length) || decide (16 < needs.length))) := ⟨_, rfl⟩
        rw [← hM0] at hlc
        go_cut [] (fun W2 => Hid (CkIn w SR w.heap.size K ⟨M2, k'.n, k'.f⟩ W2) ∧ Hid (Upd [K] w7 W2))
        case first =>
          have k0 : w7.cell? ⟨K, 0, none⟩ = some (.bool k'.m) := cell_blk HJ7.out.lk 0
          have fz : w7.frozen? ⟨K, 0, none⟩ = false := frozen_blk HJ7.out.lk 0
          have y1 : w7.cell? ⟨C, 1, none⟩ = some (.slice na needs.length ncap) := cell_blk HB7.out 1
          have y2 : w7.cell? ⟨C, 2, none⟩ = some (.slice ca cases.length ccap) := cell_blk HB7.out 2
          have hD : ∀ g : Bool, Hid (CkIn w SR w.heap.size K ⟨g, k'.n, k'.f⟩ (w7.setCell ⟨K, 0, none⟩ (.bool g)) ∧ Upd [K] w7 (w7.setCell ⟨K, 0, none⟩ (.bool g))) := fun g => by
            have hu : Upd [K] w7 (w7.setCell ⟨K, 0, none⟩ (.bool g)) := (Upd.refl [K] w7).setCell (by simp) 0 _
            exact Lib.hid ⟨HJ7.out.look (HJ7.out.lk.set 0 g _ rfl) hu hBK hKK, hu⟩
          cases hkm : k'.m with
          | true =>
            rw [hkm] at k0
            obtain rfl : M2 = true := by rw [hM0, hkm]; rfl
            have hE := hD true
            clear hD hM0 hkm
            go_wp2_with fail
            go_meet
            case rel => exact ⟨Lib.hid hE.out.1, Lib.hid hE.out.2⟩
          | false =>
            rw [hkm] at k0
            have hM1 : M2 = (decide (16 < cases.length) || decide (16 < needs.length)) := by rw [hM0, hkm]; rfl
            clear hM0 hkm
            by_cases h1 : 16 < cases.length
            · have hi : (16 : Int) < (cases.length : Int) := by omega
              obtain rfl : M2 = true := by rw [hM1, decide_eq_true h1]; rfl
              have hE := hD true
              clear hD hM1 h1
              go_wp2_with fail
              go_meet
              case rel => exact ⟨Lib.hid hE.out.1, Lib.hid hE.out.2⟩
            · have hi : ¬ (16 : Int) < (cases.length : Int) := by omega
              by_cases h2 : 16 < needs.length
              · have hi2 : (16 : Int) < (needs.length : Int) := by omega
                obtain rfl : M2 = true := by rw [hM1, decide_eq_false h1, decide_eq_true h2]; rfl
                have hE := hD true
                clear hD hM1 h1 h2
                go_wp2_with fail
                go_meet
                case rel => exact ⟨Lib.hid hE.out.1, Lib.hid hE.out.2⟩
              · have hi2 : ¬ (16 : Int) < (needs.length : Int) := by omega
                obtain rfl : M2 = false := by rw [hM1, decide_eq_false h1, decide_eq_false h2]; rfl
                have hE := hD false
                clear hD hM1 h1 h2
                go_wp2_with fail
                go_meet
                case rel => exact ⟨Lib.hid hE.out.1, Lib.hid hE.out.2⟩
        case rest =>
          obtain ⟨hJ8, hU8⟩ := hcut
          clear hM0
          generalize wc = w8 at *
          have hO8 := HO7.out.keepK hU8.out (by omega)
          have hb8 := (hU8.out.block _ (lt_of_blk HB7.out) (by simpa using hCK)).trans HB7.out
          have hs8 := hU8.out.size
          have y1 : w8.cell? ⟨C, 1, none⟩ = some (.slice na needs.length ncap) := cell_blk hb8 1
          have HO8 := Lib.hid hO8
          have HB8 := Lib.hid hb8
          clear hO8 hb8 HO7 HJ7 HB7 hU8
          have hn24 : needs.length * 24 ≤ 140737488355328 := HFH.out.2.1
          have hs8' : w.heap.size + 2 ≤ w8.heap.size := by omega
          have hK8 : K < w8.heap.size := by omega
          have hC8 : C < w8.heap.size := lt_of_blk HB8.out
          clear hs8 hs7
          go_wp2_with fail
          go_loopg [8, 10, 58] needs.length (fun n t8 _ t58 wr2 => ∃ i : Nat, t58 = .int .i64 i ∧ i ≤ needs.length ∧ n = needs.length - i ∧ Hid (OwnS wr2 w8.heap.size t8 ((needs.map Ned.nm).take i)) ∧ Hid (Upd [] w8 wr2))
          case atStart => exact ⟨0, rfl, by omega, rfl, Lib.hid (own_nilS _ _), Lib.hid (Upd.refl _ _)⟩
          case round =>
            obtain ⟨i, rfl, hi, rfl, hO, hU⟩ := hrel
            generalize wr = w9 at *
            by_cases hil : i < needs.length
            · have hlt : (i : Int) < (needs.length : Int) := by omega
              obtain ⟨a', cap', hv, g1', g2', g3⟩ := HX0.out.1.keep (hJ8.out.upd.trans hU.out)
              simp only [Value.slice.injEq] at hv
              obtain ⟨rfl, -, rfl⟩ := hv
              obtain ⟨b2, off2, rfl, hy⟩ := g3 i hil
              obtain ⟨c0, c1⟩ := hy
              have htk : Hid ((needs.map Ned.nm).take (i + 1) = (needs.map Ned.nm).take i ++ [needs[i].nm]) := Lib.hid (by rw [List.take_add_one, List.getElem?_map, List.getElem?_eq_getElem hil]; rfl)
              have htl : ((needs.map Ned.nm).take i).length = i := by simp; omega
              clear g3
              generalize needs[i] = y at *
              obtain ⟨nm, tx⟩ := y
              dsimp only at c0 c1 htk
              have hle := hU.out.size
              have HBS : Hid (((w9.alloc (boxN ⟨nm, tx⟩)).alloc (.cells #[.string nm] 9)).heap[w9.heap.size + 1]? = some (.cells #[.string nm] 9 (0, 0))) := Lib.hid (by rw [heap_alloc, if_pos (by simp)])
              go_wp2_with (at_builtin; refine wpList_append_str rfl _ _ rfl (base := w8.heap.size) (l := (needs.map Ned.nm).take i) (A := some ⟨w9.heap.size + 1, 0, none⟩) (c := 1) (r := [nm]) rfl ((hO.out.alloc _).alloc _) rfl (srcS_box (by exact HBS.out)) ?c1 ?c2 ?_)
              case c1 => rw [htl]; simp; omega
              case c2 => simp; omega
              intro v10 w10 ho10 hg10
              rw [← htk.out] at ho10
              have HO10 := Lib.hid ho10
              have HU10 : Hid (Upd [] w8 w10) := Lib.hid (((hU.out.alloc _).alloc _).grown hg10 (fun q hq => (hO.out.lt q hq).1))
              clear ho10 hg10 hO hU HBS c0 c1
              go_wp2_with fail
              go_roundg (needs.length - (i + 1))
              case measure => omega
              case rel => exact ⟨i + 1, by go_num, by omega, rfl, HO10, HU10⟩
            · have hlt : ¬ (i : Int) < (needs.length : Int) := by omega
              have hi2 : i = needs.length := by omega
              subst hi2
              have hO' := hO.out
              rw [List.take_of_length_le (by simp)] at hO'
              have HN := Lib.hid (names_ok K _ _ _ w9 (fun W (u : Upd [K] w9 W) => (hO'.keepK u hK8).strs) (fun s hs => by
                obtain ⟨n, hn, rfl⟩ := List.mem_map.1 hs
                have := HFH.out.2.2.1 n hn
                unfold FitNd at this
                omega) (hJ8.out.lk.keep hU.out))
              have HJ9 := Lib.hid (hJ8.out.keep hU.out)
              have HO9 := Lib.hid (HO8.out.keepK (hU.out.one (K := K)) (by omega))
              have HB9 := Lib.hid ((hU.out.block C hC8 (by simp)).trans HB8.out)
              have hle := hU.out.size
              clear hO' hO hU HO8 HB8 hJ8
              go_wp2_with fail
              refine HN.out.mono ?_
              rintro e w10 ⟨rfl, hl10, hu10⟩
              have HJ10 : Hid (CkIn w SR w.heap.size K ⟨M2, k'.n || twice (needs.map Ned.nm), k'.f⟩ w10) := Lib.hid (HJ9.out.look hl10 hu10 hBK hKK)
              have HO10 := Lib.hid (HO9.out.keepK hu10 (by omega))
              have hb10 := (hu10.block C (lt_of_blk HB9.out) (by simpa using hCK)).trans HB9.out
              have hle10 := hu10.size
              have y2 : w10.cell? ⟨C, 2, none⟩ = some (.slice ca cases.length ccap) := cell_blk hb10 2
              clear hl10 hu10 hb10 HJ9 HO9 HB9 HN y1
              go_wp2_with fail
              go_loopg [12, 73] cases.length (fun n _ t73 wr2 => ∃ (i : Nat) (k3 : Lk), t73 = .int .i64 i ∧ i ≤ cases.length ∧ n = cases.length - i ∧ Hid (K2 = k3.or (lkL lkK (cases.drop i))) ∧ Hid (CkIn w SR w.heap.size K k3 wr2) ∧ Hid (OwnS wr2 (w.heap.size + 2) v7 (List.take (j + 1) (List.map Hdl.cmd hs))) ∧ w.heap.size + 2 ≤ wr2.heap.size)
              case atStart => exact ⟨0, _, rfl, by omega, rfl, hlc, HJ10, HO10, by omega⟩
              case round =>
                obtain ⟨i, k3, rfl, hi, rfl, hA3, hJ3, hO3, hs3⟩ := hrel
                generalize wr = w11 at *
                by_cases hil : i < cases.length
                · have hlt : (i : Int) < (cases.length : Int) := by omega
                  obtain ⟨a', cap', hv, g1', g2', g3⟩ := HX0.out.2.keep hJ3.out.upd
                  simp only [Value.slice.injEq] at hv
                  obtain ⟨rfl, -, rfl⟩ := hv
                  unfold maxLen at g2'
                  obtain ⟨b2, off2, rfl, hy⟩ := g3 i hil
                  obtain ⟨⟨c0, c1, c2⟩, hq1, hq2⟩ := hy
                  obtain ⟨xa, xcap, hxv, -, -⟩ := hq1.isSlice
                  obtain ⟨za, zcap, hzv, -, -⟩ := hq2.isSlice
                  have hx1 : CdsAt w cases[i].wv cases[i].when ∧ EmtsAt w cases[i].ev cases[i].emits := by
                    obtain ⟨a2, cap2, hv2, q1, q2, q3⟩ := HX0.out.2
                    obtain ⟨b3, off3, e3, hy3⟩ := q3 i hil
                    exact hy3.2
                  have hfk := HFH.out.2.2.2 cases[i] (List.getElem_mem hil)
                  have hT3 : Hid (K2 = (k3.or (lkK cases[i])).or (lkL lkK (cases.drop (i + 1)))) := Lib.hid (by rw [hA3.out, lkL_drop _ cases i hil, Lk.or_assoc])
                  have hu0 : Upd [] w11 (w11.alloc (boxK cases[i])) := (Upd.refl [] w11).alloc _
                  have HE := Lib.hid (kase_ok K k3 cases[i] w (w11.alloc (boxK cases[i])) hKK hx1.1 hx1.2 hfk (hJ3.out.upd.trans hu0) (hJ3.out.lk.keep hu0))
                  have HJ4 := Lib.hid (hJ3.out.keep hu0)
                  have HO4 := Lib.hid (hO3.out.keepK (hu0.one (K := K)) (by omega))
                  have hs4 : w.heap.size + 2 ≤ (w11.alloc (boxK cases[i])).heap.size := by simp; omega
                  clear g3 hx1 hfk hu0 hJ3 hO3 hq1 hq2
                  generalize hyy : cases[i] = y at *
                  clear hyy
                  obtain ⟨wv, when, refuse, ev, emits⟩ := y
                  dsimp only at hxv hzv c0 c1 c2 HE HJ4 HO4 hs4 hT3
                  subst hxv hzv
                  go_wp2_with fail
                  refine HE.out.mono ?_
                  rintro e w12 ⟨rfl, hl12, hu12⟩
                  have HJ12 := Lib.hid (HJ4.out.look hl12 hu12 hBK hKK)
                  have HO12 := Lib.hid (HO4.out.keepK hu12 (by omega))
                  have hle12 := hu12.size
                  clear hl12 hu12 HJ4 HO4 HE c0 c1 c2
                  go_wp2_with fail
                  go_roundg (cases.length - (i + 1))
                  case measure => omega
                  case rel => exact ⟨i + 1, _, by go_num, by omega, rfl, hT3, HJ12, HO12, by omega⟩
                · have hlt : ¬ (i : Int) < (cases.length : Int) := by omega
                  have hi2 : i = cases.length := by omega
                  subst hi2
                  have hKe : Hid (K2 = k3) := Lib.hid (by rw [hA3.out, List.drop_eq_nil_of_le (by omega), lkL, Lk.or_nil])
                  have HJe : Hid (CkIn w SR w.heap.size K K2 w11) := Lib.hid (by rw [hKe.out]; exact hJ3.out)
                  clear hJ3 hA3 hKe
                  go_wp2_with fail
                  go_roundg (hs.length - (j + 1))
                  case measure => omega
                  case rel => exact ⟨j + 1, K2, by go_num, by omega, rfl, hO3, hT', HJe, hs3⟩
      · have hlt : ¬ (j : Int) < (hs.length : Int) := by omega
        have hj2 : j = hs.length := by omega
        subst hj2
        have hT' : Hid (T = (k'.or (lkL lkE (es.drop 0))).or ⟨false, twice (hs.map Hdl.cmd) || twice (es.map Evo.ty), false⟩) := Lib.hid (by rw [hA.out, List.drop_eq_nil_of_le (by omega), lkL, Lk.or_nil, List.drop_zero])
        have hO' := hO.out
        rw [List.take_of_length_le (by simp)] at hO'
        have HO := Lib.hid hO'
        have hb1 := hJ.out.box
        rw [HSR.out] at hb1
        have r1 : wr.cell? ⟨w.heap.size, 1, none⟩ = some (.slice ea es.length ecap) := cell_blk hb1 1
        clear hb1 hO hO' hA r0
        generalize wr = w2 at *
        have hle20 : es.length * 64 ≤ 140737488355328 := hle
        go_wp2_with fail
        go_loopg [5, 14, 16, 84, 85, 86, 87, 88, 89, 90, 91, 92, 93, 94, 95, 96, 97, 98, 99, 100, 101, 102, 103, 104, 105, 106, 107, 108, 109, 110, 111, 112, 113, 114, 115, 116, 117, 118] es.length (fun n t5 _ _ t84 _ _ _ _ _ _ _ _ _ _ _ _ _ _ _ _ _ _ _ _ _ _ _ _ _ _ _ _ _ _ _ _ _ _ wr => ∃ (j : Nat) (k2 : Lk), t84 = .int .i64 j ∧ j ≤ es.length ∧ n = es.length - j ∧ Hid (OwnS wr w2.heap.size t5 ((es.map Evo.ty).take j)) ∧ Hid (T = (k2.or (lkL lkE (es.drop j))).or ⟨false, twice (hs.map Hdl.cmd) || twice (es.map Evo.ty), false⟩) ∧ Hid (CkIn w SR w.heap.size K k2 wr) ∧ Hid (Upd [K] w2 wr))
        case atStart => exact ⟨0, _, rfl, by omega, rfl, Lib.hid (own_nilS _ _), hT', hJ, Lib.hid (Upd.refl _ _)⟩
        case round =>
          obtain ⟨j, k2, rfl, hj, rfl, hO, hA, hJ, hU3⟩ := hrel
          have hs2 : w.heap.size + 2 ≤ w2.heap.size := hsz
          have hs3 := hU3.out.size
          generalize wr = w3 at *
          by_cases hjl : j < es.length
          · have hlt : (j : Int) < (es.length : Int) := by omega
            obtain ⟨a', cap', hv, g1, g2, g3⟩ := HE.out.keep hJ.out.upd
            simp only [Value.slice.injEq] at hv
            obtain ⟨rfl, -, rfl⟩ := hv
            obtain ⟨b, off, rfl, hy⟩ := g3 j hjl
            obtain ⟨⟨c0, c1, c2⟩, hn, hc⟩ := hy
            obtain ⟨xa, xcap, hxv, -, -⟩ := hn.isSlice
            obtain ⟨za, zcap, hzv, -, -⟩ := hc.isSlice
            have hfh := HF.out.2.2.2 es[j] (List.getElem_mem hjl)
            have hT3 : Hid (T = ((k2.or (lkE es[j])).or (lkL lkE (es.drop (j + 1)))).or ⟨false, twice (hs.map Hdl.cmd) || twice (es.map Evo.ty), false⟩) := Lib.hid (by rw [hA.out, lkL_drop _ es j hjl, ← Lk.or_assoc k2 (lkE es[j])])
            have hx0 : AsgsAt w es[j].sv es[j].sets ∧ StrsAt w es[j].dv es[j].drops := by
              obtain ⟨a2, cap2, hv2, q1, q2, q3⟩ := HE.out
              obtain ⟨b2, off2, e2, hy2⟩ := q3 j hjl
              exact hy2.2
            have htk : Hid ((es.map Evo.ty).take (j + 1) = (es.map Evo.ty).take j ++ [es[j].ty]) := Lib.hid (by rw [List.take_add_one, List.getElem?_map, List.getElem?_eq_getElem hjl]; rfl)
            have htl : ((es.map Evo.ty).take j).length = j := by simp; omega
            have hlc : Hid (k2.or (lkE es[j]) = (((Lk.mk (k2.m || decide (16 < es[j].drops.length)) k2.n k2.f).or (lkS es[j].sets)).or ⟨false, ((es[j].sets.map Asg.nm ++ es[j].drops).drop 0).any (fun s => !nameOk s), false⟩)) := Lib.hid (by
              unfold lkE
              rw [← Lk.or_assoc, ← Lk.or_assoc, List.drop_zero]
              simp [Lk.or])
            clear g3 hn hc
            generalize hXX : k2.or (lkE es[j]) = K2 at *
            generalize es[j] = y at *
            clear hXX hA
            obtain ⟨ty, sv, sets, dv, drops⟩ := y
            dsimp only at hxv hzv c0 c1 c2 hfh hx0 htk hlc
            subst hxv hzv
            have HX0 := Lib.hid hx0
            have HFH := Lib.hid hfh
            clear hx0 hfh
            have HBX : Hid (((w3.alloc (boxE ⟨ty, .slice xa sets.length xcap, sets, .slice za drops.length zcap, drops⟩)).alloc (.cells #[.string ty] 9)).heap[w3.heap.size]? = some (boxE ⟨ty, .slice xa sets.length xcap, sets, .slice za drops.length zcap, drops⟩)) := Lib.hid (blk_alloc (by rw [heap_alloc, if_pos rfl]))
            have HBS : Hid (((w3.alloc (boxE ⟨ty, .slice xa sets.length xcap, sets, .slice za drops.length zcap, drops⟩)).alloc (.cells #[.string ty] 9)).heap[w3.heap.size + 1]? = some (.cells #[.string ty] 9 (0, 0))) := Lib.hid (by rw [heap_alloc, if_pos (by simp)])
            go_wp2_with (at_builtin; refine wpList_append_str rfl _ _ rfl (base := w2.heap.size) (l := (es.map Evo.ty).take j) (A := some ⟨w3.heap.size + 1, 0, none⟩) (c := 1) (r := [ty]) rfl ((hO.out.alloc _).alloc _) rfl (srcS_box (by exact HBS.out)) ?c1 ?c2 ?_)
            case c1 => rw [htl]; simp; omega
            case c2 => simp; omega
            intro v7 w7 ho7 hg7
            have hJ7 : CkIn w SR w.heap.size K k2 w7 := CkIn.grown (base := w2.heap.size) ((hJ.out.keep ((Upd.refl [] w3).alloc _)).keep ((Upd.refl [] _).alloc _)) hg7 ((hO.out.alloc _).alloc _) (by omega) (by omega) (by omega)
            have hb7 : w7.heap[w3.heap.size]? = some (boxE ⟨ty, .slice xa sets.length xcap, sets, .slice za drops.length zcap, drops⟩) := (hg7.block _ (lt_of_blk HBX.out) (fun q => by have := (hO.out.lt _ q.symm).2; omega)).trans HBX.out
            have hu7 : Upd [K] w2 w7 := ((hU3.out.alloc _).alloc _).grown hg7 (fun q hq => (hO.out.lt q hq).1)
            rw [← htk.out] at ho7
            have hs7 : w2.heap.size ≤ w7.heap.size := hu7.size
            have hCK : w3.heap.size ≠ K := by omega
            have HO7 := Lib.hid ho7
            have HJ7 := Lib.hid hJ7
            have HB7 := Lib.hid hb7
            have HU7 := Lib.hid hu7
            clear hJ7 hb7 ho7 hg7 hu7 HBX HBS c0 c1 c2 hO hJ htk htl hU3
            obtain ⟨C, hCd⟩ : ∃ C, C = w3.heap.size := ⟨_, rfl⟩
            rw [← hCd] at hCK HB7
            go_upto_region 25 with (fail)
            rw [← hCd]
            clear hCd hs3
            obtain ⟨M2, hM0⟩ : ∃ M2, M2 = (k2.m || decide (16 < drops.length)) := ⟨_, rfl⟩
            rw [← hM0] at hlc
            go_cut [] (fun W2 => Hid (CkIn w SR w.heap.size K ⟨M2, k2.n, k2.f⟩ W2) ∧ Hid (Upd [K] w7 W2))
            case first =>
              have k0 : w7.cell? ⟨K, 0, none⟩ = some (.bool k2.m) := cell_blk HJ7.out.lk 0
              have fz : w7.frozen? ⟨K, 0, none⟩ = false := frozen_blk HJ7.out.lk 0
              have y2 : w7.cell? ⟨C, 2, none⟩ = some (.slice za drops.length zcap) := cell_blk HB7.out 2
              have hD : ∀ g : Bool, Hid (CkIn w SR w.heap.size K ⟨g, k2.n, k2.f⟩ (w7.setCell ⟨K, 0, none⟩ (.bool g)) ∧ Upd [K] w7 (w7.setCell ⟨K, 0, none⟩ (.bool g))) := fun g => by
                have hu : Upd [K] w7 (w7.setCell ⟨K, 0, none⟩ (.bool g)) := (Upd.refl [K] w7).setCell (by simp) 0 _
                exact Lib.hid ⟨HJ7.out.look (HJ7.out.lk.set 0 g _ rfl) hu hBK hKK, hu⟩
              cases hkm : k2.m with
              | true =>
                rw [hkm] at k0
                obtain rfl : M2 = true := by rw [hM0, hkm]; rfl
                have hE := hD true
                clear hD hM0 hkm
                go_wp2_with fail
                go_meet
                case rel => exact ⟨Lib.hid hE.out.1, Lib.hid hE.out.2⟩
              | false =>
                rw [hkm] at k0
                have hM1 : M2 = decide (16 < drops.length) := by rw [hM0, hkm]; rfl
                clear hM0 hkm
                by_cases h1 : 16 < drops.length
                · have hi : (16 : Int) < (drops.length : Int) := by omega
                  obtain rfl : M2 = true := by rw [hM1, decide_eq_true h1]
                  have hE := hD true
                  clear hD hM1 h1
                  go_wp2_with fail
                  go_meet
                  case rel => exact ⟨Lib.hid hE.out.1, Lib.hid hE.out.2⟩
                · have hi : ¬ (16 : Int) < (drops.length : Int) := by omega
                  obtain rfl : M2 = false := by rw [hM1, decide_eq_false h1]
                  have hE := hD false
                  clear hD hM1 h1
                  go_wp2_with fail
                  go_meet
                  case rel => exact ⟨Lib.hid hE.out.1, Lib.hid hE.out.2⟩
            case rest =>
              obtain ⟨hJ8, hU8⟩ := hcut
              clear hM0
              generalize wc = w8 at *
              have hK2 : K < w2.heap.size := by omega
              have hO8 := HO7.out.keepK hU8.out hK2
              have hb8 := (hU8.out.block _ (lt_of_blk HB7.out) (by simpa using hCK)).trans HB7.out
              have HU28 := Lib.hid (HU7.out.trans hU8.out)
              have hs8 := hU8.out.size
              have hKB : K < w8.heap.size := by omega
              have hs8' : w2.heap.size ≤ w8.heap.size := by omega
              have y1 : w8.cell? ⟨C, 1, none⟩ = some (.slice xa sets.length xcap) := cell_blk hb8 1
              have y2 : w8.cell? ⟨C, 2, none⟩ = some (.slice za drops.length zcap) := cell_blk hb8 2
              have hze : sets.length * 72 ≤ 140737488355328 ∧ drops.length * 16 ≤ 140737488355328 := ⟨HFH.out.2.1, HFH.out.2.2.1⟩
              have HSe := Lib.hid (sets_ok K _ _ sets w w8.drew hKK HX0.out.1 HFH.out.2.2.2.1 (by omega) hJ8.out.upd.drew (hJ8.out.lk.keep (Upd.refl [] w8).drew))
              have HO8 := Lib.hid hO8
              have HCC := Lib.hid (lt_of_blk hb8)
              have HKp := Lib.hid (fun (W : World) (u : Upd [K] w8 W) => (show W.cell? ⟨C, 1, none⟩ = some (.slice xa sets.length xcap) ∧ W.cell? ⟨C, 2, none⟩ = some (.slice za drops.length zcap) by
                have q2 := (u.block C (lt_of_blk hb8) (by simpa using hCK)).trans hb8
                exact ⟨cell_blk q2 1, cell_blk q2 2⟩))
              clear hO8 hb8 HO7 HJ7 HB7 hU8 HU7 hs7 hs8
              go_upto_region 26 with (fail)
              go_cut [108, 109, 110] (fun s8 s9 s10 W2 => ∃ l, Hid (l = sets.map Asg.nm ++ drops) ∧ s9 = .int .i64 (l.length : Int) ∧ s10 = .int .i64 0 ∧ Hid (OwnS W2 w8.heap.size s8 l) ∧ Hid (LkAt W2 K ((Lk.mk M2 k2.n k2.f).or (lkS sets))) ∧ Hid (Upd [K] w8 W2))
              case first =>
                go_region_held3 (fun W => W.cell? ⟨C, 1, none⟩ = some (.slice xa sets.length xcap) ∧ W.cell? ⟨C, 2, none⟩ = some (.slice za drops.length zcap))
                  (first
                    | go_keep
                    | exact HKp.out _ hub
                    | exact HKp.out _ (hua.alloc _)
                    | exact HKp.out _ hua)
                  (first
                    | (go_at_call 92; refine HSe.out.mono ?_; rintro e wa ⟨v6, rfl, ho6, hl6, hua'⟩; obtain ⟨a6, c6, hv6, -, -⟩ := ho6.strs.isSlice; rw [List.length_map] at hv6; subst hv6; have hua : Upd [K] w8 wa := (Upd.refl [K] w8).drew.trans hua'; have ha := HX0.out.2.keep (hJ8.out.upd.old hKK hua); have htop : (wa.alloc (.cells #[.slice a6 sets.length c6, .slice za drops.length zcap] 106)).heap[wa.heap.size]? = some (.cells #[.slice a6 sets.length c6, .slice za drops.length zcap] 106 (0, 0)) := (by rw [heap_alloc, if_pos rfl]); have HCo := Lib.hid (concat_ok _ _ (wa.alloc (.cells #[.slice a6 sets.length c6, .slice za drops.length zcap] 106)) (sts_two htop ((ho6.strs).keep ((Upd.refl [] wa).alloc _)) (ha.keep ((Upd.refl [] wa).alloc _))) (by rw [totS_two]; simp only [List.length_map]; omega)); clear hua' htop ha)
                    | (go_at_call 91; refine HCo.out.mono ?_; rintro e wb ⟨v9, rfl, ho9, hub'⟩; obtain ⟨a9, c9, hv9, -, -⟩ := ho9.strs.isSlice; rw [catS_two, List.length_append, List.length_map] at hv9; subst hv9; have hub : Upd [K] w8 wb := (hua.alloc _).trans hub'.one))
                all_goals
                  have hb9 : w8.heap.size ≤ (wa.alloc (.cells #[.slice a6 sets.length c6, .slice za drops.length zcap] 106)).heap.size := (hua.alloc _).size
                  have HL9 : Hid (LkAt wb K ((Lk.mk M2 k2.n k2.f).or (lkS sets))) := Lib.hid ((hl6.keep ((Upd.refl [] wa).alloc _)).keep hub')
                  have HO9 : Hid (OwnS wb w8.heap.size (.slice a9 (sets.length + drops.length) c9) (sets.map Asg.nm ++ drops)) := Lib.hid (by rw [catS_two] at ho9; exact ho9.base hb9)
                  have HU9 := Lib.hid hub
                  clear hb9 ho9 hl6 hub hub' hua ho6 HCo HSe HKp
                  go_wp2_with fail
                  go_meet
                  case rel => exact ⟨_, Lib.hid rfl, by simp, rfl, HO9, HL9, HU9⟩
              case rest =>
                obtain ⟨l, hl, rfl, rfl, hO9, hL9, hU9⟩ := hcut
                generalize wc = w9 at *
                have hll : l.length = sets.length + drops.length := by rw [hl.out]; simp
                have hzl : ∀ s ∈ l, s.size ≤ 9223372036854775807 := by
                  intro s hs
                  rw [hl.out] at hs
                  rcases List.mem_append.1 hs with h | h
                  · obtain ⟨x, hx, rfl⟩ := List.mem_map.1 h
                    have := (HFH.out.2.2.2.1 x hx).1
                    omega
                  · have := HFH.out.2.2.2.2 s h
                    omega
                rw [← hl.out] at hlc
                obtain ⟨a9, c9, hv9, -, -⟩ := hO9.out.strs.isSlice
                subst hv9
                have HZL := Lib.hid hzl
                have hlb : l.length ≤ 281474976710656 := by omega
                clear hll
                have HJ9 := Lib.hid (hJ8.out.look hL9.out hU9.out hBK hKK)
                have HO29 := Lib.hid (HO8.out.keepK hU9.out hK2)
                have HU29 := Lib.hid (HU28.out.trans hU9.out)
                have hs9 := hU9.out.size
                have hK9 : K < w9.heap.size := by omega
                clear hzl hl HKp HSe HCC hJ8 HO8 HU28 y1 y2 hL9 hU9
                generalize (Lk.mk M2 k2.n k2.f).or (lkS sets) = K3 at *
                go_wp2_with fail
                go_loopg [16, 110, 111, 112, 113, 114, 115, 116, 117] l.length (fun n _ t110 _ _ _ _ _ _ _ wr => ∃ (i : Nat) (k4 : Lk), t110 = .int .i64 i ∧ i ≤ l.length ∧ n = l.length - i ∧ Hid (K2 = k4.or ⟨false, (l.drop i).any fun s => !nameOk s, false⟩) ∧ Hid (CkIn w SR w.heap.size K k4 wr) ∧ Hid (Upd [K] w9 wr))
                case atStart => exact ⟨0, _, rfl, by omega, rfl, hlc, HJ9, Lib.hid (Upd.refl _ _)⟩
                case round =>
                  obtain ⟨i, k4, rfl, hi, rfl, hA4, hJ4, hU4⟩ := hrel
                  generalize wr = w10 at *
                  by_cases hil : i < l.length
                  · have hlt : (i : Int) < (l.length : Int) := by omega
                    obtain ⟨a', cap', hv, g1', g2', g3⟩ := (hO9.out.keepK hU4.out hKB).strs
                    simp only [Value.slice.injEq] at hv
                    obtain ⟨rfl, -, rfl⟩ := hv
                    obtain ⟨b2, off2, rfl, hy⟩ := g3 i hil
                    have c0 : w10.cell? ⟨b2, off2 + i * 1, none⟩ = some (.string l[i]) := hy
                    rw [Nat.mul_one] at c0
                    have hzi := HZL.out l[i] (List.getElem_mem hil)
                    have hK5 : Hid (K2 = (Lk.mk k4.m (k4.n || twice [l[i]]) k4.f).or ⟨false, (l.drop (i + 1)).any fun s => !nameOk s, false⟩) := Lib.hid (by rw [hA4.out, any_drop _ _ _ hil, twice_one]; simp only [Lk.or, Bool.or_assoc, Bool.or_false])
                    clear g3 hy
                    generalize l[i] = nm at *
                    have hbx : (w10.alloc (.cells #[.string nm] 9)).heap[w10.heap.size]? = some (.cells #[.string nm] 9 (0, 0)) := by rw [heap_alloc, if_pos rfl]
                    have hs10 := hU4.out.size
                    have HN := Lib.hid (names_ok K k4 _ [nm] _ (strs_box hbx (by omega)) (by intro s hs; simp at hs; subst hs; exact hzi) (hJ4.out.lk.keep ((Upd.refl [] w10).alloc _)))
                    have HJ5 := Lib.hid (hJ4.out.keep ((Upd.refl [] w10).alloc (.cells #[.string nm] 9)))
                    have HU5 := Lib.hid (hU4.out.alloc (.cells #[.string nm] 9))
                    clear hbx hJ4 hU4
                    go_wp2_with fail
                    refine HN.out.mono ?_
                    rintro e w12 ⟨rfl, hl12, hu12⟩
                    have HJ12 := Lib.hid (HJ5.out.look hl12 hu12 hBK hKK)
                    have HU12 := Lib.hid (HU5.out.trans hu12)
                    clear hl12 hu12 HJ5 HU5 HN c0
                    go_wp2_with fail
                    go_roundg (l.length - (i + 1))
                    case measure => omega
                    case rel => exact ⟨i + 1, _, by go_num, by omega, rfl, hK5, HJ12, HU12⟩
                  · have hlt : ¬ (i : Int) < (l.length : Int) := by omega
                    have hi2 : i = l.length := by omega
                    subst hi2
                    have hKe : Hid (K2 = k4) := Lib.hid (by rw [hA4.out, List.drop_eq_nil_of_le (by omega), List.any_nil, Lk.or_nil])
                    have HJe : Hid (CkIn w SR w.heap.size K K2 w10) := Lib.hid (by rw [hKe.out]; exact hJ4.out)
                    have HO10 := Lib.hid (HO29.out.keepK hU4.out hK2)
                    have HU10 := Lib.hid (HU29.out.trans hU4.out)
                    clear hJ4 hA4 hKe hU4
                    go_wp2_with fail
                    go_roundg (es.length - (j + 1))
                    case measure => omega
                    case rel => exact ⟨j + 1, K2, by go_num, by omega, rfl, HO10, hT3, HJe, HU10⟩
          · have hlt : ¬ (j : Int) < (es.length : Int) := by omega
            have hj2 : j = es.length := by omega
            subst hj2
            have hT3 : Hid (T = k2.or ⟨false, twice (hs.map Hdl.cmd) || twice (es.map Evo.ty), false⟩) := Lib.hid (by rw [hA.out, List.drop_eq_nil_of_le (by omega), lkL, Lk.or_nil])
            have hO' := hO.out
            rw [List.take_of_length_le (by simp)] at hO'
            have hK2 : K < w2.heap.size := by omega
            have HOe := Lib.hid hO'
            have HOh := Lib.hid (HO.out.keepK hU3.out (by omega))
            have HN := Lib.hid (names_ok K k2 _ _ w3 (fun W u => ((HOh.out.keepK u (by omega)).strs)) (fun s hs => by
              obtain ⟨x, hx, rfl⟩ := List.mem_map.1 hs
              have := (HF.out.2.2.1 x hx).1
              omega) hJ.out.lk)
            clear hO hO' hA r1 HO hU3
            go_wp2_with fail
            refine HN.out.mono ?_
            rintro e w4 ⟨rfl, hl4, hu4⟩
            have HJ4 := Lib.hid (hJ.out.look hl4 hu4 hBK hKK)
            have HO4 := Lib.hid (HOe.out.keepK hu4 hK2)
            have HN2 := Lib.hid (names_ok K _ _ _ w4 (fun W u => ((HO4.out.keepK u hK2).strs)) (fun s hs => by
              obtain ⟨x, hx, rfl⟩ := List.mem_map.1 hs
              have := (HF.out.2.2.2 x hx).1
              omega) HJ4.out.lk)
            clear hl4 hu4 HN hJ HOe HOh
            go_wp2_with fail
            refine HN2.out.mono ?_
            rintro e w5 ⟨rfl, hl5, hu5⟩
            have HJ5 := Lib.hid (HJ4.out.look hl5 hu5 hBK hKK)
            have hU5 := Lib.hid HJ5.out.upd
            have k0 : w5.cell? ⟨K, 0, none⟩ = some (.bool k2.m) := cell_blk hl5 0
            have k1 : w5.cell? ⟨K, 1, none⟩ = some (.bool ((k2.n || twice (hs.map Hdl.cmd)) || twice (es.map Evo.ty))) := cell_blk hl5 1
            have k3 : w5.cell? ⟨K, 2, none⟩ = some (.bool k2.f) := cell_blk hl5 2
            have HR : Hid (R = Lk.code ⟨k2.m, (k2.n || twice (hs.map Hdl.cmd)) || twice (es.map Evo.ty), k2.f⟩) := Lib.hid (by rw [HC.out, hT3.out]; simp [Lk.or, Bool.or_assoc])
            clear hl5 hu5 HN2 HJ4 HO4 HJ5 hT3 HC
            generalize ((k2.n || twice (hs.map Hdl.cmd)) || twice (es.map Evo.ty)) = fn at *
            obtain ⟨fm, fx, ff⟩ := k2
            dsimp only at k0 k3 HR
            cases fm with
            | true =>
              go_wp2_with fail
              go_ret
              exact ⟨by rw [HR.out]; rfl, hU5.out⟩
            | false => cases fn with
              | true =>
                go_wp2_with fail
                go_ret
                exact ⟨by rw [HR.out]; rfl, hU5.out⟩
              | false => cases ff with
                | true =>
                  go_wp2_with fail
                  go_ret
                  exact ⟨by rw [HR.out]; rfl, hU5.out⟩
                | false =>
                  go_wp2_with fail
                  go_ret
                  exact ⟨by rw [HR.out]; rfl, hU5.out⟩
end Go.Proofs.YtajppgngoffonaaGreatDoor
