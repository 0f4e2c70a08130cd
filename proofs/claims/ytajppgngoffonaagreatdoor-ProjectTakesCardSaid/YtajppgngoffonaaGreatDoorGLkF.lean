/- The look: a case (printed by gkase.py). -/
import Derived.Test.YtajppgngoffonaaGreatDoorGLk
namespace Go.Proofs.YtajppgngoffonaaGreatDoor
open Go.RowKit

abbrev boxK (c : Cse) : Obj := .cells #[c.wv, .string c.refuse, c.ev] 159
abbrev boxCd (c : Cd) : Obj := .cells #[.int .i64 c.kd, .bool c.nt, .int .i64 c.a.kd, .int .i64 c.a.n, .string c.a.s, c.a.av, .int .i64 c.b.kd, .int .i64 c.b.n, .string c.b.s, c.b.av] 168
abbrev boxM (m : Emt) : Obj := .cells #[.string m.ty, m.sv] 192

theorem empty_size (a : ByteArray) : decide (a.size = 0) = a.toList.isEmpty := by
  rw [ByteArray.toList_eq, Bool.eq_iff_iff]
  simp only [decide_eq_true_eq, List.isEmpty_iff, Array.toList_eq_nil_iff]
  constructor
  · intro h
    exact Array.eq_empty_of_size_eq_zero h
  · intro h
    show a.data.size = 0
    rw [h]
    rfl

theorem strs_box {w : World} {B K : Nat} {s : ByteArray} (h : w.heap[B]? = some (.cells #[.string s] 9 (0, 0))) (hne : B ≠ K) : ∀ W, Upd [K] w W → StrsAt W (.slice (some ⟨B, 0, none⟩) 1 1) [s] := by
  intro W u
  have hb := (u.block B (lt_of_blk h) (by simpa using hne)).trans h
  refine ⟨_, 1, rfl, by simp, by unfold maxLen; omega, fun i hi => ⟨B, 0, rfl, ?_⟩⟩
  have : i = 0 := by simpa using hi
  subst this
  exact cell_blk hb 0

def hasB (kd akd : Int) : Bool := if kd = 4 then asksN akd else decide (kd = 1 ∨ kd = 2 ∨ kd = 3)

set_option maxRecDepth 100000 in
set_option maxHeartbeats 8000000 in
theorem kase_ok (K : Nat) (k : Lk) (c : Cse) (w0 w : World) (hK : w0.heap.size ≤ K) (hcs : CdsAt w0 c.wv c.when) (hes : EmtsAt w0 c.ev c.emits) (hfit : FitK c) (u : Upd [] w0 w) (hk : LkAt w K k) :
    Calls Tryz.prog 90 #[.pointer (some ⟨K, 0, none⟩), aggK c] w fun e w' => e = .returned (.tuple #[]) ∧ LkAt w' K (k.or (lkK c)) ∧ Upd [K] w w' := by
  have HCS := Lib.hid hcs
  have HES := Lib.hid hes
  have HZ := Lib.hid hfit
  have HU0 := Lib.hid u
  have HR : Hid (k.or (lkK c) = (Lk.mk (k.m || (decide (16 < c.when.length) || decide (16 < c.emits.length))) k.n (k.f || (decide (200 < c.refuse.size) || (decide (c.refuse.size = 0) != decide (0 < c.emits.length))))).or ((lkL lkC (c.when.drop 0)).or (lkL lkM c.emits))) := Lib.hid (by
    unfold lkK
    rw [← Lk.or_assoc, List.drop_zero]
    simp [Lk.or])
  obtain ⟨wa, wcap, hwv, hw1, hw2⟩ := hcs.isSlice
  obtain ⟨ea, ecap, hev, he1, he2⟩ := hes.isSlice
  have HL0 := Lib.hid (hk.keep ((Upd.refl [] w).alloc (boxK c)))
  have HU1 : Hid (Upd [K] w (w.alloc (boxK c))) := Lib.hid ((Upd.refl [K] w).alloc _)
  have hb0 : (w.alloc (boxK c)).heap[w.heap.size]? = some (boxK c) := by rw [heap_alloc, if_pos rfl]
  have HB0 := Lib.hid hb0
  have hKw := hk.lt
  have hBK : w.heap.size ≠ K := by omega
  generalize k.or (lkK c) = T at *
  obtain ⟨wv, when, refuse, ev, emits⟩ := c
  dsimp only at hwv hev HR HL0 HU1 HB0 HZ HCS HES hw1 he1
  obtain ⟨M, hM0⟩ : ∃ M, M = (k.m || (decide (16 < when.length) || decide (16 < emits.length))) := ⟨_, rfl⟩
  obtain ⟨G, hG0⟩ : ∃ G, G = (k.f || (decide (200 < refuse.size) || (decide (refuse.size = 0) != decide (0 < emits.length)))) := ⟨_, rfl⟩
  rw [← hM0, ← hG0] at HR
  have HG := Lib.hid hG0
  subst hwv hev
  clear hb0 hk hcs hes hfit u hG0
  go_enter Tryz.func90, Tryz.ntmps90
  go_upto_region 1 with (fail)
  change Code.wp _ _ _ _ (w.alloc (boxK ⟨.slice wa when.length wcap, when, refuse, .slice ea emits.length ecap, emits⟩))
  generalize (w.alloc (boxK ⟨.slice wa when.length wcap, when, refuse, .slice ea emits.length ecap, emits⟩)) = W at *
  generalize hBq : w.heap.size = B at *
  go_cut [] (fun W2 => Hid (LkAt W2 K ⟨M, k.n, k.f⟩) ∧ Hid (W2.heap[B]? = some (boxK ⟨.slice wa when.length wcap, when, refuse, .slice ea emits.length ecap, emits⟩)) ∧ Hid (Upd [K] w W2))
  case first =>
    have k0 : W.cell? ⟨K, 0, none⟩ = some (.bool k.m) := cell_blk HL0.out 0
    have fz : W.frozen? ⟨K, 0, none⟩ = false := frozen_blk HL0.out 0
    have y0 : W.cell? ⟨B, 0, none⟩ = some (.slice wa when.length wcap) := cell_blk HB0.out 0
    have y2 : W.cell? ⟨B, 2, none⟩ = some (.slice ea emits.length ecap) := cell_blk HB0.out 2
    have hD : ∀ g : Bool, Hid (LkAt (W.setCell ⟨K, 0, none⟩ (.bool g)) K ⟨g, k.n, k.f⟩ ∧ (W.setCell ⟨K, 0, none⟩ (.bool g)).heap[B]? = some (boxK ⟨.slice wa when.length wcap, when, refuse, .slice ea emits.length ecap, emits⟩) ∧ Upd [K] w (W.setCell ⟨K, 0, none⟩ (.bool g))) := fun g =>
      Lib.hid ⟨HL0.out.set 0 g _ rfl, by rw [heap_setCell, if_neg hBK]; exact HB0.out, HU1.out.setCell (by simp) 0 _⟩
    cases hkm : k.m with
    | true =>
      rw [hkm] at k0
      obtain rfl : M = true := by rw [hM0, hkm]; rfl
      have hE := hD true
      clear hD hM0 hkm
      go_wp2_with fail
      go_meet
      case rel => exact ⟨Lib.hid hE.out.1, Lib.hid hE.out.2.1, Lib.hid hE.out.2.2⟩
    | false =>
      rw [hkm] at k0
      have hM1 : M = (decide (16 < when.length) || decide (16 < emits.length)) := by rw [hM0, hkm]; rfl
      clear hM0 hkm
      by_cases h1 : 16 < when.length
      · have hi : (16 : Int) < (when.length : Int) := by omega
        obtain rfl : M = true := by rw [hM1, decide_eq_true h1]; rfl
        have hE := hD true
        clear hD hM1 h1
        go_wp2_with fail
        go_meet
        case rel => exact ⟨Lib.hid hE.out.1, Lib.hid hE.out.2.1, Lib.hid hE.out.2.2⟩
      · have hi : ¬ (16 : Int) < (when.length : Int) := by omega
        by_cases h2 : 16 < emits.length
        · have hi2 : (16 : Int) < (emits.length : Int) := by omega
          obtain rfl : M = true := by rw [hM1, decide_eq_false h1, decide_eq_true h2]; rfl
          have hE := hD true
          clear hD hM1 h1 h2
          go_wp2_with fail
          go_meet
          case rel => exact ⟨Lib.hid hE.out.1, Lib.hid hE.out.2.1, Lib.hid hE.out.2.2⟩
        · have hi2 : ¬ (16 : Int) < (emits.length : Int) := by omega
          obtain rfl : M = false := by rw [hM1, decide_eq_false h1, decide_eq_false h2]; rfl
          have hE := hD false
          clear hD hM1 h1 h2
          go_wp2_with fail
          go_meet
          case rel => exact ⟨Lib.hid hE.out.1, Lib.hid hE.out.2.1, Lib.hid hE.out.2.2⟩
  case rest =>
    obtain ⟨hL1, hB1, hU1⟩ := hcut
    clear HL0 HB0 HU1 hM0
    generalize wc = W1 at *
    go_upto_region 2 with (fail)
    go_cut [] (fun W2 => Hid (LkAt W2 K ⟨M, k.n, G⟩) ∧ Hid (W2.heap[B]? = some (boxK ⟨.slice wa when.length wcap, when, refuse, .slice ea emits.length ecap, emits⟩)) ∧ Hid (Upd [K] w W2))
    case first =>
      have k2 : W1.cell? ⟨K, 2, none⟩ = some (.bool k.f) := cell_blk hL1.out 2
      have fz : W1.frozen? ⟨K, 2, none⟩ = false := frozen_blk hL1.out 2
      have y1 : W1.cell? ⟨B, 1, none⟩ = some (.string refuse) := cell_blk hB1.out 1
      have y2 : W1.cell? ⟨B, 2, none⟩ = some (.slice ea emits.length ecap) := cell_blk hB1.out 2
      have hD : ∀ g : Bool, Hid (LkAt (W1.setCell ⟨K, 2, none⟩ (.bool g)) K ⟨M, k.n, g⟩ ∧ (W1.setCell ⟨K, 2, none⟩ (.bool g)).heap[B]? = some (boxK ⟨.slice wa when.length wcap, when, refuse, .slice ea emits.length ecap, emits⟩) ∧ Upd [K] w (W1.setCell ⟨K, 2, none⟩ (.bool g))) := fun g =>
        Lib.hid ⟨hL1.out.set 2 g _ rfl, by rw [heap_setCell, if_neg hBK]; exact hB1.out, hU1.out.setCell (by simp) 2 _⟩
      cases hkf : k.f with
      | true =>
        rw [hkf] at k2
        obtain rfl : G = true := by rw [HG.out, hkf]; rfl
        have hE := hD true
        clear hD hkf
        go_wp2_with fail
        go_meet
        case rel => exact ⟨Lib.hid hE.out.1, Lib.hid hE.out.2.1, Lib.hid hE.out.2.2⟩
      | false =>
        rw [hkf] at k2
        have hG1 : G = (decide (200 < refuse.size) || (decide (refuse.size = 0) != decide (0 < emits.length))) := by rw [HG.out, hkf]; rfl
        clear HG hkf
        by_cases h1 : 200 < refuse.size
        · have hi : (200 : Int) < (refuse.size : Int) := by omega
          obtain rfl : G = true := by rw [hG1, decide_eq_true h1]; rfl
          have hE := hD true
          clear hD hG1 h1
          go_wp2_with fail
          go_meet
          case rel => exact ⟨Lib.hid hE.out.1, Lib.hid hE.out.2.1, Lib.hid hE.out.2.2⟩
        · have hi : ¬ (200 : Int) < (refuse.size : Int) := by omega
          obtain rfl : G = (!(refuse.toList.isEmpty == decide (0 < emits.length))) := by
            rw [hG1, decide_eq_false h1, empty_size]
            cases refuse.toList.isEmpty <;> cases decide (0 < emits.length) <;> rfl
          have hE := hD (!(refuse.toList.isEmpty == decide (0 < emits.length)))
          clear hD hG1 h1
          go_wp2_with fail
          go_meet
          case rel => exact ⟨Lib.hid hE.out.1, Lib.hid hE.out.2.1, Lib.hid hE.out.2.2⟩
    case rest =>
      obtain ⟨hL2, hB2, hU2⟩ := hcut
      clear hL1 hB1 hU1 HG
      generalize wc = W2 at *
      have y0 : W2.cell? ⟨B, 0, none⟩ = some (.slice wa when.length wcap) := cell_blk hB2.out 0
      obtain ⟨SK, hSK⟩ : ∃ SK, SK = (boxK ⟨.slice wa when.length wcap, when, refuse, .slice ea emits.length ecap, emits⟩) := ⟨_, rfl⟩
      rw [← hSK] at hB2
      have HSK := Lib.hid hSK
      clear hSK
      go_wp2_with fail
      go_loopg [5, 53] when.length (fun n _ t53 wr => ∃ (j : Nat) (k' : Lk), t53 = .int .i64 j ∧ j ≤ when.length ∧ n = when.length - j ∧ Hid (T = k'.or ((lkL lkC (when.drop j)).or (lkL lkM emits))) ∧ Hid (LkAt wr K k') ∧ Hid (wr.heap[B]? = some SK) ∧ Hid (Upd [K] w wr))
      case atStart => exact ⟨0, _, rfl, by omega, rfl, HR, hL2, hB2, hU2⟩
      case round =>
        obtain ⟨j, k', rfl, hj, rfl, hA, hL, hB, hU⟩ := hrel
        by_cases hjl : j < when.length
        · have hlt : (j : Int) < (when.length : Int) := by omega
          have hud := HU0.out.old hK hU.out
          obtain ⟨a', cap', hv, g1, g2, g3⟩ := HCS.out.keep hud
          simp only [Value.slice.injEq] at hv
          obtain ⟨rfl, -, rfl⟩ := hv
          obtain ⟨b, off, rfl, hy⟩ := g3 j hjl
          obtain ⟨⟨c0, c1, ⟨c2, c3, c4, c5⟩, ⟨c6, c7, c8, c9⟩⟩, hka, hkb⟩ := hy
          obtain ⟨aa, ac, haa⟩ := hka.isSlice
          obtain ⟨ba, bc, hba⟩ := hkb.isSlice
          have hfc := HZ.out.2.2.1 when[j] (List.getElem_mem hjl)
          have hT' : Hid (T = (k'.or (lkC when[j])).or ((lkL lkC (when.drop (j + 1))).or (lkL lkM emits))) := Lib.hid (by rw [hA.out, lkL_drop _ when j hjl, Lk.or_assoc, Lk.or_assoc])
          have hxa : KidsAt w0 when[j].a.av when[j].a.kids ∧ KidsAt w0 when[j].b.av when[j].b.kids := by
            obtain ⟨a2, cap2, hv2, q1, q2, q3⟩ := HCS.out
            obtain ⟨b2, off2, e2, hy2⟩ := q3 j hjl
            exact hy2.2
          have HEA := Lib.hid (fun k'' W (q : Upd [] w0 W) (hW : LkAt W K k'') => expr_ok when[j].a K k'' w0 W hK hxa.1 hfc.2.1 q hW)
          have HEB := Lib.hid (fun k'' W (q : Upd [] w0 W) (hW : LkAt W K k'') => expr_ok when[j].b K k'' w0 W hK hxa.2 hfc.2.2 q hW)
          have hlc : Hid (k'.or (lkC when[j]) = ((Lk.mk k'.m k'.n (k'.f || !hasB when[j].kd when[j].a.kd)).or (lkX when[j].a)).or (if when[j].kd = 4 then ⟨false, false, false⟩ else lkX when[j].b)) := Lib.hid (by
            unfold lkC hasC hasB
            rw [← Lk.or_assoc, ← Lk.or_assoc]
            simp [Lk.or])
          have hBr := lt_of_blk hB.out
          clear g3 hfc hka hkb hxa hud
          generalize hXX : k'.or (lkC when[j]) = K2 at *
          generalize when[j] = y at *
          clear hXX
          obtain ⟨ykd, ynt, ⟨akd, an, as_, aav, akids⟩, ⟨bkd, bn, bs, bav, bkids⟩⟩ := y
          dsimp only at haa hba c0 c1 c2 c3 c4 c5 c6 c7 c8 c9 HEA HEB hlc
          subst haa hba
          obtain ⟨F, hF0⟩ : ∃ F, F = (k'.f || !hasB ykd akd) := ⟨_, rfl⟩
          rw [← hF0] at hlc
          have HF := Lib.hid hF0
          clear hF0
          have HLn := Lib.hid (hL.out.keep ((Upd.refl [] wr).alloc (boxCd ⟨ykd, ynt, ⟨akd, an, as_, .slice aa akids.list.length ac, akids⟩, ⟨bkd, bn, bs, .slice ba bkids.list.length bc, bkids⟩⟩)))
          have HBn := Lib.hid (blk_alloc (o' := (boxCd ⟨ykd, ynt, ⟨akd, an, as_, .slice aa akids.list.length ac, akids⟩, ⟨bkd, bn, bs, .slice ba bkids.list.length bc, bkids⟩⟩)) hB.out)
          have HCn : Hid ((wr.alloc (boxCd ⟨ykd, ynt, ⟨akd, an, as_, .slice aa akids.list.length ac, akids⟩, ⟨bkd, bn, bs, .slice ba bkids.list.length bc, bkids⟩⟩)).heap[wr.heap.size]? = some (boxCd ⟨ykd, ynt, ⟨akd, an, as_, .slice aa akids.list.length ac, akids⟩, ⟨bkd, bn, bs, .slice ba bkids.list.length bc, bkids⟩⟩)) := Lib.hid (by rw [heap_alloc, if_pos rfl])
          have HUn : Hid (Upd [K] w (wr.alloc (boxCd ⟨ykd, ynt, ⟨akd, an, as_, .slice aa akids.list.length ac, akids⟩, ⟨bkd, bn, bs, .slice ba bkids.list.length bc, bkids⟩⟩))) := Lib.hid (hU.out.alloc _)
          have hCK : wr.heap.size ≠ K := by have := hL.out.lt; omega
          go_upto_region 6 with (fail)
          change Code.wp _ _ _ _ (wr.alloc (boxCd ⟨ykd, ynt, ⟨akd, an, as_, .slice aa akids.list.length ac, akids⟩, ⟨bkd, bn, bs, .slice ba bkids.list.length bc, bkids⟩⟩))
          generalize (wr.alloc (boxCd ⟨ykd, ynt, ⟨akd, an, as_, .slice aa akids.list.length ac, akids⟩, ⟨bkd, bn, bs, .slice ba bkids.list.length bc, bkids⟩⟩)) = X at *
          generalize wr.heap.size = C at *
          go_cut [] (fun W2 => Hid (LkAt W2 K ⟨k'.m, k'.n, F⟩) ∧ Hid (W2.heap[B]? = some SK) ∧ Hid (W2.heap[C]? = some (boxCd ⟨ykd, ynt, ⟨akd, an, as_, .slice aa akids.list.length ac, akids⟩, ⟨bkd, bn, bs, .slice ba bkids.list.length bc, bkids⟩⟩)) ∧ Hid (Upd [K] w W2))
          case first =>
            have k2 : X.cell? ⟨K, 2, none⟩ = some (.bool k'.f) := cell_blk HLn.out 2
            have fz : X.frozen? ⟨K, 2, none⟩ = false := frozen_blk HLn.out 2
            have x0 : X.cell? ⟨C, 0, none⟩ = some (.int .i64 ykd) := cell_blk HCn.out 0
            have x2 : X.cell? ⟨C, 2, none⟩ = some (.int .i64 akd) := cell_blk HCn.out 2
            have x3 : X.cell? ⟨C, 3, none⟩ = some (.int .i64 an) := cell_blk HCn.out 3
            have x4 : X.cell? ⟨C, 4, none⟩ = some (.string as_) := cell_blk HCn.out 4
            have x5 : X.cell? ⟨C, 5, none⟩ = some (.slice aa akids.list.length ac) := cell_blk HCn.out 5
            have hDD : ∀ (Y : World) (g : Bool), LkAt Y K k' → Y.heap[B]? = some SK → Y.heap[C]? = some (boxCd ⟨ykd, ynt, ⟨akd, an, as_, .slice aa akids.list.length ac, akids⟩, ⟨bkd, bn, bs, .slice ba bkids.list.length bc, bkids⟩⟩) → Upd [K] w Y → Hid (LkAt (Y.setCell ⟨K, 2, none⟩ (.bool g)) K ⟨k'.m, k'.n, g⟩ ∧ (Y.setCell ⟨K, 2, none⟩ (.bool g)).heap[B]? = some SK ∧ (Y.setCell ⟨K, 2, none⟩ (.bool g)).heap[C]? = some (boxCd ⟨ykd, ynt, ⟨akd, an, as_, .slice aa akids.list.length ac, akids⟩, ⟨bkd, bn, bs, .slice ba bkids.list.length bc, bkids⟩⟩) ∧ Upd [K] w (Y.setCell ⟨K, 2, none⟩ (.bool g))) := fun Y g q1 q2 q3 q4 =>
              Lib.hid ⟨q1.set 2 g _ rfl, by rw [heap_setCell, if_neg hBK]; exact q2, by rw [heap_setCell, if_neg hCK]; exact q3, q4.setCell (by simp) 2 _⟩
            have hD := fun g => hDD X g HLn.out HBn.out HCn.out HUn.out
            cases hkf : k'.f with
            | true =>
              rw [hkf] at k2
              obtain rfl : F = true := by rw [HF.out, hkf]; rfl
              have hE := hD true
              clear hD hDD hkf
              go_wp2_with fail
              go_meet
              case rel => exact ⟨Lib.hid hE.out.1, Lib.hid hE.out.2.1, Lib.hid hE.out.2.2.1, Lib.hid hE.out.2.2.2⟩
            | false =>
              rw [hkf] at k2
              have hF1 : F = !hasB ykd akd := by rw [HF.out, hkf]; rfl
              unfold hasB at hF1
              clear HF hkf
              by_cases h1 : ykd < 1
              · obtain rfl : F = true := by rw [hF1, if_neg (by omega), decide_eq_false (by omega)]; rfl
                have hE := hD true
                clear hD hDD hF1
                go_wp2_with fail
                go_meet
                case rel => exact ⟨Lib.hid hE.out.1, Lib.hid hE.out.2.1, Lib.hid hE.out.2.2.1, Lib.hid hE.out.2.2.2⟩
              · by_cases h4 : 4 < ykd
                · obtain rfl : F = true := by rw [hF1, if_neg (by omega), decide_eq_false (by omega)]; rfl
                  have hE := hD true
                  clear hD hDD hF1
                  go_wp2_with fail
                  go_meet
                  case rel => exact ⟨Lib.hid hE.out.1, Lib.hid hE.out.2.1, Lib.hid hE.out.2.2.1, Lib.hid hE.out.2.2.2⟩
                · by_cases h44 : ykd = 4
                  · subst h44
                    rw [if_pos rfl] at hF1
                    have HA := Lib.hid (asks_ok ⟨akd, an, as_, .slice aa akids.list.length ac, akids⟩ X)
                    dsimp only at HA
                    clear hD
                    go_wp2_with fail
                    refine HA.out.mono ?_
                    rintro e Y ⟨rfl, hu⟩
                    have q1 := HLn.out.keep hu
                    have k2' : Y.cell? ⟨K, 2, none⟩ = some (.bool k'.f) := cell_blk q1 2
                    have fz' : Y.frozen? ⟨K, 2, none⟩ = false := frozen_blk q1 2
                    have hE := hDD Y (!asksN akd) q1 ((hu.block _ (lt_of_blk HBn.out) (by simp)).trans HBn.out) ((hu.block _ (lt_of_blk HCn.out) (by simp)).trans HCn.out) (HUn.out.trans hu.one)
                    have HF1 := Lib.hid hF1
                    clear hDD q1 hu HA hF1
                    go_wp2_with fail
                    go_meet
                    case rel => exact ⟨Lib.hid (by rw [HF1.out]; exact hE.out.1), Lib.hid hE.out.2.1, Lib.hid hE.out.2.2.1, Lib.hid hE.out.2.2.2⟩
                  · have h4b : (ykd == 4) = false := by simpa using h44
                    obtain rfl : F = false := by rw [hF1, if_neg h44, decide_eq_true (by omega)]; rfl
                    have hE := hD false
                    clear hD hDD hF1 h44
                    go_wp2_with fail
                    go_meet
                    case rel => exact ⟨Lib.hid hE.out.1, Lib.hid hE.out.2.1, Lib.hid hE.out.2.2.1, Lib.hid hE.out.2.2.2⟩
          case rest =>
            obtain ⟨hL3, hB3, hC3, hU3⟩ := hcut
            clear HLn HBn HCn HUn HF
            generalize wc = W3 at *
            have x2 : W3.cell? ⟨C, 2, none⟩ = some (.int .i64 akd) := cell_blk hC3.out 2
            have x3 : W3.cell? ⟨C, 3, none⟩ = some (.int .i64 an) := cell_blk hC3.out 3
            have x4 : W3.cell? ⟨C, 4, none⟩ = some (.string as_) := cell_blk hC3.out 4
            have x5 : W3.cell? ⟨C, 5, none⟩ = some (.slice aa akids.list.length ac) := cell_blk hC3.out 5
            have HEA3 := Lib.hid (HEA.out _ W3 (HU0.out.old hK hU3.out) hL3.out)
            clear HEA
            go_wp2_with fail
            refine HEA3.out.mono ?_
            rintro e W4 ⟨rfl, hl4, hu4⟩
            have hb4 := (hu4.block _ (lt_of_blk hB3.out) (by simpa using hBK)).trans hB3.out
            have hc4 := (hu4.block _ (lt_of_blk hC3.out) (by simpa using hCK)).trans hC3.out
            have z0 : W4.cell? ⟨C, 0, none⟩ = some (.int .i64 ykd) := cell_blk hc4 0
            have HL4 := Lib.hid hl4
            have HB4 := Lib.hid hb4
            have HU4 := Lib.hid (hU3.out.trans hu4)
            clear x2 x3 x4 x5 hl4 hu4 HEA3
            by_cases h44 : ykd = 4
            · subst h44
              rw [if_pos rfl, Lk.or_nil] at hlc
              clear hc4
              go_wp2_with fail
              go_roundg (when.length - (j + 1))
              case measure => omega
              case rel => exact ⟨j + 1, _, by go_num, by omega, rfl, hT', Lib.hid (by rw [hlc.out]; exact HL4.out), HB4, HU4⟩
            · have h4b : (ykd != 4) = true := by simpa using h44
              rw [if_neg h44] at hlc
              have x6 : W4.cell? ⟨C, 6, none⟩ = some (.int .i64 bkd) := cell_blk hc4 6
              have x7 : W4.cell? ⟨C, 7, none⟩ = some (.int .i64 bn) := cell_blk hc4 7
              have x8 : W4.cell? ⟨C, 8, none⟩ = some (.string bs) := cell_blk hc4 8
              have x9 : W4.cell? ⟨C, 9, none⟩ = some (.slice ba bkids.list.length bc) := cell_blk hc4 9
              have HEB4 := Lib.hid (HEB.out _ W4 (HU0.out.old hK HU4.out) HL4.out)
              clear hc4 HEB
              go_wp2_with fail
              refine HEB4.out.mono ?_
              rintro e W5 ⟨rfl, hl5, hu5⟩
              have hb5 := (hu5.block _ (lt_of_blk HB4.out) (by simpa using hBK)).trans HB4.out
              have HL5 := Lib.hid hl5
              have HB5 := Lib.hid hb5
              have HU5 := Lib.hid (HU4.out.trans hu5)
              clear hl5 hu5 hb5 HEB4
              go_wp2_with fail
              go_roundg (when.length - (j + 1))
              case measure => omega
              case rel => exact ⟨j + 1, _, by go_num, by omega, rfl, hT', Lib.hid (by rw [hlc.out]; exact HL5.out), HB5, HU5⟩
        · have hlt : ¬ (j : Int) < (when.length : Int) := by omega
          have hT' : Hid (T = k'.or (lkL lkM (emits.drop 0))) := Lib.hid (by rw [hA.out, List.drop_eq_nil_of_le (by omega), List.drop_zero]; cases k'; simp [lkL, Lk.or])
          have hBq := hB.out
          rw [HSK.out] at hBq
          have y2 : wr.cell? ⟨B, 2, none⟩ = some (.slice ea emits.length ecap) := cell_blk hBq 2
          have HBq := Lib.hid hBq
          clear hBq
          go_wp2_with fail
          go_loopg [7, 100] emits.length (fun n _ t100 wr2 => ∃ (j : Nat) (k' : Lk), t100 = .int .i64 j ∧ j ≤ emits.length ∧ n = emits.length - j ∧ Hid (T = k'.or (lkL lkM (emits.drop j))) ∧ Hid (LkAt wr2 K k') ∧ Hid (Upd [K] w wr2))
          case atStart => exact ⟨0, _, rfl, by omega, rfl, hT', hL, hU⟩
          case round =>
            clear HBq y2 hT' hA hL hU hB HCS hL2 hB2 hU2 y0
            obtain ⟨j, k', rfl, hj, rfl, hA, hL, hU⟩ := hrel
            by_cases hjl : j < emits.length
            · have hlt : (j : Int) < (emits.length : Int) := by omega
              have hud := HU0.out.old hK hU.out
              obtain ⟨a', cap', hv, g1, g2, g3⟩ := HES.out.keep hud
              simp only [Value.slice.injEq] at hv
              obtain ⟨rfl, -, rfl⟩ := hv
              obtain ⟨b, off, rfl, hy⟩ := g3 j hjl
              obtain ⟨⟨c0, c1⟩, hss⟩ := hy
              obtain ⟨sa, sc, hsv, -, -⟩ := hss.isSlice
              have hfc := HZ.out.2.2.2 emits[j] (List.getElem_mem hjl)
              have hT' : Hid (T = (k'.or (lkM emits[j])).or (lkL lkM (emits.drop (j + 1)))) := Lib.hid (by rw [hA.out, lkL_drop _ emits j hjl, Lk.or_assoc])
              have hs0 : AsgsAt w0 emits[j].sv emits[j].sets := by
                obtain ⟨a2, cap2, hv2, q1, q2, q3⟩ := HES.out
                obtain ⟨b2, off2, e2, hy2⟩ := q3 j hjl
                exact hy2.2
              have HE := Lib.hid (fun k'' W (q : Upd [] w0 W) (hW : LkAt W K k'') => sets_ok K k'' emits[j].sv emits[j].sets w0 W hK hs0 hfc.2.2 (by have := hfc.2.1; omega) q hW)
              have hlc : Hid (k'.or (lkM emits[j]) = ((Lk.mk k'.m (k'.n || twice [emits[j].ty]) k'.f).or (lkS emits[j].sets)).or ⟨false, twice (emits[j].sets.map Asg.nm), false⟩) := Lib.hid (by
                unfold lkM
                rw [← Lk.or_assoc, ← Lk.or_assoc]
                simp [Lk.or, twice, twL])
              have hnz : emits[j].ty.size ≤ 9223372036854775807 ∧ ∀ s ∈ emits[j].sets.map Asg.nm, s.size ≤ 9223372036854775807 := ⟨by have := hfc.1; omega, fun s hs => by
                obtain ⟨x, hx, rfl⟩ := List.mem_map.1 hs
                have := (hfc.2.2 x hx).1
                omega⟩
              have hCK : wr.heap.size ≠ K := by have := hL.out.lt; omega
              clear g3 hfc hss hs0 hud
              generalize hXX : k'.or (lkM emits[j]) = K2 at *
              generalize emits[j] = y at *
              clear hXX
              obtain ⟨yty, ysv, ysets⟩ := y
              dsimp only at hsv c0 c1 HE hlc hnz
              subst hsv
              have HLn := Lib.hid ((hL.out.keep ((Upd.refl [] wr).alloc (boxM ⟨yty, .slice sa ysets.length sc, ysets⟩))).keep ((Upd.refl [] _).alloc (.cells #[.string yty] 9)))
              have HBn : Hid (((wr.alloc (boxM ⟨yty, .slice sa ysets.length sc, ysets⟩)).alloc (.cells #[.string yty] 9)).heap[wr.heap.size]? = some (boxM ⟨yty, .slice sa ysets.length sc, ysets⟩)) := Lib.hid (blk_alloc (by rw [heap_alloc, if_pos rfl]))
              have HSn : Hid (((wr.alloc (boxM ⟨yty, .slice sa ysets.length sc, ysets⟩)).alloc (.cells #[.string yty] 9)).heap[wr.heap.size + 1]? = some (.cells #[.string yty] 9 (0, 0))) := Lib.hid (by rw [heap_alloc, if_pos (by simp)])
              have HUn : Hid (Upd [K] w ((wr.alloc (boxM ⟨yty, .slice sa ysets.length sc, ysets⟩)).alloc (.cells #[.string yty] 9))) := Lib.hid ((hU.out.alloc _).alloc _)
              have HN := Lib.hid (names_ok K k' _ [yty] _ (strs_box HSn.out (by have := hL.out.lt; omega)) (by intro s hs; simp at hs; subst hs; exact hnz.1) HLn.out)
              go_wp2_with fail
              refine HN.out.mono ?_
              rintro e X ⟨rfl, hl1, hu1⟩
              have hb1 := (hu1.block _ (lt_of_blk HBn.out) (by simpa using hCK)).trans HBn.out
              have x1 : X.cell? ⟨wr.heap.size, 1, none⟩ = some (.slice sa ysets.length sc) := cell_blk hb1 1
              have HU1 := Lib.hid (HUn.out.trans hu1)
              have HL1 := Lib.hid hl1
              have HE1 := Lib.hid (HE.out _ X (HU0.out.old hK HU1.out) HL1.out)
              clear hb1 hu1 hl1 HE HN HLn HBn HSn HUn c0 c1
              go_wp2_with fail
              refine HE1.out.mono ?_
              rintro e Y ⟨v', rfl, ho2, hl2, hu2⟩
              have hKX := HL1.out.lt
              have HO2 := Lib.hid ho2
              have HU2 := Lib.hid (HU1.out.trans hu2)
              have HN2 := Lib.hid (names_ok K _ v' (ysets.map Asg.nm) Y (fun W q => (HO2.out.keepK q hKX).strs) hnz.2 hl2)
              clear ho2 hu2 hl2 HE1 x1
              go_wp2_with fail
              refine HN2.out.mono ?_
              rintro e Z ⟨rfl, hl3, hu3⟩
              have HU3 := Lib.hid (HU2.out.trans hu3)
              have HL3 : Hid (LkAt Z K K2) := Lib.hid (by
                rw [hlc.out]
                have h := hl3
                simpa [Lk.or] using h)
              clear hl3 hu3 HN2
              go_wp2_with fail
              go_roundg (emits.length - (j + 1))
              case measure => omega
              case rel => exact ⟨j + 1, _, by go_num, by omega, rfl, hT', HL3, HU3⟩
            · have hlt : ¬ (j : Int) < (emits.length : Int) := by omega
              have hT' : Hid (T = k') := Lib.hid (by rw [hA.out, List.drop_eq_nil_of_le (by omega), lkL, Lk.or_nil])
              go_wp2_with fail
              go_end0
              exact ⟨rfl, by rw [hT'.out]; exact hL.out, hU.out⟩
end Go.Proofs.YtajppgngoffonaaGreatDoor
