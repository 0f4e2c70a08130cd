/- The look: names. The look: names, in memory. The look: an expression's parts. Rows of texts of the call's own. The look: an expression; assignments. The look: assignments. -/
import Derived.Deep.DeepCutAuto
import Derived.Test.YtajppgngoffonaaGreatDoorGXs
import Derived.Test.YtajppgngoffonaaGreatDoorGSh
import Derived.Test.YtajppgngoffonaaGreatDoorGXc
namespace Go.Proofs.YtajppgngoffonaaGreatDoor
open Go.RowKit

theorem hasS_step (l : List ByteArray) (k : ByteArray) (j : Nat) (hj : j < l.length) : (l.drop j).any (fun x => decide (x = k)) = (decide (l[j] = k) || (l.drop (j + 1)).any (fun x => decide (x = k))) := by
  rw [List.drop_eq_getElem_cons hj, List.any_cons]

set_option maxRecDepth 100000 in
set_option maxHeartbeats 800000 in
theorem indexS_ok (v : Value) (l : List ByteArray) (k : ByteArray) (w : World) (h : StrsAt w v l) :
    Calls Tryz.prog 151 #[v, .string k] w fun e w' => ∃ i : Int, e = .returned (.int .i64 i) ∧ (l.any (fun x => decide (x = k)) = true → 0 ≤ i) ∧ (l.any (fun x => decide (x = k)) = false → i = -1) ∧ w' = w := by
  obtain ⟨a, cap, rfl, h1, h2, h3⟩ := h
  have H3 := Lib.hid h3
  have H0 : Hid ((l.drop 0).any (fun x => decide (x = k)) = l.any (fun x => decide (x = k))) := Lib.hid (by simp)
  clear h3
  unfold maxLen at h2
  generalize hR : l.any (fun x => decide (x = k)) = R at *
  clear hR
  go_enter Tryz.func151, Tryz.ntmps151
  go_wp2_with fail
  go_loopg [5, 8] l.length (fun n _ i wr => ∃ j : Nat, i = .int .i64 j ∧ j ≤ l.length ∧ n = l.length - j ∧ Hid ((l.drop j).any (fun x => decide (x = k)) = R) ∧ wr = w)
  case atStart => exact ⟨0, rfl, by omega, rfl, H0, rfl⟩
  case round =>
    obtain ⟨j, rfl, hj, rfl, hA, rfl⟩ := hrel
    by_cases hjl : j < l.length
    · have hlt : (j : Int) < (l.length : Int) := by omega
      obtain ⟨b, off, rfl, hf⟩ := H3.out j hjl
      have c0 : wr.cell? ⟨b, off + j * 1, none⟩ = some (.string l[j]) := hf
      rw [Nat.mul_one] at c0
      have hst := Lib.hid (hasS_step l k j hjl)
      clear hf
      have heq := eqB k l[j]
      by_cases hk : l[j] = k
      · have hkk : (k.toList == l[j].toList) = true := by rw [heq]; simpa using hk.symm
        have hRt : Hid (R = true) := Lib.hid (by rw [← hA.out, hst.out, decide_eq_true hk]; rfl)
        clear hk heq hst
        generalize l[j] = s at *
        go_wp2_with fail
        go_ret
        exact ⟨_, rfl, (fun _ => by omega), (fun h => by rw [hRt.out] at h; cases h), rfl⟩
      · have hkk : (k.toList == l[j].toList) = false := by rw [heq]; simpa using fun h => hk h.symm
        have hA2 : Hid ((l.drop (j + 1)).any (fun x => decide (x = k)) = R) := Lib.hid (by rw [← hA.out, hst.out, decide_eq_false hk]; rfl)
        clear hk heq hst
        generalize l[j] = s at *
        go_wp2_with fail
        go_roundg (l.length - (j + 1))
        case measure => omega
        case rel => exact ⟨j + 1, by go_num, by omega, rfl, hA2, rfl⟩
    · have hlt : ¬ (j : Int) < (l.length : Int) := by omega
      have hRf : Hid (R = false) := Lib.hid (by rw [← hA.out, List.drop_eq_nil_of_le (by omega)]; rfl)
      go_wp2_with fail
      go_ret
      exact ⟨_, rfl, (fun h => by rw [hRf.out] at h; cases h), (fun _ => rfl), rfl⟩

set_option maxRecDepth 100000 in
theorem containsS_ok (v : Value) (l : List ByteArray) (k : ByteArray) (w : World) (h : StrsAt w v l) :
    Calls Tryz.prog 128 #[v, .string k] w fun e w' => e = .returned (.bool (l.any fun x => decide (x = k))) ∧ w' = w := by
  have HC := Lib.hid (indexS_ok v l k w h)
  obtain ⟨a, cap, rfl, -, -⟩ := h.isSlice
  clear h
  generalize (l.any fun x => decide (x = k)) = R at *
  go_enter Tryz.func128, Tryz.ntmps128
  go_wp2_with fail
  refine HC.out.mono ?_
  rintro e w1 ⟨i, rfl, hi1, hi2, rfl⟩
  cases R with
  | true =>
    have hi := hi1 rfl
    clear hi1 hi2 HC
    go_wp2_with fail
    go_ret
    exact ⟨rfl, rfl⟩
  | false =>
    have hi := hi2 rfl
    subst hi
    clear hi1 hi2 HC
    go_wp2_with fail
    go_ret
    exact ⟨rfl, rfl⟩

/-- The look's flags in memory. -/
def LkAt (w : World) (K : Nat) (k : Lk) : Prop := w.heap[K]? = some (.cells #[.bool k.m, .bool k.n, .bool k.f] 148 (0, 0))

theorem LkAt.set {w : World} {K : Nat} {k : Lk} (h : LkAt w K k) (o : Nat) (v : Bool) (k' : Lk) (hk : (#[.bool k.m, .bool k.n, .bool k.f] : Array Value).setIfInBounds o (.bool v) = #[.bool k'.m, .bool k'.n, .bool k'.f]) : LkAt (w.setCell ⟨K, o, none⟩ (.bool v)) K k' := by
  unfold LkAt at *
  rw [heap_setCell, if_pos rfl, h]
  simp only [Option.map_some, Obj.put, hk]

theorem twL_step (l : List ByteArray) (j : Nat) (hj : j < l.length) : twL (l.take j) (l.drop j) = ((!nameOk l[j] || (l.take j).any (fun x => decide (x = l[j]))) || twL (l.take (j + 1)) (l.drop (j + 1))) := by
  rw [List.drop_eq_getElem_cons hj, twL, List.take_add_one, List.getElem?_eq_getElem hj]
  rfl

theorem elemS : Tryz.prog.underlying 106 = some (.slice (Tryz.prog.elem 106)) := by kernel_rfl
theorem sizeS (w : World) : (sizeOf (Tryz.prog.elem 106)).run Tryz.prog w = .ok 1 w := by kernel_rfl
theorem sliceS_hi (a : Addr) (n cap i : Nat) (h : i ≤ cap) (W : World) : (Instr.slice 106 (.slice (some a) n cap) none (some (.int .i64 i)) none).run Tryz.prog W = .ok (.slice (some (if cap = 0 then a else a.add 0)) i cap) W := by
  rw [run_slice_h (w := W) 106 (some a) n cap elemS .i64 i (by omega) (by omega), sizeS]
  simp only [Result.andThen, sliced]
  split <;> simp_all

theorem StrsAt.take {w : World} {b off cap : Nat} {l : List ByteArray} (h : StrsAt w (.slice (some ⟨b, off, none⟩) l.length cap) l) (j : Nat) (hj : j ≤ l.length) : StrsAt w (.slice (some ⟨b, off, none⟩) j cap) (l.take j) := by
  obtain ⟨a, c, hv, h1, h2, h3⟩ := h
  simp only [Value.slice.injEq] at hv
  obtain ⟨rfl, -, rfl⟩ := hv
  have hl : (l.take j).length = j := by rw [List.length_take]; omega
  refine ⟨_, cap, by rw [hl], by rw [hl]; omega, h2, fun i hi => ?_⟩
  obtain ⟨b', off', e, hx⟩ := h3 i (by omega)
  refine ⟨b', off', e, ?_⟩
  rw [List.getElem_take]
  exact hx
end Go.Proofs.YtajppgngoffonaaGreatDoor

namespace Go.Proofs.YtajppgngoffonaaGreatDoor
open Go.RowKit

theorem LkAt.lt {w : World} {K : Nat} {k : Lk} (h : LkAt w K k) : K < w.heap.size := lt_of_blk h
theorem LkAt.keep {w w' : World} {K : Nat} {k : Lk} (h : LkAt w K k) (u : Upd [] w w') : LkAt w' K k := (u.block K (lt_of_blk h) (by simp)).trans h
theorem Upd.old {w0 w w' : World} {K : Nat} (u : Upd [] w0 w) (hK : w0.heap.size ≤ K) (h : Upd [K] w w') : Upd [] w0 w' := u.next h (fun q hq hlt => by simp at hq; omega)
theorem Upd.one {w w' : World} {K : Nat} (u : Upd [] w w') : Upd [K] w w' := u.mono (fun k hk => by simp at hk)

set_option maxRecDepth 100000 in
set_option maxHeartbeats 2000000 in
theorem names_ok (K : Nat) (k : Lk) (v : Value) (l : List ByteArray) (w : World) (hs : ∀ W, Upd [K] w W → StrsAt W v l) (hz : ∀ s ∈ l, s.size ≤ 9223372036854775807) (hk : LkAt w K k) :
    Calls Tryz.prog 89 #[.pointer (some ⟨K, 0, none⟩), v] w fun e w' => e = .returned (.tuple #[]) ∧ LkAt w' K ⟨k.m, k.n || twice l, k.f⟩ ∧ Upd [K] w w' := by
  have HS := Lib.hid hs
  have HZ := Lib.hid hz
  have HK := Lib.hid hk
  have H0 : Hid ((k.n || twice l) = (k.n || twL (l.take 0) (l.drop 0))) := Lib.hid (by simp [twice])
  obtain ⟨a, cap, rfl, h1, h2⟩ := (hs w (Upd.refl _ _)).isSlice
  have hKw := hk.lt
  generalize hT : (k.n || twice l) = T at *
  clear hs hz hk hT
  go_enter Tryz.func89, Tryz.ntmps89
  go_wp2_with fail
  go_loopg [4, 5, 8] l.length (fun n _ _ t8 wr => ∃ (j : Nat) (c : Bool), t8 = .int .i64 j ∧ j ≤ l.length ∧ n = l.length - j ∧ Hid (T = (c || twL (l.take j) (l.drop j))) ∧ Hid (LkAt wr K ⟨k.m, c, k.f⟩) ∧ Hid (Upd [K] w wr))
  case atStart => exact ⟨0, k.n, rfl, by omega, rfl, H0, HK, Lib.hid (Upd.refl _ _)⟩
  case round =>
    obtain ⟨j, c, rfl, hj, rfl, hA, hL, hU⟩ := hrel
    by_cases hjl : j < l.length
    · have hlt : (j : Int) < (l.length : Int) := by omega
      have hss := HS.out wr hU.out
      obtain ⟨a', cap', hv, g1, g2, g3⟩ := hss
      simp only [Value.slice.injEq] at hv
      obtain ⟨rfl, -, rfl⟩ := hv
      obtain ⟨b, off, rfl, hf⟩ := g3 j hjl
      have c0 : wr.cell? ⟨b, off + j * 1, none⟩ = some (.string l[j]) := hf
      rw [Nat.mul_one] at c0
      have HX := Lib.hid (fun W (q : Upd [] wr W) => ((show StrsAt wr (.slice (some ⟨b, off, none⟩) l.length cap) l from ⟨_, cap, rfl, g1, g2, g3⟩).keep q).take j hj)
      have k1 : wr.cell? ⟨K, 1, none⟩ = some (.bool c) := cell_blk hL.out 1
      have fz : wr.frozen? ⟨K, 1, none⟩ = false := frozen_blk hL.out 1
      have hst := Lib.hid (twL_step l j hjl)
      have hsz := HZ.out l[j] (List.getElem_mem hjl)
      clear hf g3
      cases c with
      | true =>
        have hT : Hid (T = (true || twL (l.take (j + 1)) (l.drop (j + 1)))) := Lib.hid (by rw [hA.out]; rfl)
        have hL2 : Hid (LkAt (wr.setCell ⟨K, 1, none⟩ (.bool true)) K ⟨k.m, true, k.f⟩) := Lib.hid (hL.out.set 1 true _ rfl)
        have hU2 : Hid (Upd [K] w (wr.setCell ⟨K, 1, none⟩ (.bool true))) := Lib.hid (hU.out.setCell (by simp) 1 _)
        generalize l[j] = s at *
        go_wp2_with fail
        go_roundg (l.length - (j + 1))
        case measure => omega
        case rel => exact ⟨j + 1, true, by go_num, by omega, rfl, hT, hL2, hU2⟩
      | false =>
        have HN := Lib.hid (name_ok l[j] wr hsz)
        cases hn : nameOk l[j] with
        | false =>
          rw [hn] at HN
          have hT : Hid (T = (true || twL (l.take (j + 1)) (l.drop (j + 1)))) := Lib.hid (by rw [hA.out, hst.out, hn]; rfl)
          clear hn hst
          generalize l[j] = s at *
          go_wp2_with fail
          refine HN.out.mono ?_
          rintro e w2 ⟨rfl, hu2⟩
          have hL1 := hL.out.keep hu2
          have k1' : w2.cell? ⟨K, 1, none⟩ = some (.bool false) := cell_blk hL1 1
          have fz' : w2.frozen? ⟨K, 1, none⟩ = false := frozen_blk hL1 1
          have hL2 : Hid (LkAt (w2.setCell ⟨K, 1, none⟩ (.bool true)) K ⟨k.m, true, k.f⟩) := Lib.hid (hL1.set 1 true _ rfl)
          have hU2 : Hid (Upd [K] w (w2.setCell ⟨K, 1, none⟩ (.bool true))) := Lib.hid ((hU.out.trans hu2.one).setCell (by simp) 1 _)
          clear hu2 hL1 HN
          go_wp2_with fail
          go_roundg (l.length - (j + 1))
          case measure => omega
          case rel => exact ⟨j + 1, true, by go_num, by omega, rfl, hT, hL2, hU2⟩
        | true =>
          rw [hn] at HN
          have hT : Hid (T = ((l.take j).any (fun x => decide (x = l[j])) || twL (l.take (j + 1)) (l.drop (j + 1)))) := Lib.hid (by rw [hA.out, hst.out, hn]; rfl)
          have hsl := fun W => sliceS_hi ⟨b, off, none⟩ l.length cap j (by omega) W
          rw [if_neg (by omega)] at hsl
          clear hn hst
          generalize l[j] = s at *
          go_wp2_with fail
          refine HN.out.mono ?_
          rintro e w2 ⟨rfl, hu2⟩
          have hL1 := hL.out.keep hu2
          have HC := Lib.hid (containsS_ok _ _ s w2 (HX.out w2 hu2))
          have hU1 : Hid (Upd [K] w w2) := Lib.hid (hU.out.trans hu2.one)
          clear hu2 HN
          go_wp2_with fail
          refine HC.out.mono ?_
          rintro e w3 ⟨rfl, rfl⟩
          generalize (l.take j).any (fun x => decide (x = s)) = q at *
          have k1' : w3.cell? ⟨K, 1, none⟩ = some (.bool false) := cell_blk hL1 1
          have fz' : w3.frozen? ⟨K, 1, none⟩ = false := frozen_blk hL1 1
          have hL2 : Hid (LkAt (w3.setCell ⟨K, 1, none⟩ (.bool q)) K ⟨k.m, q, k.f⟩) := Lib.hid (hL1.set 1 q _ rfl)
          have hU2 : Hid (Upd [K] w (w3.setCell ⟨K, 1, none⟩ (.bool q))) := Lib.hid (hU1.out.setCell (by simp) 1 _)
          clear hL1 HC hU1
          go_wp2_with fail
          go_roundg (l.length - (j + 1))
          case measure => omega
          case rel => exact ⟨j + 1, q, by go_num, by omega, rfl, hT, hL2, hU2⟩
    · have hlt : ¬ (j : Int) < (l.length : Int) := by omega
      have hT : Hid (T = c) := Lib.hid (by rw [hA.out, List.drop_eq_nil_of_le (by omega)]; simp [twL])
      go_wp2_with fail
      go_end0
      exact ⟨rfl, by rw [hT.out]; exact hL.out, hU.out⟩
end Go.Proofs.YtajppgngoffonaaGreatDoor

namespace Go.Proofs.YtajppgngoffonaaGreatDoor
open Go.RowKit

theorem any_dropX (l : List Xp) (p : Xp → Bool) (j : Nat) (hj : j < l.length) : (l.drop j).any p = (p l[j] || (l.drop (j + 1)).any p) := by
  rw [List.drop_eq_getElem_cons hj, List.any_cons]

theorem not_all {α : Type} (l : List α) (p : α → Bool) : (!(l.all p)) = l.any (fun x => !p x) := by
  rw [List.all_eq_not_any_not, Bool.not_not]

set_option maxRecDepth 100000 in
set_option maxHeartbeats 4000000 in
theorem parts_ok : ∀ (x : Xp) (K : Nat) (k : Lk) (w0 w : World), w0.heap.size ≤ K → KidsAt w0 x.av x.kids → fitX x → Upd [] w0 w → LkAt w K k →
    Calls Tryz.prog 152 #[.pointer (some ⟨K, 0, none⟩), aggX x] w fun e w' => e = .returned (.tuple #[]) ∧ LkAt w' K ⟨k.m, k.n || !namesX x, k.f || !shortX x⟩ ∧ Upd [K] w w' := by
  refine Ex.ind fun x ih K k w0 w hK hk hfit u hl => ?_
  have hfk := (fit_list _).1 hfit.2
  have hsz := hfit.1.2.2
  have HI : Hid (∀ y ∈ x.kids.list, ∀ (k' : Lk) (W : World), Upd [] w0 W → LkAt W K k' → Calls Tryz.prog 152 #[.pointer (some ⟨K, 0, none⟩), aggX y] W fun e w' => e = .returned (.tuple #[]) ∧ LkAt w' K ⟨k'.m, k'.n || !namesX y, k'.f || !shortX y⟩ ∧ Upd [K] W w') :=
    Lib.hid fun y hy k' W uW hW => ih y hy K k' w0 W hK (((kidsAt_iff _ _ _).1 hk).kids hy) (hfk y hy) uW hW
  have hN : Hid ((k.n || !namesX x) = ((k.n || (asksN x.kd && !nameOk x.s)) || (x.kids.list.drop 0).any fun y => !namesX y)) := Lib.hid (by
    rw [namesX_eq, Bool.not_and, not_all, List.drop_zero, Bool.or_assoc]
    congr 2
    cases asksN x.kd <;> cases nameOk x.s <;> rfl)
  have hF : Hid ((k.f || !shortX x) = ((k.f || longN x.kd x.s) || (x.kids.list.drop 0).any fun y => !shortX y)) := Lib.hid (by
    rw [shortX_eq, Bool.not_and, not_all, List.drop_zero, Bool.or_assoc, Bool.not_not])
  obtain ⟨a, c, hav, h1, h2, h3⟩ := (kidsAt_iff _ _ _).1 hk
  have HX : Hid (∀ W, Upd [] w0 W → ExAt W x.av x.kids.list) := Lib.hid fun W q => ((kidsAt_iff _ _ _).1 hk).keep q
  have u0 : Upd [K] w (w.alloc (boxX x)) := (Upd.refl [K] w).alloc _
  have hKw := hl.lt
  have hL0 : LkAt (w.alloc (boxX x)) K k := hl.keep ((Upd.refl [] w).alloc _)
  have HU0 := Lib.hid u
  obtain ⟨kd, n, s, av, kids⟩ := x
  dsimp only at hav h1 h3 hN hF HI HX hsz hL0 u0
  subst hav
  generalize hTn : (k.n || !namesX ⟨kd, n, s, .slice a kids.list.length c, kids⟩) = Tn at *
  generalize hTf : (k.f || !shortX ⟨kd, n, s, .slice a kids.list.length c, kids⟩) = Tf at *
  unfold maxLen at h2
  clear ih hk hfit hfk h3 hTn hTf hl u
  generalize kids.list = l at *
  have hb0 : (w.alloc (boxX ⟨kd, n, s, .slice a l.length c, kids⟩)).heap[w.heap.size]? = some (boxX ⟨kd, n, s, .slice a l.length c, kids⟩) := by rw [heap_alloc, if_pos rfl]
  have HB0 := Lib.hid hb0
  have HL0 := Lib.hid hL0
  have HU1 := Lib.hid u0
  clear hb0 hL0 u0
  go_enter Tryz.func152, Tryz.ntmps152
  go_upto_region 1 with (fail)
  change Code.wp _ _ _ _ (w.alloc (boxX ⟨kd, n, s, .slice a l.length c, kids⟩))
  generalize (w.alloc (boxX ⟨kd, n, s, .slice a l.length c, kids⟩)) = W at *
  have hBK : w.heap.size ≠ K := by omega
  generalize w.heap.size = B at *
  obtain ⟨Q, hQ0⟩ : ∃ Q, Q = (k.n || (asksN kd && !nameOk s)) := ⟨_, rfl⟩
  rw [← hQ0] at hN
  have HQ := Lib.hid hQ0
  clear hQ0
  go_cut [] (fun W2 => Hid (LkAt W2 K ⟨k.m, Q, k.f⟩) ∧ Hid (W2.heap[B]? = some (boxX ⟨kd, n, s, .slice a l.length c, kids⟩)) ∧ Hid (Upd [K] w W2))
  case first =>
    have k1 : W.cell? ⟨K, 1, none⟩ = some (.bool k.n) := cell_blk HL0.out 1
    have fz : W.frozen? ⟨K, 1, none⟩ = false := frozen_blk HL0.out 1
    have x0 : W.cell? ⟨B, 0, none⟩ = some (.int .i64 kd) := cell_blk HB0.out 0
    have x1 : W.cell? ⟨B, 1, none⟩ = some (.int .i64 n) := cell_blk HB0.out 1
    have x2 : W.cell? ⟨B, 2, none⟩ = some (.string s) := cell_blk HB0.out 2
    have x3 : W.cell? ⟨B, 3, none⟩ = some (.slice a l.length c) := cell_blk HB0.out 3
    cases hkn : k.n with
    | true =>
      rw [hkn] at k1
      have hQ : Q = true := by rw [HQ.out, hkn]; rfl
      have hD : Hid (LkAt (W.setCell ⟨K, 1, none⟩ (.bool true)) K ⟨k.m, Q, k.f⟩ ∧ (W.setCell ⟨K, 1, none⟩ (.bool true)).heap[B]? = some (boxX ⟨kd, n, s, .slice a l.length c, kids⟩) ∧ Upd [K] w (W.setCell ⟨K, 1, none⟩ (.bool true))) :=
        Lib.hid ⟨by rw [hQ]; exact HL0.out.set 1 true _ rfl, by rw [heap_setCell, if_neg hBK]; exact HB0.out, HU1.out.setCell (by simp) 1 _⟩
      clear hkn hQ
      go_wp2_with fail
      go_meet
      case rel => exact ⟨Lib.hid hD.out.1, Lib.hid hD.out.2.1, Lib.hid hD.out.2.2⟩
    | false =>
      rw [hkn] at k1
      have hQ1 : Q = (asksN kd && !nameOk s) := by rw [HQ.out, hkn]; rfl
      clear hkn
      have HA := Lib.hid (asks_ok ⟨kd, n, s, .slice a l.length c, kids⟩ W)
      dsimp only at HA
      cases ha : asksN kd with
      | false =>
        rw [ha] at HA
        have HQ2 : Hid (Q = false) := Lib.hid (by rw [hQ1, ha]; rfl)
        clear ha hQ1
        go_wp2_with fail
        refine HA.out.mono ?_
        rintro e W1 ⟨rfl, hu⟩
        have hl1 := HL0.out.keep hu
        have hb1 := (hu.block _ (lt_of_blk HB0.out) (by simp)).trans HB0.out
        have k1' : W1.cell? ⟨K, 1, none⟩ = some (.bool k.n) := cell_blk hl1 1
        have fz' : W1.frozen? ⟨K, 1, none⟩ = false := frozen_blk hl1 1
        have hD : Hid (LkAt (W1.setCell ⟨K, 1, none⟩ (.bool false)) K ⟨k.m, Q, k.f⟩ ∧ (W1.setCell ⟨K, 1, none⟩ (.bool false)).heap[B]? = some (boxX ⟨kd, n, s, .slice a l.length c, kids⟩) ∧ Upd [K] w (W1.setCell ⟨K, 1, none⟩ (.bool false))) :=
          Lib.hid ⟨by rw [HQ2.out]; exact hl1.set 1 false _ rfl, by rw [heap_setCell, if_neg hBK]; exact hb1, (HU1.out.trans hu.one).setCell (by simp) 1 _⟩
        clear hu hl1 hb1 HA
        go_wp2_with fail
        go_meet
        case rel => exact ⟨Lib.hid hD.out.1, Lib.hid hD.out.2.1, Lib.hid hD.out.2.2⟩
      | true =>
        rw [ha] at HA
        have HQ2 : Hid (Q = !nameOk s) := Lib.hid (by rw [hQ1, ha]; rfl)
        clear ha hQ1
        go_wp2_with fail
        refine HA.out.mono ?_
        rintro e W1 ⟨rfl, hu⟩
        have hl1 := HL0.out.keep hu
        have hb1 := (hu.block _ (lt_of_blk HB0.out) (by simp)).trans HB0.out
        have x2' : W1.cell? ⟨B, 2, none⟩ = some (.string s) := cell_blk hb1 2
        have HL1 := Lib.hid hl1
        have HB1 := Lib.hid hb1
        have HU2 := Lib.hid (HU1.out.trans hu.one)
        clear hu hl1 hb1 HA
        go_wp2_with fail
        refine (name_ok s W1 (by omega)).mono ?_
        rintro e W3 ⟨rfl, hu⟩
        have hl1 := HL1.out.keep hu
        have hb1 := (hu.block _ (lt_of_blk HB1.out) (by simp)).trans HB1.out
        have k1' : W3.cell? ⟨K, 1, none⟩ = some (.bool k.n) := cell_blk hl1 1
        have fz' : W3.frozen? ⟨K, 1, none⟩ = false := frozen_blk hl1 1
        have hD : Hid (LkAt (W3.setCell ⟨K, 1, none⟩ (.bool (!nameOk s))) K ⟨k.m, Q, k.f⟩ ∧ (W3.setCell ⟨K, 1, none⟩ (.bool (!nameOk s))).heap[B]? = some (boxX ⟨kd, n, s, .slice a l.length c, kids⟩) ∧ Upd [K] w (W3.setCell ⟨K, 1, none⟩ (.bool (!nameOk s)))) :=
          Lib.hid ⟨by rw [HQ2.out]; exact hl1.set 1 _ _ rfl, by rw [heap_setCell, if_neg hBK]; exact hb1, (HU2.out.trans hu.one).setCell (by simp) 1 _⟩
        clear hu hl1 hb1
        go_wp2_with fail
        go_meet
        case rel => exact ⟨Lib.hid hD.out.1, Lib.hid hD.out.2.1, Lib.hid hD.out.2.2⟩
  case rest =>
    obtain ⟨hL1, hB1, hU1⟩ := hcut
    clear HL0 HB0 HU1 HQ
    generalize wc = W1 at *
    obtain ⟨G, hG0⟩ : ∃ G, G = (k.f || longN kd s) := ⟨_, rfl⟩
    rw [← hG0] at hF
    have HG := Lib.hid hG0
    clear hG0
    go_upto_region 2 with (fail)
    go_cut [] (fun W2 => Hid (LkAt W2 K ⟨k.m, Q, G⟩) ∧ Hid (W2.heap[B]? = some (boxX ⟨kd, n, s, .slice a l.length c, kids⟩)) ∧ Hid (Upd [K] w W2))
    case first =>
      have k2 : W1.cell? ⟨K, 2, none⟩ = some (.bool k.f) := cell_blk hL1.out 2
      have fz : W1.frozen? ⟨K, 2, none⟩ = false := frozen_blk hL1.out 2
      have x0 : W1.cell? ⟨B, 0, none⟩ = some (.int .i64 kd) := cell_blk hB1.out 0
      have x2 : W1.cell? ⟨B, 2, none⟩ = some (.string s) := cell_blk hB1.out 2
      have hD : ∀ g : Bool, Hid (LkAt (W1.setCell ⟨K, 2, none⟩ (.bool g)) K ⟨k.m, Q, g⟩ ∧ (W1.setCell ⟨K, 2, none⟩ (.bool g)).heap[B]? = some (boxX ⟨kd, n, s, .slice a l.length c, kids⟩) ∧ Upd [K] w (W1.setCell ⟨K, 2, none⟩ (.bool g))) := fun g =>
        Lib.hid ⟨hL1.out.set 2 g _ rfl, by rw [heap_setCell, if_neg hBK]; exact hB1.out, hU1.out.setCell (by simp) 2 _⟩
      cases hkf : k.f with
      | true =>
        rw [hkf] at k2
        obtain rfl : G = true := by rw [HG.out, hkf]; rfl
        have hE := hD true
        clear hD hkf
        go_wp2_with fail
        go_meet
        case rel => exact ⟨Lib.hid hE.out.1, Lib.hid hE.out.2.1, Lib.hid hE.out.2.2⟩
      | false =>
        rw [hkf] at k2
        have hG1 : G = longN kd s := by rw [HG.out, hkf]; rfl
        unfold longN at hG1
        clear hkf HG
        by_cases hk2 : kd = 2
        · subst hk2
          by_cases h2 : 200 < s.size
          · rw [decide_eq_true h2] at hG1
            obtain rfl : G = true := hG1
            have hi : (200 : Int) < (s.size : Int) := by omega
            have hE := hD true
            clear hD h2
            go_wp2_with fail
            go_meet
            case rel => exact ⟨Lib.hid hE.out.1, Lib.hid hE.out.2.1, Lib.hid hE.out.2.2⟩
          · rw [decide_eq_false h2] at hG1
            obtain rfl : G = false := hG1
            have hi : ¬ (200 : Int) < (s.size : Int) := by omega
            have hE := hD false
            clear hD h2
            go_wp2_with fail
            go_meet
            case rel => exact ⟨Lib.hid hE.out.1, Lib.hid hE.out.2.1, Lib.hid hE.out.2.2⟩
        · rw [decide_eq_false hk2] at hG1
          obtain rfl : G = false := hG1
          have hkb : (kd == 2) = false := by simpa using hk2
          have hE := hD false
          clear hD hk2
          go_wp2_with fail
          go_meet
          case rel => exact ⟨Lib.hid hE.out.1, Lib.hid hE.out.2.1, Lib.hid hE.out.2.2⟩
    case rest =>
      obtain ⟨hL2, hB2, hU2⟩ := hcut
      clear hL1 hB1 hU1 HG
      have x3 : wc.cell? ⟨B, 3, none⟩ = some (.slice a l.length c) := cell_blk hB2.out 3
      go_wp2_with fail
      go_loopg [5, 44] l.length (fun n _ t44 wr => ∃ (j : Nat) (cn cf : Bool), t44 = .int .i64 j ∧ j ≤ l.length ∧ n = l.length - j ∧ Hid (Tn = (cn || (l.drop j).any fun y => !namesX y)) ∧ Hid (Tf = (cf || (l.drop j).any fun y => !shortX y)) ∧ Hid (LkAt wr K ⟨k.m, cn, cf⟩) ∧ Hid (Upd [K] w wr))
      case atStart => exact ⟨0, Q, G, rfl, by omega, rfl, hN, hF, hL2, hU2⟩
      case round =>
        obtain ⟨j, cn, cf, rfl, hj, rfl, hA, hC, hL, hU⟩ := hrel
        by_cases hjl : j < l.length
        · have hlt : (j : Int) < (l.length : Int) := by omega
          have hud := HU0.out.old hK hU.out
          obtain ⟨a', cap', hv, g1, g2, g3⟩ := HX.out wr hud
          simp only [Value.slice.injEq] at hv
          obtain ⟨rfl, -, rfl⟩ := hv
          obtain ⟨b, off, rfl, hy⟩ := g3 j hjl
          obtain ⟨c0, c1, c2, c3⟩ := hy.1
          obtain ⟨ya, yc, hys⟩ := hy.2.isSlice
          have hcall := HI.out l[j] (List.getElem_mem hjl) ⟨k.m, cn, cf⟩ (wr.alloc (boxX l[j])) (hud.alloc _) (hL.out.keep ((Upd.refl [] wr).alloc _))
          have hTn : Hid (Tn = ((cn || !namesX l[j]) || (l.drop (j + 1)).any fun y => !namesX y)) := Lib.hid (by rw [hA.out, any_dropX l _ j hjl, Bool.or_assoc])
          have hTf : Hid (Tf = ((cf || !shortX l[j]) || (l.drop (j + 1)).any fun y => !shortX y)) := Lib.hid (by rw [hC.out, any_dropX l _ j hjl, Bool.or_assoc])
          have HC := Lib.hid hcall
          have hKw2 : K < wr.heap.size := hL.out.lt
          clear hy g3 hcall hud
          generalize l[j] = y at *
          obtain ⟨ykd, yn, ys, yav, ykids⟩ := y
          dsimp only at hys c0 c1 c2 c3 HC
          subst hys
          go_wp2_with fail
          refine HC.out.mono ?_
          rintro e w7 ⟨rfl, hl7, hu7⟩
          have HL7 := Lib.hid hl7
          have HU7 : Hid (Upd [K] w w7) := Lib.hid ((hU.out.alloc _).trans hu7)
          clear hl7 hu7 HC
          go_wp2_with fail
          go_roundg (l.length - (j + 1))
          case measure => omega
          case rel => exact ⟨j + 1, _, _, by go_num, by omega, rfl, hTn, hTf, HL7, HU7⟩
        · have hlt : ¬ (j : Int) < (l.length : Int) := by omega
          have hTn : Hid (Tn = cn) := Lib.hid (by rw [hA.out, List.drop_eq_nil_of_le (by omega)]; simp)
          have hTf : Hid (Tf = cf) := Lib.hid (by rw [hC.out, List.drop_eq_nil_of_le (by omega)]; simp)
          go_wp2_with fail
          go_end0
          exact ⟨rfl, by rw [hTn.out, hTf.out]; exact hL.out, hU.out⟩
end Go.Proofs.YtajppgngoffonaaGreatDoor

namespace Go.Proofs.YtajppgngoffonaaGreatDoor
open Go.RowKit

theorem infoS : (Tryz.prog.info? 9).map (fun i => (i.zero, i.size, i.bytes)) = some (some (.string ByteArray.empty), 1, 16) := by kernel_rfl

def flatS (l : List ByteArray) : List Value := l.map Value.string
theorem flatS_len (l : List ByteArray) : (flatS l).length = l.length * 1 := by simp [flatS]
theorem flatS_app (l r : List ByteArray) : flatS (l ++ r) = flatS l ++ flatS r := by simp [flatS]
theorem flatS_one (l : List ByteArray) : ∀ u ∈ flatS l, u.oneCell' = true := by
  intro u hu
  obtain ⟨x, _, rfl⟩ := List.mem_map.1 hu
  rfl

def SrcS (w : World) (A : Option Addr) (r : List ByteArray) : Prop := (A = none → r = []) ∧ ∀ ad, A = some ad → ∀ j u, (flatS r)[j]? = some u → w.cell? (ad.add j) = some u
abbrev OwnS (w : World) (base : Nat) (v : Value) (l : List ByteArray) : Prop := w.ownsRow base 9 1 v l.length (flatS l)

theorem info_partsS : ∃ i, Tryz.prog.info? 9 = some i ∧ i.zero = some (.string ByteArray.empty) ∧ i.size = 1 ∧ i.bytes = 16 := info_parts infoS

theorem append_str {w : World} {base : Nat} {v : Value} {l : List ByteArray} (hown : OwnS w base v l) {A : Option Addr} (c : Nat) {r : List ByteArray} (hr : SrcS w A r) (hb : (l.length + r.length) * 16 ≤ 140737488355328) (hbase : base ≤ w.heap.size) (ty : TypeId) :
    ∃ v' w', (Builtin.append_ #[106, 106] ty #[v, .slice A r.length c]).run Tryz.prog w = .ok v' w' ∧ OwnS w' base v' (l ++ r) ∧ w.grownBy w' v.ownBlock := by
  obtain ⟨i0, hi0, hz0, hz1, hz2⟩ := info_partsS
  rcases A with _ | ad
  · obtain rfl := hr.1 rfl
    refine ⟨v, w, ?_, by simpa [OwnS] using hown, World.grownBy.refl w _⟩
    rcases hown.2 with ⟨rfl, hn⟩ | ⟨g, cap, cur, rfl, _, _, hnc, _⟩
    · simp [Builtin.append_, run_underlying Tryz.underlying106, sizeOf, typeInfo, hi0, Builtin.lenOf, Builtin.firstCells]
    · simp [Builtin.append_, run_underlying Tryz.underlying106, sizeOf, typeInfo, hi0, Builtin.lenOf, Builtin.firstCells, hnc, storeCells]
  · obtain ⟨v', w', hrun, h2, h3, _, _⟩ := run_append_own_at (P := Tryz.prog) w base 106 ty 9 i0 _ 1 16 Tryz.underlying106 hi0 hz0 hz1 hz2 rfl (by omega) v l.length (flatS l) hown ad r.length c (flatS r) (flatS_len r) (hr.2 ad rfl) (flatS_one r) (by unfold maxLen; omega) hb hbase
    exact ⟨v', w', hrun, by unfold OwnS; rw [flatS_app, List.length_append]; exact h2, h3⟩

theorem wp_append_str {w : World} {o : Oper} {a : Act} {K : Act → World → Prop} {Q : Exit → Act → World → Prop} (s x : Operand)
    (ho : o.op = .call { callee := .builtin .append, args := #[s, x], argTypes := #[106, 106] }) {base : Nat} {v : Value} {l : List ByteArray} (hs : a.eval s = v) (hown : OwnS w base v l)
    {A : Option Addr} {c : Nat} {r : List ByteArray} (hx : a.eval x = .slice A r.length c) (hr : SrcS w A r) (hb : (l.length + r.length) * 16 ≤ 140737488355328) (hbase : base ≤ w.heap.size)
    (h : ∀ v' w', OwnS w' base v' (l ++ r) → w.grownBy w' v.ownBlock → K (a.put o.dst v') w') : o.wp Tryz.prog a w K Q := by
  obtain ⟨v', w', hrun, h2, h3⟩ := append_str hown c hr hb hbase o.type
  unfold Oper.wp execOp
  simp only [ho, resolve, invoke, builtin, Sem.run_bind, Sem.run_pure, Result.andThen_ok, List.map_toArray, List.map_cons, List.map_nil, hs, hx, hrun]
  exact h v' w' h2 h3

theorem wpList_append_str {w : World} {ops : Array Oper} {rest : List Oper} {o : Oper} {a : Act} {Q : Exit → Act → World → Prop} (hgd : o.guard = none) (s x : Operand)
    (ho : o.op = .call { callee := .builtin .append, args := #[s, x], argTypes := #[106, 106] }) {base : Nat} {v : Value} {l : List ByteArray} (hs : a.eval s = v) (hown : OwnS w base v l)
    {A : Option Addr} {c : Nat} {r : List ByteArray} (hx : a.eval x = .slice A r.length c) (hr : SrcS w A r) (hb : (l.length + r.length) * 16 ≤ 140737488355328) (hbase : base ≤ w.heap.size)
    (h : ∀ v' w', OwnS w' base v' (l ++ r) → w.grownBy w' v.ownBlock → wpList Tryz.prog ops Q rest (a.put o.dst v') w') : wpList Tryz.prog ops Q (o :: rest) a w :=
  wpList_plain hgd fun _ hK => wp_append_str s x ho hs hown hx hr hb hbase fun v' w' h2 h3 => hK _ _ (h v' w' h2 h3)

theorem srcS_box {w : World} {B : Nat} {s : ByteArray} (h : w.heap[B]? = some (.cells #[.string s] 9 (0, 0))) : SrcS w (some ⟨B, 0, none⟩) [s] := by
  refine ⟨fun q => absurd q (by simp), fun ad q j u hu => ?_⟩
  cases q
  have hj : j = 0 := by
    rcases Nat.lt_or_ge j 1 with h | h
    · omega
    · rw [List.getElem?_eq_none (by simpa [flatS] using h)] at hu; cases hu
  subst hj
  simp [flatS] at hu
  subst hu
  exact cell_blk h 0

theorem OwnS.strs {w : World} {base : Nat} {v : Value} {l : List ByteArray} (h : OwnS w base v l) : StrsAt w v l := by
  obtain ⟨h0, h2⟩ := h
  rcases h2 with ⟨rfl, hn⟩ | ⟨g, cap, cur, rfl, hg, hh, r1, r2, r3, r4⟩
  · have : l = [] := List.eq_nil_of_length_eq_zero hn
    subst this
    exact ⟨none, 0, rfl, by simp, by omega, by simp⟩
  · refine ⟨_, cap, rfl, r1, r2, fun i hi => ⟨g, 0, rfl, ?_⟩⟩
    show w.cell? ⟨g, 0 + i * 1, none⟩ = some (.string l[i])
    rw [cell_blk hh, ← Array.getElem?_toList]
    have : (cur.toList.take (l.length * 1))[i]? = (flatS l)[i]? := by rw [r4]
    rw [List.getElem?_take_of_lt (by omega)] at this
    rw [show 0 + i * 1 = i by omega, this]
    simp [flatS, List.getElem?_eq_getElem hi]

theorem own_nilS (w : World) (base : Nat) : OwnS w base (.slice none 0 0) [] := World.ownsRow_nil _ _ _ _
end Go.Proofs.YtajppgngoffonaaGreatDoor

namespace Go.Proofs.YtajppgngoffonaaGreatDoor
open Go.RowKit

set_option maxRecDepth 100000 in
set_option maxHeartbeats 2000000 in
theorem expr_ok (x : Xp) (K : Nat) (k : Lk) (w0 w : World) (hK : w0.heap.size ≤ K) (hx : KidsAt w0 x.av x.kids) (hfit : fitX x) (u : Upd [] w0 w) (hl : LkAt w K k) :
    Calls Tryz.prog 130 #[.pointer (some ⟨K, 0, none⟩), aggX x] w fun e w' => e = .returned (.tuple #[]) ∧ LkAt w' K (k.or (lkX x)) ∧ Upd [K] w w' := by
  have u0 : Upd [] w (w.alloc (boxX x)) := (Upd.refl [] w).alloc _
  have HC := Lib.hid (count_ok x 0 _ (by omega) (hx.keep (u.trans u0)))
  have HF := Lib.hid (fun W (q : Upd [] w0 W) => formed_ok x W (hx.keep q))
  have HP := Lib.hid (fun k' W (q : Upd [] w0 W) (hW : LkAt W K k') => parts_ok x K k' w0 W hK hx hfit q hW)
  have HL := Lib.hid (hl.keep u0)
  have HU := Lib.hid u
  have HU0 := Lib.hid u0
  have hb0 : (w.alloc (boxX x)).heap[w.heap.size]? = some (boxX x) := by rw [heap_alloc, if_pos rfl]
  have HB := Lib.hid hb0
  have HR : Hid (k.or (lkX x) = if 64 < cntX x 0 then ⟨true, k.n, k.f⟩ else ⟨k.m, k.n || !namesX x, (k.f || !formX x) || !shortX x⟩) := Lib.hid (by
    unfold lkX bigX Lk.or
    by_cases h : 64 < cntX x 0
    · simp [h]
    · simp [h, Bool.or_assoc])
  have hBK : w.heap.size ≠ K := by have := hl.lt; omega
  obtain ⟨a, c, hav⟩ := hx.isSlice
  clear hx hfit u0 hb0 u hl
  generalize cntX x 0 = C at *
  generalize formX x = fm at *
  generalize k.or (lkX x) = R at *
  generalize namesX x = nmx at *
  generalize shortX x = shx at *
  obtain ⟨kd, n, s, av, kids⟩ := x
  dsimp only at hav HC HF HP HB
  subst hav
  go_enter Tryz.func130, Tryz.ntmps130
  go_wp2_with fail
  refine HC.out.mono ?_
  rintro e w1 ⟨rfl, hu1⟩
  have hL1 := HL.out.keep hu1
  have hB1 := (hu1.block _ (lt_of_blk HB.out) (by simp)).trans HB.out
  have HU1 : Hid (Upd [] w w1) := Lib.hid (HU0.out.trans hu1)
  by_cases h64 : 64 < C
  · have hi : (64 : Int) < (C : Int) := by omega
    have hR : Hid (R = ⟨true, k.n, k.f⟩) := Lib.hid (by rw [HR.out, if_pos h64])
    have k0 : w1.cell? ⟨K, 0, none⟩ = some (.bool k.m) := cell_blk hL1 0
    have fz : w1.frozen? ⟨K, 0, none⟩ = false := frozen_blk hL1 0
    have hD : Hid (LkAt (w1.setCell ⟨K, 0, none⟩ (.bool true)) K ⟨true, k.n, k.f⟩ ∧ Upd [K] w (w1.setCell ⟨K, 0, none⟩ (.bool true))) := Lib.hid ⟨hL1.set 0 true _ rfl, HU1.out.one.setCell (by simp) 0 _⟩
    clear h64 hL1 hB1 hu1
    go_wp2_with fail
    refine bodyPost_ret (results_none rfl _ _ _) rfl ?_
    exact ⟨rfl, by rw [hR.out]; exact hD.out.1, hD.out.2⟩
  · have hi : ¬ (64 : Int) < (C : Int) := by omega
    have hR : Hid (R = ⟨k.m, k.n || !nmx, (k.f || !fm) || !shx⟩) := Lib.hid (by rw [HR.out, if_neg h64])
    have k2 : w1.cell? ⟨K, 2, none⟩ = some (.bool k.f) := cell_blk hL1 2
    have fz : w1.frozen? ⟨K, 2, none⟩ = false := frozen_blk hL1 2
    have x0 : w1.cell? ⟨w.heap.size, 0, none⟩ = some (.int .i64 kd) := cell_blk hB1 0
    have x1 : w1.cell? ⟨w.heap.size, 1, none⟩ = some (.int .i64 n) := cell_blk hB1 1
    have x2 : w1.cell? ⟨w.heap.size, 2, none⟩ = some (.string s) := cell_blk hB1 2
    have x3 : w1.cell? ⟨w.heap.size, 3, none⟩ = some (.slice a kids.list.length c) := cell_blk hB1 3
    have HL1 := Lib.hid hL1
    have HB1 := Lib.hid hB1
    clear h64 hL1 hB1 hu1
    obtain ⟨F, hF0⟩ : ∃ F, F = (k.f || !fm) := ⟨_, rfl⟩
    rw [← hF0] at hR
    generalize w.heap.size = B at *
    go_upto_region 3 with (fail)
    go_cut [] (fun W2 => Hid (LkAt W2 K ⟨k.m, k.n, F⟩) ∧ Hid (W2.heap[B]? = some (boxX ⟨kd, n, s, .slice a kids.list.length c, kids⟩)) ∧ Hid (Upd [K] w W2))
    case first =>
      cases hkf : k.f with
      | true =>
        rw [hkf] at k2
        obtain rfl : F = true := by rw [hF0, hkf]; rfl
        have hD : Hid (LkAt (w1.setCell ⟨K, 2, none⟩ (.bool true)) K ⟨k.m, k.n, true⟩ ∧ (w1.setCell ⟨K, 2, none⟩ (.bool true)).heap[B]? = some (boxX ⟨kd, n, s, .slice a kids.list.length c, kids⟩) ∧ Upd [K] w (w1.setCell ⟨K, 2, none⟩ (.bool true))) := Lib.hid ⟨HL1.out.set 2 true _ rfl, by rw [heap_setCell, if_neg hBK]; exact HB1.out, HU1.out.one.setCell (by simp) 2 _⟩
        clear hkf hF0
        go_wp2_with fail
        go_meet
        case rel => exact ⟨Lib.hid hD.out.1, Lib.hid hD.out.2.1, Lib.hid hD.out.2.2⟩
      | false =>
        rw [hkf] at k2
        obtain rfl : F = !fm := by rw [hF0, hkf]; rfl
        clear hkf hF0
        go_wp2_with fail
        refine (HF.out w1 (HU.out.trans HU1.out)).mono ?_
        rintro e w3 ⟨rfl, hu3⟩
        have hL3 := HL1.out.keep hu3
        have hB3 := (hu3.block _ (lt_of_blk HB1.out) (by simp)).trans HB1.out
        have k2' : w3.cell? ⟨K, 2, none⟩ = some (.bool k.f) := cell_blk hL3 2
        have fz' : w3.frozen? ⟨K, 2, none⟩ = false := frozen_blk hL3 2
        have hD : Hid (LkAt (w3.setCell ⟨K, 2, none⟩ (.bool (!fm))) K ⟨k.m, k.n, !fm⟩ ∧ (w3.setCell ⟨K, 2, none⟩ (.bool (!fm))).heap[B]? = some (boxX ⟨kd, n, s, .slice a kids.list.length c, kids⟩) ∧ Upd [K] w (w3.setCell ⟨K, 2, none⟩ (.bool (!fm)))) := Lib.hid ⟨hL3.set 2 _ _ rfl, by rw [heap_setCell, if_neg hBK]; exact hB3, (HU1.out.trans hu3).one.setCell (by simp) 2 _⟩
        clear hL3 hB3 hu3
        go_wp2_with fail
        go_meet
        case rel => exact ⟨Lib.hid hD.out.1, Lib.hid hD.out.2.1, Lib.hid hD.out.2.2⟩
    case rest =>
      obtain ⟨hL2, hB2, hU2⟩ := hcut
      have y0 : wc.cell? ⟨B, 0, none⟩ = some (.int .i64 kd) := cell_blk hB2.out 0
      have y1 : wc.cell? ⟨B, 1, none⟩ = some (.int .i64 n) := cell_blk hB2.out 1
      have y2 : wc.cell? ⟨B, 2, none⟩ = some (.string s) := cell_blk hB2.out 2
      have y3 : wc.cell? ⟨B, 3, none⟩ = some (.slice a kids.list.length c) := cell_blk hB2.out 3
      have HPc := Lib.hid (HP.out ⟨k.m, k.n, F⟩ wc (HU.out.old hK hU2.out) hL2.out)
      clear k2 x0 x1 x2 x3 HP HF HL1 HB1
      go_wp2_with fail
      refine HPc.out.mono ?_
      rintro e w5 ⟨rfl, hl5, hu5⟩
      have HL5 := Lib.hid hl5
      have HU5 := Lib.hid (hU2.out.trans hu5)
      clear hl5 hu5
      go_wp2_with fail
      go_end0
      exact ⟨rfl, by rw [hR.out]; exact HL5.out, HU5.out⟩
end Go.Proofs.YtajppgngoffonaaGreatDoor

namespace Go.Proofs.YtajppgngoffonaaGreatDoor
open Go.RowKit

abbrev boxG (a : Asg) : Obj := .cells #[.string a.nm, .int .i64 a.e.kd, .int .i64 a.e.n, .string a.e.s, a.e.av] 104

theorem lkL_drop {α : Type} (f : α → Lk) (l : List α) (j : Nat) (hj : j < l.length) : lkL f (l.drop j) = (f l[j]).or (lkL f (l.drop (j + 1))) := by
  rw [List.drop_eq_getElem_cons hj, lkL]
theorem Lk.or_assoc (a b c : Lk) : (a.or b).or c = a.or (b.or c) := by simp [Lk.or, Bool.or_assoc]
theorem Lk.or_nil (a : Lk) : a.or ⟨false, false, false⟩ = a := by cases a; simp [Lk.or]
theorem OwnS.keepK {w w' : World} {base K : Nat} {v : Value} {l : List ByteArray} (h : OwnS w base v l) (u : Upd [K] w w') (hK : K < base) : OwnS w' base v l :=
  own_upd h u (fun k hk q => by simp at hk; have := (h.lt _ q).1; omega)
theorem LkAt.grown {w w' : World} {K base : Nat} {k : Lk} {v : Value} {l : List ByteArray} (h : LkAt w K k) (g : w.grownBy w' v.ownBlock) (ho : OwnS w base v l) (hK : K < base) : LkAt w' K k :=
  (g.block K (lt_of_blk h) (fun q => by have := (ho.lt _ q.symm).1; omega)).trans h

set_option maxRecDepth 100000 in
set_option maxHeartbeats 4000000 in
theorem sets_ok (K : Nat) (k : Lk) (v : Value) (l : List Asg) (w0 w : World) (hK : w0.heap.size ≤ K) (hs : AsgsAt w0 v l) (hz : ∀ a ∈ l, FitA a) (hlen : l.length * 16 ≤ 140737488355328) (u : Upd [] w0 w) (hk : LkAt w K k) :
    Calls Tryz.prog 92 #[.pointer (some ⟨K, 0, none⟩), v] w fun e w' => ∃ v', e = .returned v' ∧ OwnS w' w.heap.size v' (l.map Asg.nm) ∧ LkAt w' K (k.or (lkS l)) ∧ Upd [K] w w' := by
  have HS := Lib.hid hs
  have HZ := Lib.hid hz
  have HU0 := Lib.hid u
  have HK := Lib.hid hk
  have H0 : Hid (k.or (lkS l) = (Lk.mk (k.m || manyS l) k.n k.f).or (lkL (fun a => lkX a.e) (l.drop 0))) := Lib.hid (by
    unfold lkS
    rw [← Lk.or_assoc, List.drop_zero]
    simp [Lk.or])
  obtain ⟨a, cap, rfl, h1, h2⟩ := hs.isSlice
  have hKw := hk.lt
  generalize hT : k.or (lkS l) = T at *
  have k0 : w.cell? ⟨K, 0, none⟩ = some (.bool k.m) := cell_blk hk 0
  have fz : w.frozen? ⟨K, 0, none⟩ = false := frozen_blk hk 0
  obtain ⟨M, hM0⟩ : ∃ M, M = (k.m || manyS l) := ⟨_, rfl⟩
  rw [← hM0] at H0
  clear hs hz u hk hT
  go_enter Tryz.func92, Tryz.ntmps92
  go_upto_region 1 with (fail)
  go_cut [] (fun W2 => Hid (LkAt W2 K ⟨M, k.n, k.f⟩) ∧ Hid (Upd [K] w W2) ∧ W2.heap.size = w.heap.size)
  case first =>
    have hD : ∀ g : Bool, Hid (LkAt (w.setCell ⟨K, 0, none⟩ (.bool g)) K ⟨g, k.n, k.f⟩ ∧ Upd [K] w (w.setCell ⟨K, 0, none⟩ (.bool g)) ∧ (w.setCell ⟨K, 0, none⟩ (.bool g)).heap.size = w.heap.size) := fun g =>
      Lib.hid ⟨HK.out.set 0 g _ rfl, (Upd.refl [K] w).setCell (by simp) 0 _, by simp⟩
    cases hkm : k.m with
    | true =>
      rw [hkm] at k0
      obtain rfl : M = true := by rw [hM0, hkm]; rfl
      have hE := hD true
      clear hD hkm hM0
      go_wp2_with fail
      go_meet
      case rel => exact ⟨Lib.hid hE.out.1, Lib.hid hE.out.2.1, hE.out.2.2⟩
    | false =>
      rw [hkm] at k0
      have hM1 : M = manyS l := by rw [hM0, hkm]; rfl
      unfold manyS at hM1
      clear hkm hM0
      by_cases h16 : 16 < l.length
      · rw [decide_eq_true h16] at hM1
        obtain rfl : M = true := hM1
        have hi : (16 : Int) < (l.length : Int) := by omega
        have hE := hD true
        clear hD h16
        go_wp2_with fail
        go_meet
        case rel => exact ⟨Lib.hid hE.out.1, Lib.hid hE.out.2.1, hE.out.2.2⟩
      · rw [decide_eq_false h16] at hM1
        obtain rfl : M = false := hM1
        have hi : ¬ (16 : Int) < (l.length : Int) := by omega
        have hE := hD false
        clear hD h16
        go_wp2_with fail
        go_meet
        case rel => exact ⟨Lib.hid hE.out.1, Lib.hid hE.out.2.1, hE.out.2.2⟩
  case rest =>
    obtain ⟨hL, hU, hsz⟩ := hcut
    clear k0 fz hM0
    go_wp2_with fail
    go_loopg [5, 7, 22] l.length (fun n t5 _ t22 wr => ∃ (j : Nat) (k' : Lk), t22 = .int .i64 j ∧ j ≤ l.length ∧ n = l.length - j ∧ Hid (OwnS wr w.heap.size t5 ((l.map Asg.nm).take j)) ∧ Hid (T = k'.or (lkL (fun a => lkX a.e) (l.drop j))) ∧ Hid (LkAt wr K k') ∧ Hid (Upd [K] w wr))
    case atStart => exact ⟨0, _, rfl, by omega, rfl, Lib.hid (own_nilS _ _), H0, hL, hU⟩
    case round =>
      obtain ⟨j, k', rfl, hj, rfl, hO, hA, hL', hU'⟩ := hrel
      by_cases hjl : j < l.length
      · have hlt : (j : Int) < (l.length : Int) := by omega
        have hud := HU0.out.old hK hU'.out
        obtain ⟨a', cap', hv, g1, g2, g3⟩ := HS.out.keep hud
        simp only [Value.slice.injEq] at hv
        obtain ⟨rfl, -, rfl⟩ := hv
        obtain ⟨b, off, rfl, hy⟩ := g3 j hjl
        obtain ⟨c0, hx⟩ := hy
        obtain ⟨c1, c2, c3, c4⟩ := hx.1
        obtain ⟨ya, yc, hys⟩ := hx.2.isSlice
        have hfa := HZ.out l[j] (List.getElem_mem hjl)
        have hT' : Hid (T = (k'.or (lkX l[j].e)).or (lkL (fun a => lkX a.e) (l.drop (j + 1)))) := Lib.hid (by rw [hA.out, lkL_drop _ l j hjl, Lk.or_assoc])
        have htk : Hid ((l.map Asg.nm).take (j + 1) = (l.map Asg.nm).take j ++ [l[j].nm]) := Lib.hid (by rw [List.take_add_one, List.getElem?_map, List.getElem?_eq_getElem hjl]; rfl)
        have hxk : KidsAt w0 l[j].e.av l[j].e.kids := by
          obtain ⟨a2, cap2, hv2, q1, q2, q3⟩ := HS.out
          obtain ⟨b2, off2, e2, hy2⟩ := q3 j hjl
          exact hy2.2.2
        have hE := Lib.hid (fun W (q : Upd [] w0 W) (hW : LkAt W K k') => expr_ok l[j].e K k' w0 W hK hxk hfa.2 q hW)
        have htl : ((l.map Asg.nm).take j).length = j := by simp; omega
        have hle := hU'.out.size
        have hKr := hL'.out.lt
        clear g3 hx hfa hxk
        have HUD := Lib.hid hud
        clear hud
        generalize hAg : l[j] = ag at *
        clear hAg
        obtain ⟨anm, ⟨akd, an, as_, aav, akids⟩⟩ := ag
        dsimp only at hys c0 c1 c2 c3 c4 hE htk hT'
        subst hys
        have HB : Hid (((wr.alloc (boxG ⟨anm, ⟨akd, an, as_, .slice ya akids.list.length yc, akids⟩⟩)).alloc (.cells #[.string anm] 9)).heap[wr.heap.size + 1]? = some (.cells #[.string anm] 9 (0, 0))) := Lib.hid (by rw [heap_alloc, if_pos (by simp)])
        have hbx : ((wr.alloc (boxG ⟨anm, ⟨akd, an, as_, .slice ya akids.list.length yc, akids⟩⟩)).alloc (.cells #[.string anm] 9)).heap[wr.heap.size]? = some (boxG ⟨anm, ⟨akd, an, as_, .slice ya akids.list.length yc, akids⟩⟩) := by rw [heap_alloc, if_neg (by simp), heap_alloc, if_pos rfl]
        have HBX := Lib.hid hbx
        clear hbx
        go_wp2_with (at_builtin; refine wpList_append_str rfl _ _ rfl (base := w.heap.size) (l := (l.map Asg.nm).take j) (A := some ⟨wr.heap.size + 1, 0, none⟩) (c := 1) (r := [anm]) rfl ((hO.out.alloc _).alloc _) rfl (srcS_box (by exact HB.out)) ?c1 ?c2 ?_)
        case c1 => rw [htl]; simp; omega
        case c2 => simp; omega
        intro v7 w7 ho7 hg7
        have hl7 : LkAt w7 K k' := LkAt.grown ((hL'.out.keep ((Upd.refl [] wr).alloc _)).keep ((Upd.refl [] _).alloc _)) hg7 ((hO.out.alloc _).alloc _) hKw
        have hown := (hO.out.alloc (boxG ⟨anm, ⟨akd, an, as_, .slice ya akids.list.length yc, akids⟩⟩)).alloc (.cells #[.string anm] 9)
        have hu7 : Upd [K] w w7 := ((hU'.out.alloc _).alloc _).grown hg7 (fun q hq => (hO.out.lt q hq).1)
        have hb7 : w7.heap[wr.heap.size]? = some (boxG ⟨anm, ⟨akd, an, as_, .slice ya akids.list.length yc, akids⟩⟩) := (hg7.block _ (lt_of_blk HBX.out) (fun q => by have := (hO.out.lt _ q.symm).2; omega)).trans HBX.out
        rw [← htk.out] at ho7
        have e1 : w7.cell? ⟨wr.heap.size, 1, none⟩ = some (.int .i64 akd) := cell_blk hb7 1
        have e2 : w7.cell? ⟨wr.heap.size, 2, none⟩ = some (.int .i64 an) := cell_blk hb7 2
        have e3 : w7.cell? ⟨wr.heap.size, 3, none⟩ = some (.string as_) := cell_blk hb7 3
        have e4 : w7.cell? ⟨wr.heap.size, 4, none⟩ = some (.slice ya akids.list.length yc) := cell_blk hb7 4
        have HE7 := Lib.hid (hE.out w7 (HU0.out.old hK hu7) hl7)
        have HO7 := Lib.hid ho7
        have HU7 := Lib.hid hu7
        clear hown hu7 hb7 ho7 hl7 hg7 hE HBX HB c0 c1 c2 c3 c4 hO hL' hU' HUD
        go_wp2_with fail
        refine HE7.out.mono ?_
        rintro e w8 ⟨rfl, hl8, hu8⟩
        have HL8 := Lib.hid hl8
        have HU8 := Lib.hid (HU7.out.trans hu8)
        have HO8 := Lib.hid (HO7.out.keepK hu8 hKw)
        clear hl8 hu8 HE7 HO7 HU7
        go_wp2_with fail
        go_roundg (l.length - (j + 1))
        case measure => omega
        case rel => exact ⟨j + 1, _, by go_num, by omega, rfl, HO8, hT', HL8, HU8⟩
      · have hlt : ¬ (j : Int) < (l.length : Int) := by omega
        have hj2 : j = l.length := by omega
        subst hj2
        have hT' : Hid (T = k') := Lib.hid (by rw [hA.out, List.drop_eq_nil_of_le (by omega), lkL, Lk.or_nil])
        have hO' := hO.out
        rw [List.take_of_length_le (by simp)] at hO'
        have HO' := Lib.hid hO'
        clear hO hO'
        go_wp2_with fail
        go_ret
        exact ⟨_, rfl, HO'.out, by rw [hT'.out]; exact hL'.out, hU'.out⟩
end Go.Proofs.YtajppgngoffonaaGreatDoor
