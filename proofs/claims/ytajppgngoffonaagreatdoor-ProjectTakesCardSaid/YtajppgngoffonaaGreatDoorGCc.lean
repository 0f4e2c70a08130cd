/- The library's Grow and Concat over texts. The library's Concat over texts. -/
import Derived.Lib.AppendZeros
import Derived.Test.YtajppgngoffonaaGreatDoorGLk
namespace Go.Proofs.YtajppgngoffonaaGreatDoor
open Go.RowKit

/-- A row with room: the texts l at block g, room for cap. -/
structure RoomS (w : World) (base g cap : Nat) (l : List ByteArray) : Prop where
  blk : ∃ X : List Value, w.heap[g]? = some (.cells X.toArray 9 (0, 0)) ∧ X.length = cap ∧ X.take l.length = flatS l
  ge : base ≤ g
  le : l.length ≤ cap
  max : cap ≤ maxLen

theorem RoomS.own {w : World} {base g cap : Nat} {l : List ByteArray} (h : RoomS w base g cap l) : OwnS w base (.slice (some ⟨g, 0, none⟩) l.length cap) l := by
  obtain ⟨⟨X, h1, h2, h3⟩, h4, h5, h6⟩ := h
  exact ⟨flatS_len l, .inr ⟨g, cap, X.toArray, rfl, h4, h1, h5, h6, by simpa using h2, by simpa using h3⟩⟩

theorem append_room {w : World} {base g cap : Nat} {l : List ByteArray} (h : RoomS w base g cap l) {A : Option Addr} (c : Nat) {r : List ByteArray} (hr : SrcS w A r) (hroom : l.length + r.length ≤ cap) :
    ∃ w', (∀ ty, (Builtin.append_ #[106, 106] ty #[.slice (some ⟨g, 0, none⟩) l.length cap, .slice A r.length c]).run Tryz.prog w = .ok (.slice (some ⟨g, 0, none⟩) (l ++ r).length cap) w') ∧ RoomS w' base g cap (l ++ r) ∧ Upd [g] w w' := by
  obtain ⟨i0, hi0, hz0, hz1, hz2⟩ := info_partsS
  obtain ⟨⟨X, h1, h2, h3⟩, h4, h5, h6⟩ := h
  rcases A with _ | ad
  · obtain rfl := hr.1 rfl
    refine ⟨w, fun ty => ?_, ⟨⟨X, h1, h2, by simpa using h3⟩, h4, by simpa using h5, h6⟩, Upd.refl _ _⟩
    simp [Builtin.append_, run_underlying Tryz.underlying106, sizeOf, typeInfo, hi0, Builtin.lenOf, Builtin.firstCells, h5, storeCells]
  · refine ⟨w.setRow g (splice X (l.length * 1) (flatS r)).toArray, fun ty => ?_, ⟨⟨splice X (l.length * 1) (flatS r), setRow_heap w g _ _ 9 _ h1, ?_, ?_⟩, h4, by rw [List.length_append]; exact hroom, h6⟩, (Upd.refl [g] w).setRow (Or.inr (by simp)) _⟩
    · have := run_append_room (P := Tryz.prog) w 106 ty 9 i0 Tryz.underlying106 hi0 g l.length cap X.toArray h1 ad r.length c (flatS r) (by rw [hz1, flatS_len]) (hr.2 ad rfl) (flatS_one r) hroom (by rw [hz1, flatS_len]; simp; omega)
      rw [this, hz1]
      simp [splice]
    · rw [length_splice _ _ _ (by rw [flatS_len]; omega), h2]
    · have := take_splice2 X (l.length * 1) (flatS r) (by omega)
      rw [flatS_len] at this
      rw [List.length_append, flatS_app, ← h3]
      simpa using this

set_option maxRecDepth 100000 in
theorem grow_none (w : World) : Calls Tryz.prog 131 #[.slice none 0 0, .int .i64 0] w fun e w' => e = .returned (.slice none 0 0) ∧ w' = w := by
  go_enter Tryz.func131, Tryz.ntmps131
  go_wp2_with fail
  go_ret
  exact ⟨rfl, rfl⟩

set_option maxRecDepth 100000 in
set_option maxHeartbeats 800000 in
theorem grow_some (n : Nat) (h0 : 0 < n) (hn : n * 16 ≤ 281474976710656) (w : World) : Calls Tryz.prog 131 #[.slice none 0 0, .int .i64 n] w fun e w' => ∃ g cap, e = .returned (.slice (some ⟨g, 0, none⟩) 0 cap) ∧ n ≤ cap ∧ RoomS w' w.heap.size g cap [] ∧ Upd [] w w' := by
  obtain ⟨i0, hi0, hz0, hz1, hz2⟩ := info_partsS
  have hap := fun ty => Lib.run_append_nil_zeros (P := Tryz.prog) w 106 3 ty 9 i0 _ .i64 .i64 Tryz.underlying106 Tryz.underlying3 hi0 hz0 n h0 (by omega) (by omega) (by rw [hz2]; exact hn)
  have hG1 := grownCap_ge w n 0 9
  have hG2 := grownCap_le_maxLen w n 0 9 (by unfold maxLen; omega)
  generalize grownCap w n 0 9 = G at *
  obtain ⟨Z, hZ⟩ : ∃ Z : List Value, Z = (Builtin.zeroCells (Value.string ByteArray.empty).cells n ++ Builtin.zeroCells (Value.string ByteArray.empty).cells (G - n)).toList := ⟨_, rfl⟩
  have hZa : (Builtin.zeroCells (Value.string ByteArray.empty).cells n ++ Builtin.zeroCells (Value.string ByteArray.empty).cells (G - n)) = Z.toArray := by rw [hZ]
  have hZl : Z.length = G := by
    rw [hZ]
    have e : (Value.string ByteArray.empty).cells.size = 1 := rfl
    simp [size_zeroCells, e]
    omega
  rw [hZa] at hap
  have HR : Hid (RoomS (w.drew.alloc (.cells Z.toArray 9)) w.heap.size w.heap.size G [] ∧ Upd [] w (w.drew.alloc (.cells Z.toArray 9))) :=
    Lib.hid ⟨⟨⟨Z, by show (w.drew.alloc _).heap[w.drew.heap.size]? = _; rw [heap_alloc, if_pos rfl], hZl, by simp [flatS]⟩, Nat.le_refl _, by simp, hG2⟩, ((Upd.refl [] w).drew).alloc _⟩
  have hs1 := fun W => sliceS_hi ⟨w.heap.size, 0, none⟩ n G 0 (by omega) W
  rw [if_neg (by omega)] at hs1
  clear hZ hZa hZl hG2
  generalize hX : w.drew.alloc (.cells Z.toArray 9) = X at *
  have hni : (0 : Int) < (n : Int) := by omega
  have hnw : wrap64 (n : Int) = n := IntWalk.wrap64_in _ (by omega)
  go_enter Tryz.func131, Tryz.ntmps131
  go_wp2_with (at_builtin; refine Lib.wpList_append_run _ rfl _ _ _ _ rfl _ _ rfl rfl _ _ (hap _) ?_)
  go_ret
  exact ⟨_, _, rfl, hG1, HR.out.1, HR.out.2⟩
end Go.Proofs.YtajppgngoffonaaGreatDoor

namespace Go.Proofs.YtajppgngoffonaaGreatDoor
open Go.RowKit

def StsAt (w : World) (b o : Nat) (p : Value × List ByteArray) : Prop := w.cell? ⟨b, o, none⟩ = some p.1 ∧ StrsAt w p.1 p.2

def totS (ls : List (Value × List ByteArray)) : Nat := (ls.map fun p => p.2.length).sum
def catS (ls : List (Value × List ByteArray)) : List ByteArray := ls.flatMap fun p => p.2

theorem take_next {α : Type} (l : List α) (j : Nat) (hj : j < l.length) : l.take (j + 1) = l.take j ++ [l[j]] := by
  rw [List.take_add_one, List.getElem?_eq_getElem hj]
  rfl

theorem totS_take (ls : List (Value × List ByteArray)) (j : Nat) (hj : j < ls.length) : totS (ls.take (j + 1)) = totS (ls.take j) + ls[j].2.length := by
  unfold totS
  rw [take_next ls j hj]
  simp only [List.map_append, List.sum_append, List.map_cons, List.map_nil, List.sum_cons, List.sum_nil, Nat.add_zero]
theorem catS_take (ls : List (Value × List ByteArray)) (j : Nat) (hj : j < ls.length) : catS (ls.take (j + 1)) = catS (ls.take j) ++ ls[j].2 := by
  unfold catS
  rw [take_next ls j hj]
  simp only [List.flatMap_append, List.flatMap_cons, List.flatMap_nil, List.append_nil]
theorem catS_len (ls : List (Value × List ByteArray)) : (catS ls).length = totS ls := by
  unfold catS totS
  rw [List.length_flatMap]
theorem totS_le (ls : List (Value × List ByteArray)) (j : Nat) : totS (ls.take j) ≤ totS ls := by
  have h : totS ls = totS (ls.take j) + totS (ls.drop j) := by
    unfold totS
    rw [← List.sum_append, ← List.map_append, List.take_append_drop]
  omega

theorem StrsAt.src {w : World} {a : Option Addr} {n cap : Nat} {l : List ByteArray} (h : StrsAt w (.slice a n cap) l) : n = l.length ∧ SrcS w a l := by
  obtain ⟨a', cap', hv, h1, h2, h3⟩ := h
  simp only [Value.slice.injEq] at hv
  obtain ⟨rfl, rfl, rfl⟩ := hv
  refine ⟨rfl, fun q => ?_, fun ad q j u hu => ?_⟩
  · cases l with
    | nil => rfl
    | cons x l => obtain ⟨b, off, e, _⟩ := h3 0 (by simp); rw [q] at e; cases e
  · have hj : j < l.length := by
      rcases Nat.lt_or_ge j l.length with h | h
      · exact h
      · rw [List.getElem?_eq_none (by simpa [flatS] using h)] at hu; cases hu
    obtain ⟨b, off, e, hx⟩ := h3 j hj
    rw [q] at e
    cases e
    simp only [flatS, List.getElem?_map, List.getElem?_eq_getElem hj, Option.map_some, Option.some.injEq] at hu
    subst hu
    have hx' : w.cell? ⟨b, off + j * 1, none⟩ = some (.string l[j]) := hx
    rw [Nat.mul_one] at hx'
    unfold Addr.add
    split
    · rename_i h0
      subst h0
      exact hx'
    · exact hx'

set_option maxRecDepth 100000 in
set_option maxHeartbeats 2000000 in
theorem concat_ok (v : Value) (ls : List (Value × List ByteArray)) (w : World) (h : SlAt 1 StsAt w v ls) (hb : totS ls * 16 ≤ 281474976710656) :
    Calls Tryz.prog 91 #[v] w fun e w' => ∃ v', e = .returned v' ∧ OwnS w' w.heap.size v' (catS ls) ∧ Upd [] w w' := by
  have HK := Lib.hid (fun (W : World) (u : Upd [] w W) => SlAt.keep (fun b o x (hx : StsAt w b o x) => (show StsAt W b o x from ⟨cell_keep u hx.1, hx.2.keep u⟩)) h)
  obtain ⟨a, cap, rfl, h1, h2⟩ := h.isSlice
  clear h
  go_enter Tryz.func91, Tryz.ntmps91
  go_wp2_with fail
  go_loopg [3, 5, 11] ls.length (fun n t3 _ t11 wr => ∃ j : Nat, t11 = .int .i64 j ∧ j ≤ ls.length ∧ n = ls.length - j ∧ t3 = .int .i64 (totS (ls.take j) : Nat) ∧ wr = w)
  case atStart => exact ⟨0, rfl, by omega, rfl, by simp [totS], rfl⟩
  case round =>
    obtain ⟨j, rfl, hj, rfl, rfl, rfl⟩ := hrel
    by_cases hjl : j < ls.length
    · have hlt : (j : Int) < (ls.length : Int) := by omega
      obtain ⟨a', cap', hv, g1, g2, g3⟩ := HK.out wr (Upd.refl _ _)
      simp only [Value.slice.injEq] at hv
      obtain ⟨rfl, -, rfl⟩ := hv
      obtain ⟨b, off, rfl, hx⟩ := g3 j hjl
      obtain ⟨c0, hs⟩ := hx
      rw [Nat.mul_one] at c0
      obtain ⟨sa, sc, hsv, -, -⟩ := hs.isSlice
      have ht := totS_take ls j hjl
      have hle := totS_le ls (j + 1)
      clear g3 hs
      generalize ls[j] = p at *
      obtain ⟨pv, pl⟩ := p
      dsimp only at c0 hsv ht
      subst hsv
      have hneg : ¬ ((totS (ls.take j) : Int) + (pl.length : Int)) < 0 := by omega
      have hlo : -9223372036854775808 ≤ ((totS (ls.take j) : Int) + (pl.length : Int)) ∧ ((totS (ls.take j) : Int) + (pl.length : Int)) ≤ 9223372036854775807 := by omega
      have hw : wrap64 ((totS (ls.take j) : Int) + (pl.length : Int)) = ((totS (ls.take j) : Int) + (pl.length : Int)) := IntWalk.wrap64_in _ (by omega)
      have HT := Lib.hid ht
      clear ht hle
      go_wp2_with fail
      go_roundg (ls.length - (j + 1))
      case measure => omega
      case rel => exact ⟨j + 1, by go_num, by omega, rfl, by rw [HT.out, Int.natCast_add], rfl⟩
    · have hlt : ¬ (j : Int) < (ls.length : Int) := by omega
      have hj2 : j = ls.length := by omega
      subst hj2
      have HT : Hid (totS (ls.take ls.length) = totS ls) := Lib.hid (by rw [List.take_length])
      by_cases h0 : totS ls = 0
      · have hz : ((totS (ls.take ls.length) : Nat) : Int) = 0 := by rw [HT.out, h0]; rfl
        rw [hz]
        have hl0 : ∀ j (hj : j < ls.length), ls[j].2.length = 0 ∧ totS (ls.take j) = 0 := fun j hj => by
          have h1 := totS_take ls j hj
          have h2 := totS_le ls (j + 1)
          omega
        have HL0 := Lib.hid hl0
        clear hz hl0 h0
        go_wp2_with fail
        refine (grow_none _).mono ?_
        rintro e w1 ⟨rfl, rfl⟩
        go_wp2_with fail
        go_loopg [6, 8, 27] ls.length (fun n t6 _ t27 wr2 => ∃ j : Nat, t27 = .int .i64 j ∧ j ≤ ls.length ∧ n = ls.length - j ∧ Hid (OwnS wr2 w1.heap.size t6 (catS (ls.take j))) ∧ Hid (Upd [] w1 wr2))
        case atStart => exact ⟨0, rfl, by omega, rfl, Lib.hid (own_nilS _ _), Lib.hid (Upd.refl _ _)⟩
        case round =>
          obtain ⟨j, rfl, hj, rfl, hO, hU⟩ := hrel
          by_cases hjl : j < ls.length
          · have hlt : (j : Int) < (ls.length : Int) := by omega
            obtain ⟨a', cap', hv, g1, g2, g3⟩ := HK.out wr hU.out
            simp only [Value.slice.injEq] at hv
            obtain ⟨rfl, -, rfl⟩ := hv
            obtain ⟨b, off, rfl, hx⟩ := g3 j hjl
            obtain ⟨c0, hs⟩ := hx
            rw [Nat.mul_one] at c0
            obtain ⟨sa, sc, hsv, -, -⟩ := hs.isSlice
            have hct := Lib.hid (catS_take ls j hjl)
            have hz := HL0.out j hjl
            have HCL : Hid ((catS (ls.take j)).length = 0) := Lib.hid (by rw [catS_len]; exact hz.2)
            have hle := hU.out.size
            clear g3
            generalize ls[j] = p at *
            obtain ⟨pv, pl⟩ := p
            dsimp only at c0 hsv hct hz hs
            subst hsv
            have HSr := Lib.hid hs.src.2
            have HZ := Lib.hid hz
            clear hs hz
            go_wp2_with (at_builtin; refine wpList_append_str rfl _ _ rfl (base := w1.heap.size) (l := catS (ls.take j)) (A := sa) (c := sc) (r := pl) rfl hO.out rfl HSr.out ?c1 ?c2 ?_)
            case c1 => rw [HCL.out, HZ.out.1]; omega
            case c2 => exact hle
            intro v7 w7 ho7 hg7
            rw [← hct.out] at ho7
            have HO7 := Lib.hid ho7
            have HU7 : Hid (Upd [] w1 w7) := Lib.hid (hU.out.grown hg7 (fun q hq => (hO.out.lt q hq).1))
            clear ho7 hg7 hO hU
            go_wp2_with fail
            go_roundg (ls.length - (j + 1))
            case measure => omega
            case rel => exact ⟨j + 1, by go_num, by omega, rfl, HO7, HU7⟩
          · have hlt : ¬ (j : Int) < (ls.length : Int) := by omega
            have hj2 : j = ls.length := by omega
            subst hj2
            have hO2 := hO.out
            rw [List.take_length] at hO2
            have HO2 := Lib.hid hO2
            clear hO hO2
            go_wp2_with fail
            go_ret
            exact ⟨_, rfl, HO2.out, hU.out⟩
      · have hz : totS (ls.take ls.length) = totS ls := HT.out
        rw [hz]
        clear hz
        go_wp2_with fail
        refine (grow_some (totS ls) (by omega) hb _).mono ?_
        rintro e w1 ⟨G, C, rfl, hC, hR, hu1⟩
        have HR := Lib.hid hR
        have HU1 := Lib.hid hu1
        have hsz1 := hu1.size
        clear hR hu1
        go_wp2_with fail
        go_loopg [6, 8, 27] ls.length (fun n t6 _ t27 wr2 => ∃ j : Nat, t27 = .int .i64 j ∧ j ≤ ls.length ∧ n = ls.length - j ∧ t6 = .slice (some ⟨G, 0, none⟩) (catS (ls.take j)).length C ∧ Hid (RoomS wr2 wr.heap.size G C (catS (ls.take j))) ∧ Hid (Upd [] wr wr2))
        case atStart => exact ⟨0, rfl, by omega, rfl, rfl, HR, HU1⟩
        case round =>
          obtain ⟨j, rfl, hj, rfl, rfl, hO, hU⟩ := hrel
          by_cases hjl : j < ls.length
          · have hlt : (j : Int) < (ls.length : Int) := by omega
            obtain ⟨a', cap', hv, g1, g2, g3⟩ := HK.out _ hU.out
            simp only [Value.slice.injEq] at hv
            obtain ⟨rfl, -, rfl⟩ := hv
            obtain ⟨b, off, rfl, hx⟩ := g3 j hjl
            obtain ⟨c0, hs⟩ := hx
            rw [Nat.mul_one] at c0
            obtain ⟨sa, sc, hsv, -, -⟩ := hs.isSlice
            have hct := Lib.hid (catS_take ls j hjl)
            have hro : (catS (ls.take j)).length + ls[j].2.length ≤ C := by
              rw [catS_len, ← totS_take ls j hjl]
              have := totS_le ls (j + 1)
              omega
            clear g3
            generalize ls[j] = p at *
            obtain ⟨pv, pl⟩ := p
            dsimp only at c0 hsv hct hs hro
            subst hsv
            obtain ⟨w7, hap, hr7, hu7⟩ := append_room hO.out sc hs.src.2 hro
            rw [← hct.out] at hr7
            have hge := hO.out.ge
            have HR7 := Lib.hid hr7
            have HU7 := Lib.hid (hU.out.next hu7 (fun q hq hlt => by simp at hq; omega))
            have HL7 : Hid ((catS (ls.take j) ++ pl).length = (catS (ls.take (j + 1))).length) := Lib.hid (by rw [hct.out])
            clear hs hr7 hu7 hro
            go_wp2_with (at_builtin; refine Lib.wpList_append_run _ rfl _ _ _ _ rfl _ _ rfl rfl _ _ (hap _) ?_)
            go_roundg (ls.length - (j + 1))
            case measure => omega
            case rel => exact ⟨j + 1, by go_num, by omega, rfl, by rw [← HL7.out, List.length_append], HR7, HU7⟩
          · have hlt : ¬ (j : Int) < (ls.length : Int) := by omega
            have hj2 : j = ls.length := by omega
            subst hj2
            have hO2 := hO.out
            rw [List.take_length] at hO2
            have HO2 := Lib.hid hO2.own
            clear hO hO2
            go_wp2_with fail
            go_ret
            exact ⟨_, rfl, HO2.out, hU.out⟩
end Go.Proofs.YtajppgngoffonaaGreatDoor
