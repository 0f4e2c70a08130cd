/- The reference cache: Keys; and SameInts. -/
import Derived.Test.YtgndkmdmpiiedaaRef1
import Derived.Test.YtgndkmdmpiiedaaOld2
namespace Go.Proofs.Ytgndkmdmpiiedaa.Ref
open Go.RowKit

def wanted (dirty : Bool) (l : List IT) : List Int := (l.filter fun x => !dirty || x.d).map (·.k)

theorem wanted_take (dirty : Bool) (l : List IT) {j : Nat} (hj : j < l.length) : wanted dirty (l.take (j + 1)) = wanted dirty (l.take j) ++ (if (!dirty || l[j].d) = true then [l[j].k] else []) := by
  unfold wanted
  rw [List.take_succ_eq_append_getElem hj, List.filter_append, List.map_append]
  by_cases h : (!dirty || l[j].d) = true
  · rw [if_pos h]; simp only [List.filter_cons, h, if_true, List.filter_nil, List.map_cons, List.map_nil]
  · rw [if_neg h]; simp only [List.filter_cons, h, List.filter_nil, List.map_nil]; simp

theorem wanted_len (dirty : Bool) (l : List IT) : (wanted dirty l).length ≤ l.length := by
  unfold wanted; rw [List.length_map]; exact List.length_filter_le _ _

def KeysPost (dirty : Bool) (l : List IT) (w : World) (e : Ending) (w' : World) : Prop :=
  ∃ v, e = .returned v ∧ w'.ownsRow w.heap.size 3 1 v (wanted dirty l).length (ints (wanted dirty l)) ∧ Upd [] w w'

set_option maxRecDepth 100000 in
set_option maxHeartbeats 1000000 in
theorem keys_ok (w : World) {base r : Nat} {M : Int} {lv : Value} {l : List IT} (h : RRep w base r M lv l) (hl : l.length ≤ 1024) (dirty : Bool) :
    Calls Try.prog 47 #[.pointer (some ⟨r, 0, none⟩), .bool dirty] w (KeysPost dirty l w) := by
  obtain ⟨-, r1, -⟩ := h.cellsR
  have hrl := lt_of_blk h.blk
  have hkey : ∀ i (hi : i < l.length), ∃ g cap, lv = .slice (some ⟨g, 0, none⟩) l.length cap ∧ g < w.heap.size ∧ w.cell? ⟨g, i * 4, none⟩ = some (.int .i64 l[i].k) ∧ w.cell? ⟨g, i * 4 + 2, none⟩ = some (.bool l[i].d) := fun i hi => by
    obtain ⟨g, cap, cur, hv, hb, -, -, -, -, hc⟩ := h.row hi
    have := row_cell hb hc hi
    exact ⟨g, cap, hv, lt_of_blk hb, this.1, this.2.2.1⟩
  obtain ⟨a, cap, hv⟩ : ∃ a cap, lv = .slice a l.length cap := own_slice h.own
  subst hv
  have HK := Lib.hid hkey
  have HT := Lib.hid (fun j hj => @wanted_take dirty l j hj)
  have HL := Lib.hid (fun j => wanted_len dirty (l.take j))
  clear h hkey
  go_enter Try.func47, Try.ntmps47
  go_wp2_with fail
  go_loopg [5, 6] l.length (fun q v i wr => ∃ j : Nat, i = .int .i64 j ∧ j ≤ l.length ∧ q = l.length - j ∧ wr.ownsRow w.heap.size 3 1 v (wanted dirty (l.take j)).length (ints (wanted dirty (l.take j))) ∧ Upd [] w wr)
  case atStart => exact ⟨0, rfl, by omega, rfl, World.ownsRow_nil _ _ _ _, Upd.refl _ _⟩
  case round =>
    obtain ⟨j, rfl, hj, rfl, hown, hU⟩ := hrel
    have HO := Lib.hid hown
    have HU := Lib.hid hU
    have r1' : wr.cell? ⟨r, 1, none⟩ = some (.slice a l.length cap) := by rw [World.cell?_of_block (hU.block r hrl (by simp))]; exact r1
    clear hown hU
    by_cases hjl : j < l.length
    · obtain ⟨g, cap', hv, hgl, ck, cd⟩ := HK.out j hjl
      simp only [Value.slice.injEq, true_and] at hv
      obtain ⟨rfl, rfl⟩ := hv
      have HW := Lib.hid (HT.out j hjl)
      have ck' : wr.cell? ⟨g, j * 4, none⟩ = some (.int .i64 l[j].k) := by rw [World.cell?_of_block (HU.out.block g hgl (by simp))]; exact ck
      have cd' : wr.cell? ⟨g, j * 4 + 2, none⟩ = some (.bool l[j].d) := by rw [World.cell?_of_block (HU.out.block g hgl (by simp))]; exact cd
      have hlen : (wanted dirty (l.take j)).length + 1 ≤ 1025 := by have := HL.out j; simp at this; omega
      clear ck cd
      generalize l[j].k = y at ck' HW
      generalize l[j].d = dd at cd' HW
      by_cases hd : (!dirty || dd) = true
      · obtain ⟨i0, hi0, hz0, hz1, hz2⟩ := info_parts infoInt
        have HD := Lib.hid hd
        clear hd
        cases dirty <;> cases dd
        case true.false => exact absurd HD.out (by simp)
        all_goals
          go_wp2_with (at_builtin; refine wpList_append_own _ rfl _ _ 22 rfl w.heap.size 3 i0 (.int .i64 0) 1 8 Try.underlying22 hi0 hz0 hz1 hz2 rfl (by decide) _ _ _ rfl (HO.out.alloc _) ⟨wr.heap.size, 0, none⟩ 1 1 [.int .i64 y] rfl rfl ?c1 ?c2 ?c3 ?c4 ?c5 ?_)
          case c1 => exact new_one _ _ _
          case c2 => simp [Value.oneCell']
          case c3 => unfold maxLen; omega
          case c4 => omega
          case c5 => have := HU.out.size; simp; omega
          intro v' w4 hown' hgrow _
          have HU5 : Hid (Upd [] w w4) := Lib.hid ((HU.out.alloc (.cells #[.int .i64 y] 3)).grown hgrow (ownBlock_ge HO.out))
          have HO5 := Lib.hid hown'
          clear hown' hgrow ck' cd' r1'
          go_wp2_with fail
          go_roundg (l.length - (j + 1))
          case measure => omega
          case rel =>
            refine ⟨j + 1, by go_num, by omega, rfl, ?_, HU5.out⟩
            rw [HW.out, if_pos HD.out]
            simpa using HO5.out
      · have hdt : dirty = true ∧ dd = false := by cases dirty <;> cases dd <;> simp_all
        obtain ⟨rfl, rfl⟩ := hdt
        clear ck'
        go_wp2_with fail
        go_roundg (l.length - (j + 1))
        case measure => omega
        case rel =>
          refine ⟨j + 1, by go_num, by omega, rfl, ?_, HU.out⟩
          rw [HW.out, if_neg hd]
          simpa using HO.out
    · have HE : Hid (l.take j = l) := Lib.hid (List.take_of_length_le (by omega))
      go_wp2_with fail
      go_ret
      exact ⟨_, rfl, by have := HO.out; rw [HE.out] at this; exact this, HU.out⟩

set_option maxRecDepth 100000 in
theorem same_ok (w : World) {b1 b2 : Nat} {v1 v2 : Value} {l : List Int} (h1 : w.ownsRow b1 3 1 v1 l.length (ints l)) (h2 : w.ownsRow b2 3 1 v2 l.length (ints l)) (hl : l.length ≤ 1024) :
    Calls Try.prog 46 #[v1, v2] w fun e w' => e = .returned (.bool true) ∧ w'.Alike w := by
  have HK : Hid (∀ i, i < l.length → ∃ y, (∃ g cap, v1 = .slice (some ⟨g, 0, none⟩) l.length cap ∧ w.cell? ⟨g, i, none⟩ = some (.int .i64 y)) ∧ (∃ g cap, v2 = .slice (some ⟨g, 0, none⟩) l.length cap ∧ w.cell? ⟨g, i, none⟩ = some (.int .i64 y))) := Lib.hid fun i hi => by
    obtain ⟨g, cap, e1, e2⟩ := own_ints h1 hi
    obtain ⟨g', cap', e3, e4⟩ := own_ints h2 hi
    exact ⟨_, ⟨g, cap, e1, e2 i hi⟩, ⟨g', cap', e3, e4 i hi⟩⟩
  obtain ⟨a1, cap1, rfl⟩ := own_slice h1
  obtain ⟨a2, cap2, rfl⟩ := own_slice h2
  clear h1 h2
  generalize l.length = n at *
  go_enter Try.func46, Try.ntmps46
  go_wp2_with fail
  go_loopg [5] n (fun q i wr => ∃ j : Nat, i = .int .i64 j ∧ j ≤ n ∧ q = n - j ∧ wr.Alike w)
  case atStart => exact ⟨0, rfl, by omega, rfl, alike_refl _⟩
  case round =>
    obtain ⟨j, rfl, hj, rfl, hal⟩ := hrel
    have HA := Lib.hid hal
    clear hal
    by_cases hjn : j < n
    · obtain ⟨y, ⟨g1, cap1', e1, f1⟩, ⟨g2, cap2', e2, f2⟩⟩ := HK.out j hjn
      simp only [Value.slice.injEq, true_and] at e1 e2
      obtain ⟨rfl, rfl⟩ := e1
      obtain ⟨rfl, rfl⟩ := e2
      rw [← World.cell?_of_block (w := w) (w' := wr) (by rw [HA.out.1])] at f1 f2
      go_wp2_with fail
      go_region
      go_wp2_with fail
      go_roundg (n - (j + 1))
      case measure => omega
      case rel => exact ⟨j + 1, by go_num, by omega, rfl, ⟨HA.out.1, HA.out.2.1, HA.out.2.2⟩⟩
    · go_wp2_with fail
      go_ret
      exact ⟨rfl, HA.out⟩
end Go.Proofs.Ytgndkmdmpiiedaa.Ref
