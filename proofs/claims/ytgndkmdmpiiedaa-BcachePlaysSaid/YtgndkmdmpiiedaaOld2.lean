/- BcacheOldest, the walk: the law returns true and turns nothing that was there. -/
import Derived.Test.YtgndkmdmpiiedaaOld1
namespace Go.Proofs.Ytgndkmdmpiiedaa
open Go.RowKit

theorem own_lit (w : World) (x : Value) (e : TypeId) : (w.alloc (.cells #[x] e)).ownsRow w.heap.size e 1 (.slice (some ⟨w.heap.size, 0, none⟩) 1 1) 1 [x] :=
  ⟨rfl, .inr ⟨w.heap.size, 1, #[x], rfl, Nat.le_refl _, by rw [heap_alloc, if_pos rfl], Nat.le_refl _, by unfold maxLen; omega, rfl, rfl⟩⟩

abbrev ints (l : List Int) : List Value := l.map (Value.int .i64)

theorem infoInt : (Try.prog.info? 3).map (fun i => (i.zero, i.size, i.bytes)) = some (some (.int .i64 0), 1, 8) := by kernel_rfl

/-- What an owned row of ints holds. -/
theorem own_ints {w : World} {base : Nat} {v : Value} {l : List Int} (h : w.ownsRow base 3 1 v l.length (ints l)) {j : Nat} (hj : j < l.length) :
    ∃ g cap, v = .slice (some ⟨g, 0, none⟩) l.length cap ∧ ∀ i, i < l.length → w.cell? ⟨g, i, none⟩ = some (.int .i64 (l.getD i 0)) := by
  have hc := fun g => h.cells (g := g)
  obtain ⟨_, h2⟩ := h
  rcases h2 with ⟨_, h2⟩ | ⟨g, cap, cur, hv, hg, hh, r⟩
  · omega
  · refine ⟨g, cap, hv, fun i hi => ?_⟩
    have := hc g (by rw [hv]; rfl) i (.int .i64 (l.getD i 0)) (by simp [List.getElem?_map, List.getElem?_eq_getElem hi])
    rw [Go.WideShapes.add_plain] at this
    simpa using this

/-- One new cell: as an append's source. -/
theorem new_one (w : World) (x : Value) (t : TypeId) : ∀ j u, [x][j]? = some u → (w.alloc (.cells #[x] t)).cell? ((⟨w.heap.size, 0, none⟩ : Addr).add j) = some u := by
  intro j u h
  cases j with
  | zero => simp at h; subst h; simp [Addr.add]
  | succ j => simp at h

theorem kept_all (l : List (Nd Int Bool)) : IB.kept (fun _ => true) l = ints (l.map (·.it.k)) := by
  unfold IB.kept ints
  rw [List.filter_eq_self.2 (fun _ _ => rfl), List.map_map]; rfl

theorem own_slice {w : World} {base : Nat} {e : TypeId} {size : Nat} {v : Value} {n : Nat} {xs : List Value} (h : w.ownsRow base e size v n xs) : ∃ a cap, v = .slice a n cap := by
  obtain ⟨_, h2⟩ := h
  rcases h2 with ⟨rfl, rfl⟩ | ⟨g, cap, cur, hv, _⟩
  · exact ⟨_, _, rfl⟩
  · exact ⟨_, _, hv⟩

namespace bcacheOldest
def Inv (W : World) (c m M : Nat) (v : Value) (wr : World) (used : List Int) (l : List (Nd Int Bool)) : Prop :=
  Rep IB.cfg wr c m M l ∧ l.map (·.it.k) = used.reverse ∧ used.length ≤ M ∧ (∀ n ∈ l, n.it.p = 0) ∧ wr.ownsRow W.heap.size 3 1 v used.length (ints used) ∧ Upd [] W wr ∧ ∀ q ∈ foot c m l, W.heap.size ≤ q ∧ v.ownBlock ≠ some q

set_option maxRecDepth 100000 in
set_option maxHeartbeats 2000000 in
theorem walk (most : Int) (a : Option Addr) (len cap : Nat) (zs : List Int) (W : World) (h1 : -9223372036854775808 ≤ most) (h2 : most ≤ 9223372036854775807)
    (hcell : ∀ j, j < len → ∃ b off, a = some ⟨b, off, none⟩ ∧ W.cell? ⟨b, off + j, none⟩ = some (.int .i64 (zs.getD j 0))) (_hm : len ≤ 9223372036854775807) :
    Calls Try.prog 3 #[.int .i64 most, .slice a len cap] W fun e w' => e = .returned (.bool true) ∧ Upd [] W w' := by
  have HC := Lib.hid hcell
  clear hcell
  go_enter Try.func3, Try.ntmps3
  go_wp2_with fail
  refine (awake_ok W).mono ?_
  rintro e w1 ⟨rfl, hU⟩
  go_wp2_with fail
  refine (pick_ok most 12 w1 h1 h2 (by omega) (by omega)).mono ?_
  rintro e w1' ⟨⟨r, rfl, hr0, hr1⟩, rfl⟩
  obtain ⟨r, rfl⟩ := Int.eq_ofNat_of_zero_le hr0
  go_wp2_with fail
  obtain ⟨M, hM⟩ : ∃ M : Nat, 1 + (r : Int) = M := ⟨1 + r, by omega⟩
  rw [hM]
  have hM1 : 1 ≤ M := by omega
  have hM2 : M ≤ 12 := by omega
  clear hM hr0 hr1
  refine (IB.new_ok M w1 (by omega) (by omega)).mono ?_
  rintro e w2 ⟨c, m, rfl, hR, hU2, hc, hmm⟩
  have hV := hU.fresh hU2 (by simp)
  have hW1 := hU.size
  have HI : Hid (Inv W c m M (.slice none 0 0) w2 [] []) := Lib.hid ⟨hR, rfl, by simp, by simp, World.ownsRow_nil _ _ _ _, hV, by intro q hq; simp at hq; exact ⟨by omega, by simp [Value.ownBlock]⟩⟩
  clear hR hU2 hV hU hc hmm
  go_wp2_with fail
  go_loopg [8, 9] 200 (fun n v i wr => ∃ (idx : Nat) (used : List Int) (l : List (Nd Int Bool)), i = .int .i64 idx ∧ idx ≤ 200 ∧ n = 200 - idx ∧ Inv W c m M v wr used l)
  case atStart => exact ⟨0, [], [], rfl, by omega, rfl, HI.out⟩
  case round =>
    obtain ⟨idx, used, l, rfl, hi, rfl, hI⟩ := hrel
    have HI := Lib.hid hI
    clear hI
    obtain ⟨ua, ucap, rfl⟩ := own_slice HI.out.2.2.2.2.1
    have hul : used.length ≤ M := HI.out.2.2.1
    by_cases hlt : idx < len ∧ idx < 200
    · obtain ⟨hlt, hlt2⟩ := hlt
      obtain ⟨b, off, rfl, hcj⟩ := HC.out idx hlt
      have hcw : wr.cell? ⟨b, off + idx, none⟩ = some (.int .i64 (zs.getD idx 0)) := by
        rw [World.cell?_of_block (HI.out.2.2.2.2.2.1.block b (World.block_lt_of_cell? _ _ hcj) (by simp))]; exact hcj
      clear hcj
      generalize zs.getD idx 0 = z at hcw
      go_wp2_with fail
      generalize z.tmod 30 = k
      clear hcw
      refine (IB.put_step wr HI.out.1 used HI.out.2.1 HI.out.2.2.1 hM1 HI.out.2.2.2.1 k true false).mono ?_
      rintro e w3 ⟨v3, l', rfl, hR, hk, hp, hU3, hf⟩
      have HS := Lib.hid (And.intro hR (And.intro hk (And.intro hp (And.intro hU3 hf))))
      clear hR hk hp hU3 hf
      have HO : Hid (w3.ownsRow W.heap.size 3 1 (.slice ua used.length ucap) used.length (ints used)) := Lib.hid (own_upd HI.out.2.2.2.2.1 HS.out.2.2.2.1 (fun q hq => (HI.out.2.2.2.2.2.2 q hq).2))
      go_wp2_with fail
      go_loopg [11, 12] used.length (fun n v2 j wr2 => ∃ jj : Nat, j = .int .i64 jj ∧ jj ≤ used.length ∧ n = used.length - jj ∧ wr2.ownsRow w3.heap.size 3 1 v2 (nowOf M k (used.take jj)).length (ints (nowOf M k (used.take jj))) ∧ Upd [] w3 wr2)
      case atStart => exact ⟨0, rfl, by omega, rfl, by rw [List.take_zero, now_nil k hM1]; exact own_lit w3 (.int .i64 k) 3, (Upd.refl _ _).alloc _⟩
      case round =>
        obtain ⟨jj, rfl, hjj, rfl, hown, hU4⟩ := hrel
        have HO2 := Lib.hid hown
        have HU4 := Lib.hid hU4
        clear hown hU4
        have hkl := now_len M k (used.take jj)
        have hk0 : 0 < (nowOf M k (used.take jj)).length := by
          have := now_app M k [] (used.take jj)
          rw [List.nil_append, now_nil k hM1] at this; rw [this]; simp
        have HT := Lib.hid (@now_step M k used jj)
        have HE := Lib.hid (@now_full M k used jj)
        generalize hnk : nowOf M k (used.take jj) = nk at *
        have HK := Lib.hid hnk
        clear hnk
        obtain ⟨g2, cap2, rfl, -⟩ := own_ints HO2.out hk0
        by_cases hin : jj < used.length ∧ nk.length < M
        · obtain ⟨hj, hf⟩ := hin
          obtain ⟨g, cap', hv, hcu⟩ := own_ints (own_upd HO.out HU4.out (by simp)) hj
          simp only [Value.slice.injEq, true_and] at hv
          obtain ⟨rfl, rfl⟩ := hv
          have hcj := hcu jj hj
          clear hcu
          have HN := Lib.hid (HT.out hj)
          generalize used.getD jj 0 = y at hcj HN
          by_cases hy : (y != k) = true
          · obtain ⟨i0, hi0, hz0, hz1, hz2⟩ := info_parts infoInt
            go_wp2_with (at_builtin; refine wpList_append_own _ rfl _ _ 22 rfl w3.heap.size 3 i0 (.int .i64 0) 1 8 Try.underlying22 hi0 hz0 hz1 hz2 rfl (by decide) _ _ _ rfl (HO2.out.alloc _) ⟨wr.heap.size, 0, none⟩ 1 1 [.int .i64 y] rfl rfl ?c1 ?c2 ?c3 ?c4 ?c5 ?_)
            case c1 => exact new_one _ _ _
            case c2 => simp [Value.oneCell']
            case c3 => unfold maxLen; omega
            case c4 => omega
            case c5 => have := HU4.out.size; simp; omega
            intro v' w4 hown' hgrow _
            have HU5 : Hid (Upd [] w3 w4) := Lib.hid ((HU4.out.alloc (.cells #[.int .i64 y] 3)).grown hgrow (ownBlock_ge HO2.out))
            have HO5 := Lib.hid hown'
            clear hown' hgrow hcj
            go_wp2_with fail
            go_roundg (used.length - (jj + 1))
            case measure => omega
            case rel =>
              refine ⟨jj + 1, by go_num, by omega, rfl, ?_, HU5.out⟩
              rw [HN.out, if_pos ⟨hy, hf⟩]
              simpa using HO5.out
          · have hy' : (y != k) = false := by simpa using hy
            go_wp2_with fail
            go_roundg (used.length - (jj + 1))
            case measure => omega
            case rel =>
              refine ⟨jj + 1, by go_num, by omega, rfl, ?_, HU4.out⟩
              rw [HN.out, if_neg (fun q => hy q.1)]
              exact HO2.out
        · have HF : Hid (nk = nowOf M k used) := Lib.hid (by
            by_cases hf : nk.length < M
            · have : ¬ jj < used.length := fun q => hin ⟨q, hf⟩
              rw [← HK.out, List.take_of_length_le (by omega)]
            · exact HE.out hf)
          have HR : Hid (Inv W c m M (.slice (some ⟨g2, 0, none⟩) nk.length cap2) wr nk l') := Lib.hid (by
            obtain ⟨q1, q2, q3, q4, q5⟩ := HS.out
            have hsz : W.heap.size ≤ w3.heap.size := by have h1 := HI.out.2.2.2.2.2.1.size; have h2 := q4.size; omega
            have hfo : ∀ q ∈ foot c m l', W.heap.size ≤ q := fun q hq => by
              rcases q5 q hq with h | h
              · exact (HI.out.2.2.2.2.2.2 q h).1
              · have h1 := HI.out.2.2.2.2.2.1.size; omega
            refine ⟨q1.keep HU4.out (by simp), by rw [HF.out]; exact q2, hkl, q3, own_mono HO2.out hsz, ?_, fun q hq => ⟨hfo q hq, fun e => ?_⟩⟩
            · exact (HI.out.2.2.2.2.2.1.next q4 (fun q hq hlt => by have := (HI.out.2.2.2.2.2.2 q hq).1; omega)).trans (HU4.out.mono (by simp)) |>.mono (by simp)
            · have h1 := (HO2.out.lt _ e).1; have h2 := q1.lt hq; omega)
          clear HF HE HK HT
          by_cases hj : jj < used.length
          · have hf : ¬ nk.length < M := fun q => hin ⟨hj, q⟩
            go_wp2_with fail
            go_roundg (200 - (idx + 1))
            case measure => omega
            case rel => exact ⟨idx + 1, nk, l', by go_num, by omega, rfl, HR.out⟩
          · go_wp2_with fail
            go_roundg (200 - (idx + 1))
            case measure => omega
            case rel => exact ⟨idx + 1, nk, l', by go_num, by omega, rfl, HR.out⟩
    · have hor : (idx < len ∧ ¬ idx < 200) ∨ ¬ idx < len := by omega
      clear hlt
      have hll : l.length = used.length := by have := congrArg List.length HI.out.2.1; simpa using this
      rcases hor with ⟨q1, q2⟩ | q1
      all_goals
        go_wp2_with fail
        refine (IB.keys_ok wr HI.out.1 (by omega)).mono ?_
        rintro e w9 ⟨v9, rfl, ho9, hU9⟩
        have hkk : IB.kept (fun _ => true) l = ints used.reverse := by
          rw [← HI.out.2.1]; exact kept_all l
        rw [hkk, show (ints used.reverse).length = used.length by simp] at ho9
        obtain ⟨va, vcap, rfl⟩ := own_slice ho9
        have HO1 := Lib.hid ho9
        have HO2 := Lib.hid (own_upd HI.out.2.2.2.2.1 hU9 (by simp))
        have HU9 : Hid (Upd [] W w9) := Lib.hid (HI.out.2.2.2.2.2.1.trans hU9)
        clear ho9 hU9 hkk
        go_wp2_with fail
        go_loopg [14] used.length (fun n i wr2 => ∃ q : Nat, i = .int .i64 q ∧ q ≤ used.length ∧ n = used.length - q ∧ wr2.Alike w9)
        case atStart => exact ⟨0, rfl, by omega, rfl, alike_refl _⟩
        case round =>
          obtain ⟨q, rfl, hq, rfl, hal⟩ := hrel
          have HA := Lib.hid hal
          clear hal
          by_cases hqn : q < used.length
          · obtain ⟨g1, cap1, hv1, hc1⟩ := own_ints (l := used.reverse) (by simpa using HO1.out) (j := q) (by simpa using hqn)
            obtain ⟨g2, cap2, hv2, hc2⟩ := own_ints HO2.out hqn
            simp only [Value.slice.injEq] at hv1 hv2
            obtain ⟨rfl, -, rfl⟩ := hv1
            obtain ⟨rfl, -, rfl⟩ := hv2
            have f1 := hc1 q (by simpa using hqn)
            have f2 := hc2 (used.length - 1 - q) (by omega)
            have hyy : used.reverse.getD q 0 = used.getD (used.length - 1 - q) 0 := by
              simp [List.getD_eq_getElem?_getD, List.getElem?_reverse hqn]
            rw [hyy] at f1
            generalize used.getD (used.length - 1 - q) 0 = y at f1 f2
            rw [← World.cell?_of_block (w := w9) (w' := wr) (by rw [HA.out.1])] at f1 f2
            clear hc1 hc2 hyy
            go_wp2_with fail
            go_region
            go_wp2_with fail
            go_roundg (used.length - (q + 1))
            case measure => omega
            case rel => exact ⟨q + 1, by go_num, by omega, rfl, ⟨HA.out.1, HA.out.2.1, HA.out.2.2⟩⟩
          · go_wp2_with fail
            go_ret
            exact ⟨rfl, HU9.out.alike HA.out⟩
end bcacheOldest
end Go.Proofs.Ytgndkmdmpiiedaa
