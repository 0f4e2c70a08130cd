/- strconv.Itoa: the library's contract at this program (laid in plain words by the kit's tool). The document: Same, SameEvent. The document: what is wrong with a field; with a record. Plain laws of records: order, what stays a record. -/
import Derived.Shelf.Strconv.Itoa3
import Derived.Lib.ItoaLen
import Derived.Test.YtnokekoojmljaaaDoorGSh
namespace Go.Proofs.YtnokekoojmljaaaDoor
open Go.RowKit Go.Shelf
def laysItoa_ren : Go.Shelf.Ren := ⟨fun | 171 => 85 | 243 => 103 | 246 => 112 | 283 => 114 | 284 => 115 | 285 => 116 | 286 => 117 | 129 => 119 | 317 => 118 | 318 => 120 | 319 => 121 | 320 => 122 | 337 => 123 | 338 => 124 | n => n, fun | 3 => 3 | 9 => 9 | 2 => 2 | 4 => 4 | 171 => 153 | 0 => 0 | 53 => 154 | 37 => 157 | 5 => 5 | 173 => 158 | 212 => 161 | 51 => 162 | 20 => 20 | 213 => 163 | 46 => 149 | 232 => 166 | 233 => 167 | n => n, fun | 17 => 0 | 18 => 1 | 19 => 2 | n => n⟩
theorem laysItoa : Go.Proofs.LaysM.n171 Tryd.prog laysItoa_ren := {
  mixed := by kernel_rfl
  f129 := Tryd.func119.trans (congrArg some (by kernel_rfl))
  f171 := Tryd.func85.trans (congrArg some (by kernel_rfl))
  f243 := Tryd.func103.trans (congrArg some (by kernel_rfl))
  f246 := Tryd.func112.trans (congrArg some (by kernel_rfl))
  f283 := Tryd.func114.trans (congrArg some (by kernel_rfl))
  f284 := Tryd.func115.trans (congrArg some (by kernel_rfl))
  f285 := Tryd.func116.trans (congrArg some (by kernel_rfl))
  f286 := Tryd.func117.trans (congrArg some (by kernel_rfl))
  f317 := Tryd.func118.trans (congrArg some (by kernel_rfl))
  f318 := Tryd.func120.trans (congrArg some (by kernel_rfl))
  f319 := Tryd.func121.trans (congrArg some (by kernel_rfl))
  f320 := Tryd.func122.trans (congrArg some (by kernel_rfl))
  f337 := Tryd.func123.trans (congrArg some (by kernel_rfl))
  f338 := Tryd.func124.trans (congrArg some (by kernel_rfl))
  t0 := Tryd.underlying0
  a0 := Tryd.isAgg0
  z0 := Tryd.sizeOf0
  v0 := Tryd.zeroValue0
  t2 := Tryd.underlying2
  a2 := Tryd.isAgg2
  z2 := Tryd.sizeOf2
  v2 := Tryd.zeroValue2
  t3 := Tryd.underlying3
  a3 := Tryd.isAgg3
  z3 := Tryd.sizeOf3
  v3 := Tryd.zeroValue3
  t4 := Tryd.underlying4
  a4 := Tryd.isAgg4
  z4 := Tryd.sizeOf4
  v4 := Tryd.zeroValue4
  t5 := Tryd.underlying5
  a5 := Tryd.isAgg5
  z5 := Tryd.sizeOf5
  v5 := Tryd.zeroValue5
  t9 := Tryd.underlying9
  a9 := Tryd.isAgg9
  z9 := Tryd.sizeOf9
  v9 := Tryd.zeroValue9
  t20 := Tryd.underlying20
  a20 := Tryd.isAgg20
  z20 := Tryd.sizeOf20
  v20 := Tryd.zeroValue20
  t37 := Tryd.underlying157
  a37 := Tryd.isAgg157
  z37 := Tryd.sizeOf157
  v37 := Tryd.zeroValue157
  t46 := Tryd.underlying149
  a46 := Tryd.isAgg149
  z46 := Tryd.sizeOf149
  v46 := Tryd.zeroValue149
  t51 := Tryd.underlying162
  a51 := Tryd.isAgg162
  z51 := Tryd.sizeOf162
  v51 := Tryd.zeroValue162
  t53 := Tryd.underlying154
  a53 := Tryd.isAgg154
  z53 := Tryd.sizeOf154
  v53 := Tryd.zeroValue154
  t171 := Tryd.underlying153
  a171 := Tryd.isAgg153
  z171 := Tryd.sizeOf153
  v171 := Tryd.zeroValue153
  t173 := Tryd.underlying158
  a173 := Tryd.isAgg158
  z173 := Tryd.sizeOf158
  v173 := Tryd.zeroValue158
  t212 := Tryd.underlying161
  a212 := Tryd.isAgg161
  z212 := Tryd.sizeOf161
  v212 := Tryd.zeroValue161
  t213 := Tryd.underlying163
  a213 := Tryd.isAgg163
  z213 := Tryd.sizeOf163
  t232 := Tryd.underlying166
  a232 := Tryd.isAgg166
  z232 := Tryd.sizeOf166
  v232 := Tryd.zeroValue166
  t233 := Tryd.underlying167
  a233 := Tryd.isAgg167
  z233 := Tryd.sizeOf167
  v233 := Tryd.zeroValue167
  g17 := by kernel_rfl
  g18 := by kernel_rfl
  g19 := by kernel_rfl
  i0 := by kernel_rfl
  i2 := by kernel_rfl
  i3 := by kernel_rfl
  i4 := by kernel_rfl
  i5 := by kernel_rfl
  i9 := by kernel_rfl
  i20 := by kernel_rfl
  i37 := by kernel_rfl
  i46 := by kernel_rfl
  i51 := by kernel_rfl
  i53 := by kernel_rfl
  i171 := by kernel_rfl
  i173 := by kernel_rfl
  i212 := by kernel_rfl
  i232 := by kernel_rfl
  i233 := by kernel_rfl
  m17 := by kernel_rfl
  m18 := by kernel_rfl
  m19 := by kernel_rfl }

theorem Upd.grow {w w' : World} (h : Upd [] w w') (k : Nat) (os : Array Obj) : Upd [] w (Sort.grow (w'.drewN k) os) :=
  h.trans ⟨rfl, rfl, by rw [Sort.size_grow]; exact Nat.le_add_right _ _, fun j hj _ => Sort.heap_grow_old (w'.drewN k) os hj⟩

theorem itoa_ok (n : Int) (h0 : -9223372036854775808 ≤ n) (h1 : n ≤ 9223372036854775807) (w : World) (hT : Tab w) : Calls Tryd.prog 85 #[.int .i64 n] w fun e w' => e = .returned (.string (itoaB n)) ∧ Upd [] w w' := by
  have := Any.strconv_Itoa laysItoa n h0 h1 w hT
  change Calls Tryd.prog 85 _ _ _ at this
  refine this.mono ?_
  rintro e w' ⟨rfl, k, os, rfl⟩
  exact ⟨rfl, (Upd.refl [] w).grow k os⟩
end Go.Proofs.YtnokekoojmljaaaDoor

namespace Go.Proofs.YtnokekoojmljaaaDoor
open Go.RowKit

theorem equalIn_field (d : Nat) (x y : Fd) (w : World) : (Op.equalIn (d + 1 + 1) 34 (aggF x) (aggF y)).run Tryd.prog w = .ok (decide (x.nm = y.nm ∧ x.tx = y.tx ∧ x.n = y.n ∧ x.s = y.s)) w := by
  have u3 := Tryd.underlying3
  have u4 := Tryd.underlying4
  have u9 := Tryd.underlying9
  have a3 := Tryd.isAgg3
  have z3 := Tryd.sizeOf3
  have a4 := Tryd.isAgg4
  have z4 := Tryd.sizeOf4
  have a9 := Tryd.isAgg9
  have z9 := Tryd.sizeOf9
  have hS : Tryd.prog.underlying 34 = some (.struct (Tryd.prog.fieldsOf 34)) := by kernel_rfl
  have hp : Tryd.prog.stoodInHeld 34 = false := by kernel_rfl
  rw [run_equalIn_struct w (d + 1) 34 _ _ hS hp]
  simp only [Program.fieldsOf, Tryd.underlying34]
  go_simp
  have e1 := eqB x.nm y.nm
  have e2 := eqB x.s y.s
  by_cases h1 : x.nm = y.nm <;> by_cases h2 : x.tx = y.tx <;> by_cases h3 : x.n = y.n <;> by_cases h4 : x.s = y.s <;> simp_all

theorem neq_field (x y : Fd) (w : World) : (binOp .neq 34 (aggF x) (aggF y)).run Tryd.prog w = .ok (.bool (!decide (x.nm = y.nm ∧ x.tx = y.tx ∧ x.n = y.n ∧ x.s = y.s))) w := by
  have h : (Op.equal 34 (aggF x) (aggF y)).run Tryd.prog w = .ok (decide (x.nm = y.nm ∧ x.tx = y.tx ∧ x.n = y.n ∧ x.s = y.s)) w := equalIn_field 9998 x y w
  simp only [binOp, Sem.run_bind, h, Result.andThen_ok, Sem.run_pure]

theorem Fd.eq_iff {x y : Fd} : (x.nm = y.nm ∧ x.tx = y.tx ∧ x.n = y.n ∧ x.s = y.s) ↔ x = y := by
  constructor
  · intro h
    cases x; cases y
    simp_all
  · rintro rfl; exact ⟨rfl, rfl, rfl, rfl⟩

set_option maxRecDepth 100000 in
set_option maxHeartbeats 1600000 in
theorem same_ok (va vb : Value) (a b : List Fd) (w : World) (ha : RecAt w va a) (hb : RecAt w vb b) :
    Calls Tryd.prog 15 #[va, vb] w fun e w' => ∃ r : Bool, e = .returned (.bool r) ∧ (r = true ↔ a = b) ∧ Upd [] w w' := by
  obtain ⟨aa, acap, rfl, a1, a2, a3⟩ := ha
  obtain ⟨ba, bcap, rfl, b1, b2, b3⟩ := hb
  have HA := Lib.hid a3
  have HB := Lib.hid b3
  clear a3 b3
  unfold maxLen at a2 b2
  by_cases hl : a.length = b.length
  · have hbl : (b.length : Int) = (a.length : Int) := by omega
    have HL := Lib.hid hl
    rw [← hl]
    have hnn : ((a.length : Int) != (a.length : Int)) = false := by simp
    clear hl hbl
    go_enter Tryd.func15, Tryd.ntmps15
    go_wp2_with fail
    go_loopg [5] a.length (fun n i wr => ∃ j : Nat, i = .int .i64 j ∧ j ≤ a.length ∧ n = a.length - j ∧ Hid (∀ i (h1 : i < j) (h2 : i < a.length) (h3 : i < b.length), a[i] = b[i]) ∧ Hid (wr.Alike w))
    case atStart => exact ⟨0, rfl, by omega, rfl, Lib.hid (fun i hi => by omega), Lib.hid (alike_refl _)⟩
    case round =>
      obtain ⟨j, rfl, hj, rfl, hE, hW⟩ := hrel
      by_cases hjl : j < a.length
      · have hlt : (j : Int) < (a.length : Int) := by omega
        have hjb : j < b.length := by rw [← HL.out]; exact hjl
        obtain ⟨ab, ao, rfl, ax⟩ := HA.out j hjl
        obtain ⟨bb, bo, rfl, bx⟩ := HB.out j hjb
        obtain ⟨c0, c1, c2, c3⟩ := ax.upd (F := []) ((Upd.refl [] w).alike hW.out) (by simp)
        obtain ⟨d0, d1, d2, d3⟩ := bx.upd (F := []) ((Upd.refl [] w).alike hW.out) (by simp)
        clear ax bx
        by_cases hxy : a[j] = b[j]
        · have hE2 : Hid (∀ i (h1 : i < j + 1) (h2 : i < a.length) (h3 : i < b.length), a[i] = b[i]) := Lib.hid (fun i h1 h2 h3 => by
            rcases Nat.lt_or_ge i j with h | h
            · exact hE.out i h h2 h3
            · have : i = j := by omega
              subst this; exact hxy)
          have hop : ∀ W, (binOp .neq 34 (aggF a[j]) (aggF b[j])).run Tryd.prog W = .ok (.bool false) W := fun W => by
            rw [neq_field, decide_eq_true (Fd.eq_iff.2 hxy)]; rfl
          clear hxy
          generalize a[j] = x at *
          generalize b[j] = y at *
          go_upto_region 6 with (fail)
          go_quiet (fail)
          go_wp2_with fail
          go_roundg (a.length - (j + 1))
          case measure => omega
          case rel => exact ⟨j + 1, by go_num, by omega, rfl, hE2, Lib.hid hW.out⟩
        · have hR : Hid (¬ a = b) := Lib.hid (fun h => hxy (by subst h; rfl))
          have hop : ∀ W, (binOp .neq 34 (aggF a[j]) (aggF b[j])).run Tryd.prog W = .ok (.bool true) W := fun W => by
            rw [neq_field, decide_eq_false (fun h => hxy (Fd.eq_iff.1 h))]; rfl
          clear hxy
          generalize a[j] = x at *
          generalize b[j] = y at *
          go_upto_region 6 with (fail)
          go_quiet (fail)
          go_wp2_with fail
          go_ret
          exact ⟨false, rfl, by simp [hR.out], (Upd.refl [] w).alike hW.out⟩
      · have hlt : ¬ (j : Int) < (a.length : Int) := by omega
        have hR : Hid (a = b) := Lib.hid (List.ext_getElem HL.out (fun i h1 h2 => hE.out i (by omega) h1 h2))
        go_wp2_with fail
        go_ret
        first | exact ⟨true, rfl, by simp [hR.out], (Upd.refl [] w).alike hW.out⟩ | exact Or.inr ⟨rfl, hR.out, (Upd.refl [] w).alike hW.out⟩
  · have hR : Hid (¬ a = b) := Lib.hid (fun h => hl (by rw [h]))
    have hnn : ((a.length : Int) != (b.length : Int)) = true := bne_iff_ne.2 (by omega)
    have hnn2 : ¬ (a.length : Int) = (b.length : Int) := by omega
    go_enter Tryd.func15, Tryd.ntmps15
    go_wp2_with fail
    go_ret
    exact ⟨false, rfl, by simp [hR.out], Upd.refl _ _⟩
end Go.Proofs.YtnokekoojmljaaaDoor

namespace Go.Proofs.YtnokekoojmljaaaDoor
open Go.RowKit

theorem emptyB (s : ByteArray) : (s.toList == ([] : List UInt8)) = decide (s.size = 0) := by
  rw [ByteArray.toList_eq]
  obtain ⟨⟨l⟩⟩ := s
  cases l with
  | nil => rfl
  | cons c l =>
    have : decide (ByteArray.size ⟨⟨c :: l⟩⟩ = 0) = false := decide_eq_false (show ¬ (l.length + 1 = 0) by omega)
    rw [this]
    rfl

def fieldE (x : Fd) : Int := if nameOk x.nm = false then 121 else if x.tx = true then (if x.n ≠ 0 ∨ 200 < x.s.size then 122 else 0) else if x.s.size ≠ 0 then 122 else 0

def chkF : Option Fd → List Fd → Int
  | _, [] => 0
  | p, x :: l => if fieldE x ≠ 0 then fieldE x else if (match p with | none => false | some y => leB x.nm y.nm) = true then 123 else chkF (some x) l
def checkF (l : List Fd) : Int := if 16 < l.length then 120 else chkF none l
def prevF (l : List Fd) (j : Nat) : Option Fd := if j = 0 then none else l[j - 1]?

theorem chkF_step (l : List Fd) (j : Nat) (hj : j < l.length) : chkF (prevF l j) (l.drop j) = if fieldE l[j] ≠ 0 then fieldE l[j] else if 0 < j ∧ leB l[j].nm (l.getD (j - 1) noF).nm = true then 123 else chkF (prevF l (j + 1)) (l.drop (j + 1)) := by
  have e : prevF l (j + 1) = some l[j] := by unfold prevF; rw [if_neg (by omega)]; simp
  rw [List.drop_eq_getElem_cons hj, e]
  simp only [chkF]
  unfold prevF
  by_cases h0 : j = 0
  · subst h0
    simp
  · have : l[j - 1]? = some l[j - 1] := List.getElem?_eq_getElem (by omega)
    have hg : l.getD (j - 1) noF = l[j - 1] := by rw [List.getD_eq_getElem?_getD, this]; rfl
    have hp : 0 < j := by omega
    simp only [h0, if_false, this, hg, hp, true_and]

theorem chkF_end (l : List Fd) (j : Nat) (hj : l.length ≤ j) : chkF (prevF l j) (l.drop j) = 0 := by
  rw [List.drop_eq_nil_of_le hj]
  unfold chkF
  rfl

/-- No text of a record is longer than any text may be. -/
def Fits (x : Fd) : Prop := x.nm.size ≤ 9223372036854775807 ∧ x.s.size ≤ 9223372036854775807

set_option maxRecDepth 100000 in
set_option maxHeartbeats 1000000 in
theorem refField_ok (x : Fd) (w : World) (h1 : x.nm.size ≤ 9223372036854775807) (h2 : x.s.size ≤ 9223372036854775807) : Calls Tryd.prog 43 #[aggF x] w fun e w' => e = .returned (.int .i64 (fieldE x)) ∧ Upd [] w w' := by
  have HC := Lib.hid (refName_ok x.nm (w.alloc (boxF x)) h1)
  have he := emptyB x.s
  generalize hE : fieldE x = E at *
  obtain ⟨nm, tx, n, s⟩ := x
  have HE := Lib.hid hE
  clear hE
  go_enter Tryd.func43, Tryd.ntmps43
  go_wp2_with fail
  refine HC.out.mono ?_
  rintro e w' ⟨rfl, hw⟩
  have HF := HE.out
  unfold fieldE at HF
  have HF := Lib.hid HF
  have HU : Hid (Upd [] w w') := Lib.hid (by rw [← hw]; exact (Upd.refl [] w).alloc _)
  have b0 : w'.heap[w.heap.size]? = some (boxF ⟨nm, tx, n, s⟩) := by rw [← hw, heap_alloc, if_pos rfl]
  have c0 : w'.cell? ⟨w.heap.size, 0, none⟩ = some (.string nm) := cell_blk b0 0
  have c1 : w'.cell? ⟨w.heap.size, 1, none⟩ = some (.bool tx) := cell_blk b0 1
  have c2 : w'.cell? ⟨w.heap.size, 2, none⟩ = some (.int .i64 n) := cell_blk b0 2
  have c3 : w'.cell? ⟨w.heap.size, 3, none⟩ = some (.string s) := cell_blk b0 3
  clear HE HC hw b0
  cases hnm : nameOk nm with
  | false =>
    rw [hnm] at HF
    have HN := Lib.hid hnm
    clear hnm
    go_wp2_with fail
    go_ret
    exact ⟨by rw [← HF.out]; rfl, HU.out⟩
  | true =>
    rw [hnm] at HF
    clear hnm
    cases tx with
    | true =>
      by_cases hn : n = 0
      · subst hn
        by_cases hz : 200 < s.size
        · have HZ := Lib.hid hz
          go_wp2_with fail
          go_ret
          exact ⟨by rw [← HF.out]; simp [HZ.out], HU.out⟩
        · have HZ := Lib.hid hz
          go_wp2_with fail
          go_ret
          exact ⟨by rw [← HF.out]; simp [HZ.out], HU.out⟩
      · have HZ := Lib.hid hn
        go_wp2_with fail
        go_ret
        exact ⟨by rw [← HF.out]; simp [HZ.out], HU.out⟩
    | false =>
      by_cases hz : s.size = 0
      · have HZ := Lib.hid hz
        rw [decide_eq_true hz] at he
        clear hz
        go_wp2_with fail
        go_ret
        exact ⟨by rw [← HF.out]; simp [HZ.out], HU.out⟩
      · have HZ := Lib.hid hz
        rw [decide_eq_false hz] at he
        go_wp2_with fail
        go_ret
        exact ⟨by rw [← HF.out]; simp [HZ.out], HU.out⟩

set_option maxRecDepth 100000 in
set_option maxHeartbeats 2000000 in
theorem refCheck_ok (v : Value) (l : List Fd) (w : World) (h : RecAt w v l) (hf : ∀ x ∈ l, Fits x) : Calls Tryd.prog 16 #[v] w fun e w' => e = .returned (.int .i64 (checkF l)) ∧ Upd [] w w' := by
  have HR := Lib.hid (fun (W : World) (u : Upd [] w W) => h.keep u)
  have HF := Lib.hid hf
  obtain ⟨a, cap, rfl, h1, h2, h3⟩ := h
  have H3 := Lib.hid h3
  clear h3 hf
  unfold maxLen at h2
  by_cases h16 : 16 < l.length
  · have hr : Hid (checkF l = 120) := Lib.hid (by unfold checkF; rw [if_pos h16])
    go_enter Tryd.func16, Tryd.ntmps16
    go_wp2_with fail
    go_ret
    exact ⟨by rw [hr.out]; rfl, Upd.refl _ _⟩
  have hr : checkF l = chkF none l := by unfold checkF; rw [if_neg h16]
  generalize checkF l = R at *
  have HRR := Lib.hid hr
  clear hr
  go_enter Tryd.func16, Tryd.ntmps16
  go_wp2_with fail
  go_loopg [3, 4] l.length (fun n i _ wr => ∃ j : Nat, i = .int .i64 j ∧ j ≤ l.length ∧ n = l.length - j ∧ Hid (R = chkF (prevF l j) (l.drop j)) ∧ Hid (Upd [] w wr))
  case atStart => exact ⟨0, rfl, by omega, rfl, Lib.hid (by simpa [prevF] using HRR.out), Lib.hid (Upd.refl _ _)⟩
  case round =>
    obtain ⟨j, rfl, hj, rfl, hA, HU⟩ := hrel
    by_cases hjl : j < l.length
    · have hlt : (j : Int) < (l.length : Int) := by omega
      have hst := chkF_step l j hjl
      rw [← hA.out] at hst
      obtain ⟨b, off, rfl, hfa⟩ := H3.out j hjl
      have hfw := hfa.upd HU.out (by simp)
      have hblt := hfw.lt
      obtain ⟨c0, c1, c2, c3⟩ := hfw
      have hfit := HF.out l[j] (List.getElem_mem hjl)
      have HC := Lib.hid (refField_ok l[j] wr hfit.1 hfit.2)
      clear hfit
      have hprev : ∃ y : Fd, l.getD (j - 1) noF = y ∧ (0 < j → FAt w b (off + (j - 1) * 4) y) := ⟨_, rfl, fun h0 => by
        obtain ⟨b', off', q, hq⟩ := H3.out (j - 1) (by omega)
        cases q
        rw [List.getD_eq_getElem?_getD, List.getElem?_eq_getElem (by omega : j - 1 < l.length)]
        exact hq⟩
      obtain ⟨y, hy, hyf⟩ := hprev
      rw [hy] at hst
      have HYF := Lib.hid hyf
      have HXF := Lib.hid hfa
      clear hy hyf hfa
      generalize l[j] = x at *
      have HST := Lib.hid hst
      clear hst
      go_wp2_with fail
      refine HC.out.mono ?_
      rintro e w' ⟨rfl, hu⟩
      have x0 : w'.cell? ⟨b, off + j * 4, none⟩ = some (.string x.nm) := ((HXF.out.upd HU.out (by simp)).upd hu (by simp)).1
      have HU2 : Hid (Upd [] w w') := Lib.hid (HU.out.trans hu)
      clear HC hu c0 c1 c2 c3
      generalize fieldE x = E at *
      by_cases hE : E = 0
      · subst hE
        by_cases h0 : j = 0
        · have hR2 : Hid (R = chkF (prevF l (j + 1)) (l.drop (j + 1))) := Lib.hid (by
            have := HST.out
            rw [if_neg (by simp), if_neg (by omega)] at this
            exact this)
          have hd : decide (0 < j) = false := decide_eq_false (by omega)
          clear h0
          go_upto_region 9 with (fail)
          go_quiet (fail)
          go_wp2_with fail
          go_roundg (l.length - (j + 1))
          case measure => omega
          case rel => exact ⟨j + 1, by go_num, by omega, rfl, hR2, Lib.hid (HU2.out.alike ⟨rfl, rfl, rfl⟩)⟩
        · have c0 := ((HYF.out (by omega)).upd HU2.out (by simp)).1
          have hd : decide (0 < j) = true := decide_eq_true (by omega)
          have hk : (j : Int) - 1 < (l.length : Int) := by omega
          have hk0 : 0 ≤ (j : Int) - 1 := by omega
          have hwr : IntKind.i64.wrap ((j : Int) - 1) = (j : Int) - 1 := IntWalk.i64_in _ (by omega)
          have c1 : w'.cell? ⟨b, off + ((j : Int) - 1).toNat * 4, none⟩ = some (.string y.nm) := by rw [show ((j : Int) - 1).toNat = j - 1 by omega]; exact c0
          cases hle : leB x.nm y.nm with
          | true =>
            have hR2 : Hid (R = 123) := Lib.hid (by
              have := HST.out
              rw [if_neg (by simp), if_pos ⟨by omega, hle⟩] at this
              exact this)
            have hop : ∀ W, (binOp .leq 9 (.string x.nm) (.string y.nm)).run Tryd.prog W = .ok (.bool true) W := fun W => by rw [leB_run, hle]
            clear hle
            go_upto_region 9 with (fail)
            go_quiet (fail)
            go_wp2_with fail
            go_ret
            exact ⟨by rw [hR2.out]; rfl, HU2.out.alike ⟨rfl, rfl, rfl⟩⟩
          | false =>
            have hR2 : Hid (R = chkF (prevF l (j + 1)) (l.drop (j + 1))) := Lib.hid (by
              have := HST.out
              rw [if_neg (by simp), if_neg (by simp [hle])] at this
              exact this)
            have hop : ∀ W, (binOp .leq 9 (.string x.nm) (.string y.nm)).run Tryd.prog W = .ok (.bool false) W := fun W => by rw [leB_run, hle]
            clear hle
            go_upto_region 9 with (fail)
            go_quiet (fail)
            go_wp2_with fail
            go_roundg (l.length - (j + 1))
            case measure => omega
            case rel => exact ⟨j + 1, by go_num, by omega, rfl, hR2, Lib.hid (HU2.out.alike ⟨rfl, rfl, rfl⟩)⟩
      · have hR2 : Hid (R = E) := Lib.hid (by have := HST.out; rw [if_pos hE] at this; exact this)
        go_wp2_with fail
        go_ret
        exact ⟨by rw [hR2.out]; rfl, HU2.out⟩
    · have hlt : ¬ (j : Int) < (l.length : Int) := by omega
      have hR : Hid (R = 0) := Lib.hid (hA.out.trans (chkF_end l j (by omega)))
      go_wp2_with fail
      go_ret
      exact ⟨by rw [hR.out]; rfl, HU.out⟩
end Go.Proofs.YtnokekoojmljaaaDoor

namespace Go.Proofs.YtnokekoojmljaaaDoor
open Go.RowKit

theorem setF_mem {l : List Fd} {x y : Fd} (h : y ∈ setF l x) : y = x ∨ y ∈ l := by
  unfold setF at h
  split at h
  · unfold insF at h
    rcases List.mem_append.1 h with h | h
    · exact Or.inr ((List.takeWhile_sublist _).subset h)
    · rcases List.mem_cons.1 h with rfl | h
      · exact Or.inl rfl
      · exact Or.inr ((List.dropWhile_sublist _).subset h)
  · rcases List.mem_or_eq_of_mem_set h with h | h
    · exact Or.inr h
    · exact Or.inl h


theorem getF_mem {l : List Fd} {k : ByteArray} {f : Fd} (h : getF l k = some f) : f ∈ l ∧ f.nm = k := by
  unfold getF at h
  exact ⟨List.mem_of_find?_eq_some h, by simpa using List.find?_some h⟩


theorem bl_trans : ∀ x y z : List UInt8, Op.bytesLess x y = true → Op.bytesLess y z = true → Op.bytesLess x z = true
  | _, [], _, h, _ => by cases ‹List UInt8› <;> simp [Op.bytesLess] at h
  | x, b :: y, [], _, h => by simp [Op.bytesLess] at h
  | [], b :: y, c :: z, _, _ => rfl
  | a :: x, b :: y, c :: z, h, g => by
    simp only [Op.bytesLess, Bool.or_eq_true, Bool.and_eq_true, decide_eq_true_eq, beq_iff_eq, UInt8.lt_iff_toNat_lt] at h g ⊢
    rcases h with h | ⟨rfl, h⟩
    · rcases g with g | ⟨rfl, g⟩
      · exact Or.inl (by omega)
      · exact Or.inl h
    · rcases g with g | ⟨rfl, g⟩
      · exact Or.inl g
      · exact Or.inr ⟨rfl, bl_trans x y z h g⟩

theorem bl_irrefl : ∀ x : List UInt8, Op.bytesLess x x = false
  | [] => rfl
  | a :: x => by simp [Op.bytesLess, bl_irrefl x]

theorem bl_total : ∀ x y : List UInt8, x = y ∨ Op.bytesLess x y = true ∨ Op.bytesLess y x = true
  | [], [] => Or.inl rfl
  | [], _ :: _ => Or.inr (Or.inl rfl)
  | _ :: _, [] => Or.inr (Or.inr rfl)
  | a :: x, b :: y => by
    simp only [Op.bytesLess, Bool.or_eq_true, Bool.and_eq_true, decide_eq_true_eq, beq_iff_eq, UInt8.lt_iff_toNat_lt, List.cons.injEq]
    rcases Nat.lt_trichotomy a.toNat b.toNat with h | h | h
    · exact Or.inr (Or.inl (Or.inl h))
    · have h := UInt8.toNat_inj.1 h
      subst h
      rcases bl_total x y with rfl | h | h
      · exact Or.inl ⟨rfl, rfl⟩
      · exact Or.inr (Or.inl (Or.inr ⟨rfl, h⟩))
      · exact Or.inr (Or.inr (Or.inr ⟨rfl, h⟩))
    · exact Or.inr (Or.inr (Or.inl h))

theorem toList_inj {a b : ByteArray} (h : a.toList = b.toList) : a = b := by
  have := bytes_beq a b
  rw [beq_toListBytes, h] at this
  simpa using this.symm

theorem leB_false {a b : ByteArray} : leB a b = false ↔ Op.bytesLess b.toList a.toList = true := by
  unfold leB
  constructor
  · intro h
    simp only [Bool.or_eq_false_iff, beq_eq_false_iff_ne] at h
    rcases bl_total a.toList b.toList with g | g | g
    · exact absurd g h.2
    · rw [h.1] at g; cases g
    · exact g
  · intro h
    cases g : Op.bytesLess a.toList b.toList with
    | true => have := bl_trans _ _ _ h g; rw [bl_irrefl] at this; cases this
    | false =>
      have : a.toList ≠ b.toList := fun e => by rw [e, bl_irrefl] at h; cases h
      simpa using this

theorem lt_trans' {a b c : ByteArray} (h : leB b a = false) (g : leB c b = false) : leB c a = false := leB_false.2 (bl_trans _ _ _ (leB_false.1 h) (leB_false.1 g))
theorem lt_of_le_ne {a b : ByteArray} (h : leB a b = true) (hn : a ≠ b) : leB b a = false := by
  unfold leB at h
  simp only [Bool.or_eq_true, beq_iff_eq] at h
  rcases h with h | h
  · exact leB_false.2 h
  · exact absurd (toList_inj h) hn

/-- A record, as the document has it. -/
def Srt (l : List Fd) : Prop := l.Pairwise fun x y => leB y.nm x.nm = false
def Good (l : List Fd) : Prop := l.length ≤ 16 ∧ (∀ x ∈ l, fieldE x = 0) ∧ Srt l

theorem chkF_some : ∀ (l : List Fd) (y : Fd), chkF (some y) l = 0 ↔ (∀ x ∈ l, fieldE x = 0) ∧ Srt (y :: l)
  | [], y => by simp [chkF, Srt]
  | x :: l, y => by
    unfold chkF
    by_cases h : fieldE x = 0
    · rw [if_neg (by simpa using h)]
      cases hc : leB x.nm y.nm with
      | true => simp [Srt, hc]
      | false =>
        simp only [hc, Bool.false_eq_true, if_false]
        rw [chkF_some l x]
        constructor
        · rintro ⟨h1, h2⟩
          refine ⟨fun z hz => ?_, ?_⟩
          · rcases List.mem_cons.1 hz with rfl | hz
            · exact h
            · exact h1 z hz
          · refine List.pairwise_cons.2 ⟨fun z hz => ?_, h2⟩
            rcases List.mem_cons.1 hz with rfl | hz
            · exact hc
            · exact lt_trans' hc ((List.pairwise_cons.1 h2).1 z hz)
        · rintro ⟨h1, h2⟩
          exact ⟨fun z hz => h1 z (by simp [hz]), (List.pairwise_cons.1 h2).2⟩
    · rw [if_pos h]
      simp [h]

theorem checkF_iff (l : List Fd) : checkF l = 0 ↔ Good l := by
  unfold checkF Good
  split
  · simp; omega
  · rename_i h16
    have e : l.length ≤ 16 := by omega
    simp only [e, true_and]
    cases l with
    | nil => simp [chkF, Srt]
    | cons x l =>
      unfold chkF
      by_cases h : fieldE x = 0
      · simp only [h, ne_eq, not_true_eq_false, if_false, Bool.false_eq_true]
        rw [chkF_some]
        simp [h]
      · simp [h]

theorem mem_of_split {l l1 l2 : List Fd} (h : l = l1 ++ l2) {x : Fd} : x ∈ l ↔ x ∈ l1 ∨ x ∈ l2 := by rw [h]; simp

/-- Set on a sorted record. -/
theorem srt_set {l : List Fd} (h : Srt l) (x : Fd) : Srt (setF l x) := by
  unfold setF
  rcases posF_cases l x.nm with ⟨hp, hk, -⟩ | ⟨i, hi, hp, hk, -, -⟩
  · rw [if_pos (by omega)]
    unfold insF
    have hsp : l = (l.takeWhile fun y => leB y.nm x.nm) ++ l.dropWhile fun y => leB y.nm x.nm := (List.takeWhile_append_dropWhile).symm
    have h1 : ∀ y ∈ l.takeWhile (fun y => leB y.nm x.nm), leB x.nm y.nm = false := fun y hy => by
      have hle : leB y.nm x.nm = true := List.all_eq_true.1 List.all_takeWhile y hy
      exact lt_of_le_ne hle (hk y ((List.takeWhile_sublist _).subset hy))
    have hs : Srt ((l.takeWhile fun y => leB y.nm x.nm) ++ l.dropWhile fun y => leB y.nm x.nm) := by rw [← hsp]; exact h
    have hs := List.pairwise_append.1 hs
    have h2 : ∀ y ∈ l.dropWhile (fun y => leB y.nm x.nm), leB y.nm x.nm = false := by
      cases hd : l.dropWhile (fun y => leB y.nm x.nm) with
      | nil => intro y hy; cases hy
      | cons z r =>
        have hz : leB z.nm x.nm = false := by
          have := List.head?_dropWhile_not (fun y : Fd => leB y.nm x.nm) l
          rw [hd] at this
          simpa using this
        rw [hd] at hs
        intro y hy
        rcases List.mem_cons.1 hy with rfl | hy
        · exact hz
        · exact lt_trans' hz ((List.pairwise_cons.1 hs.2.1).1 y hy)
    refine List.pairwise_append.2 ⟨hs.1, List.pairwise_cons.2 ⟨h2, hs.2.1⟩, fun a ha b hb => ?_⟩
    rcases List.mem_cons.1 hb with rfl | hb
    · exact h1 a ha
    · exact hs.2.2 a ha b hb
  · rw [if_neg (by omega), hp]
    unfold Srt at h ⊢
    rw [List.pairwise_iff_getElem] at h ⊢
    intro a b ha hb hab
    rw [List.length_set] at ha hb
    have e : ((i : Int)).toNat = i := rfl
    simp only [e, List.getElem_set]
    split
    · rename_i hib
      subst hib
      rw [if_neg (by omega)]
      have := h a i ha hi hab
      rw [hk] at this
      exact this
    · split
      · rename_i hia
        subst hia
        have := h i b hi hb hab
        rw [hk] at this
        exact this
      · exact h a b ha hb hab

theorem srt_drop {l : List Fd} (h : Srt l) (k : ByteArray) : Srt (dropF l k) := List.Pairwise.sublist (List.eraseP_sublist) h

theorem fieldE_zero {x : Fd} : fieldE x = 0 ↔ nameOk x.nm = true ∧ (if x.tx = true then x.n = 0 ∧ x.s.size ≤ 200 else x.s.size = 0) := by
  unfold fieldE
  cases nameOk x.nm with
  | false => simp
  | true =>
    cases x.tx with
    | true => simp
    | false => simp

theorem itoaB_size (n : Int) (h0 : -9223372036854775808 ≤ n) (h1 : n ≤ 9223372036854775807) : (itoaB n).size ≤ 200 := by
  have := Lib.itoa_length_le n h0 h1
  have e : (itoaB n).size = (Lib.itoa n).length := by unfold itoaB; simp [ByteArray.size]
  omega

theorem good_set {l : List Fd} (h : Good l) {x : Fd} (hx : fieldE x = 0) (hl : (setF l x).length ≤ 16) : Good (setF l x) :=
  ⟨hl, fun y hy => (setF_mem hy).elim (fun e => e ▸ hx) (fun g => h.2.1 y g), srt_set h.2.2 x⟩


end Go.Proofs.YtnokekoojmljaaaDoor
