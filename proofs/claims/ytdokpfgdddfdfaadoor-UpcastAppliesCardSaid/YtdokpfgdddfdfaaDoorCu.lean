/- Upcasters: too many changes; the map of those that were seen. -/
import Derived.Test.YtdokpfgdddfdfaaDoorMy
namespace Go.Proofs.YtdokpfgdddfdfaaDoor
open Go.RowKit

def manyU (u : Up) : Bool := decide (16 < u.ch.length)

set_option maxRecDepth 100000 in
theorem many_ok (u : Up) (w : World) (h : ∃ a c, u.cv = .slice a u.ch.length c) : Calls Tryd.prog 23 #[aggU u] w fun e w' => e = .returned (.bool (manyU u)) ∧ Upd [] w w' := by
  obtain ⟨a, c, hcv⟩ := h
  obtain ⟨ty, fr, cv, ch⟩ := u
  dsimp only at hcv
  subst hcv
  unfold manyU
  dsimp only
  generalize ch.length = n at *
  by_cases h16 : 16 < n
  · rw [decide_eq_true h16]
    have hi : (16 : Int) < (n : Int) := by omega
    go_enter Tryd.func23, Tryd.ntmps23
    go_wp2_with fail
    go_ret
    exact ⟨rfl, (Upd.refl [] w).alloc _⟩
  · rw [decide_eq_false h16]
    have hi : ¬ (16 : Int) < (n : Int) := by omega
    go_enter Tryd.func23, Tryd.ntmps23
    go_wp2_with fail
    go_ret
    exact ⟨rfl, (Upd.refl [] w).alloc _⟩

theorem enters23 : ∀ args w, (callFunc 23 args).run Tryd.prog w = .ok (.enter 23 args) w := enters_of Tryd.func23 (by kernel_rfl) rfl

set_option maxRecDepth 100000 in
set_option maxHeartbeats 800000 in
theorem idxUp_ok (v : Value) (us : List Up) (w : World) (hu : UpsAt w v us) :
    Calls Tryd.prog 39 #[v, .func (.func 23) #[] #[]] w fun e w' => e = .returned (.int .i64 (idxF manyU us)) ∧ Upd [] w w' := by
  have HSh := Lib.hid hu.shape
  obtain ⟨a, cap, rfl, h1, h2, h3⟩ := hu
  have H3 := Lib.hid h3
  clear h3
  unfold maxLen at h2
  go_enter Tryd.func39, Tryd.ntmps39
  go_wp2_with fail
  go_loopg [5, 8] us.length (fun n _ i wr => ∃ j : Nat, i = .int .i64 j ∧ j ≤ us.length ∧ n = us.length - j ∧ Hid (∀ i (hi : i < j) (hl : i < us.length), manyU us[i] = false) ∧ Hid (Upd [] w wr))
  case atStart => exact ⟨0, rfl, by omega, rfl, Lib.hid (fun i hi => by omega), Lib.hid (Upd.refl _ _)⟩
  case round =>
    obtain ⟨j, rfl, hj, rfl, hA, HU⟩ := hrel
    by_cases hjl : j < us.length
    · have hlt : (j : Int) < (us.length : Int) := by omega
      obtain ⟨b, off, rfl, hf⟩ := H3.out j hjl
      obtain ⟨c0, c1, c2⟩ := (hf.keep HU.out).1
      clear hf
      have hcall := many_ok us[j] wr (HSh.out _ (List.getElem_mem hjl))
      obtain ⟨a2, cc2, hcv⟩ := HSh.out us[j] (List.getElem_mem hjl)
      cases hq : manyU us[j] with
      | true =>
        have hres : Hid (idxF manyU us = j) := Lib.hid (idxF_some hjl hq (fun i hi => hA.out i hi (by omega)))
        rw [hq] at hcall
        clear hq
        generalize us[j] = x at *
        obtain ⟨ty, fr, cv, ch⟩ := x
        dsimp only at hcv
        subst hcv
        have HC := Lib.hid hcall
        clear hcall
        go_wp2_with fail
        refine HC.out.mono ?_
        rintro e w' ⟨rfl, hu'⟩
        have HU2 := Lib.hid hu'
        clear hu'
        go_wp2_with fail
        go_ret
        exact ⟨by rw [hres.out]; rfl, HU.out.trans HU2.out⟩
      | false =>
        have hA2 : Hid (∀ i (hi : i < j + 1) (hl : i < us.length), manyU us[i] = false) := Lib.hid (fun i hi hl => by
          rcases Nat.lt_or_ge i j with h | h
          · exact hA.out i h hl
          · have : i = j := by omega
            subst this; exact hq)
        rw [hq] at hcall
        clear hq
        generalize us[j] = x at *
        obtain ⟨ty, fr, cv, ch⟩ := x
        dsimp only at hcv
        subst hcv
        have HC := Lib.hid hcall
        clear hcall
        go_wp2_with fail
        refine HC.out.mono ?_
        rintro e w' ⟨rfl, hu'⟩
        have HU2 := Lib.hid hu'
        clear hu'
        go_wp2_with fail
        go_roundg (us.length - (j + 1))
        case measure => omega
        case rel => exact ⟨j + 1, by go_num, by omega, rfl, hA2, Lib.hid (HU.out.trans HU2.out)⟩
    · have hlt : ¬ (j : Int) < (us.length : Int) := by omega
      have hres : Hid (idxF manyU us = -1) := Lib.hid (idxF_none (fun i hi => hA.out i (by omega) hi))
      go_wp2_with fail
      go_ret
      exact ⟨by rw [hres.out]; rfl, HU.out⟩

set_option maxRecDepth 100000 in
theorem contains_ok (v : Value) (us : List Up) (w : World) (hu : UpsAt w v us) :
    Calls Tryd.prog 24 #[v, .func (.func 23) #[] #[]] w fun e w' => e = .returned (.bool (us.any manyU)) ∧ Upd [] w w' := by
  have HC := Lib.hid (idxUp_ok v us w hu)
  obtain ⟨a, cap, rfl, -, -, -⟩ := hu
  rcases idxF_cases manyU us with ⟨h1, h2⟩ | ⟨i, hi, h1, h2, -⟩
  · have hr : us.any manyU = false := by
      rw [List.any_eq_false]
      intro x hx
      simp [h2 x hx]
    rw [hr]
    rw [h1] at HC
    clear h1 h2 hr
    go_enter Tryd.func24, Tryd.ntmps24
    go_wp2_with fail
    refine HC.out.mono ?_
    rintro e w' ⟨rfl, hu⟩
    have HU := Lib.hid hu
    clear hu
    go_wp2_with fail
    go_ret
    exact ⟨rfl, HU.out⟩
  · have hr : us.any manyU = true := List.any_eq_true.2 ⟨us[i], List.getElem_mem hi, h2⟩
    rw [hr]
    rw [h1] at HC
    clear h1 h2 hr
    go_enter Tryd.func24, Tryd.ntmps24
    go_wp2_with fail
    refine HC.out.mono ?_
    rintro e w' ⟨rfl, hu⟩
    have HU := Lib.hid hu
    clear hu
    go_wp2_with fail
    go_ret
    exact ⟨rfl, HU.out⟩

/-- The map of the upcasters that were seen. -/
def SeenM (w : World) (m : Nat) (l : List Up) : Prop := ∃ L c, MapB w m L c ∧ (∀ e ∈ L, e.born < c) ∧ ∀ s n, getE L s n = if l.any (isU s n) then some (.int .i64 1) else none

theorem SeenM.upd {w w' : World} {m : Nat} {l : List Up} (h : SeenM w m l) {F : List Nat} (u : Upd F w w') (hF : m ∉ F) : SeenM w' m l := by
  obtain ⟨L, c, h1, h2⟩ := h
  exact ⟨L, c, h1.grown u hF, h2⟩

theorem SeenM.lt {w : World} {m : Nat} {l : List Up} (h : SeenM w m l) : m < w.heap.size := by
  obtain ⟨L, c, h1, h2⟩ := h
  exact lt_of_blk h1

theorem SeenM.look {w : World} {m : Nat} {l : List Up} (h : SeenM w m l) (s : ByteArray) (n : Int) :
    (Instr.lookup 53 (.map (some m)) (keyV s n) false).run Tryd.prog w = .ok (.int .i64 (if l.any (isU s n) then 1 else 0)) w := by
  obtain ⟨L, c, h1, h2, h3⟩ := h
  rw [run_look_int h1, h3]
  split <;> rfl

/-- A new one is counted: what its three operations do, one behind another. -/
theorem SeenM.count {w : World} {m : Nat} {l : List Up} (h : SeenM w m l) (u : Up) (hn : l.any (isU u.ty u.fr) = false) :
    ∃ (c : Nat) (W1 W2 : World), (Instr.mapEntry 53 (.map (some m)) (keyV u.ty u.fr)).run Tryd.prog w = .ok (.tuple #[.int .i64 0, .int .i64 c]) W1 ∧
      (Instr.lookup 53 (.map (some m)) (keyV u.ty u.fr) false).run Tryd.prog W1 = .ok (.int .i64 0) W1 ∧
      (Instr.entryStore 53 (.map (some m)) (.int .i64 c) (.int .i64 1)).run Tryd.prog W1 = .ok () W2 ∧
      w.grownBy W1 (some m) ∧ W1.grownBy W2 (some m) ∧ SeenM W2 m (l ++ [u]) := by
  obtain ⟨L, c, h1, h2, h3⟩ := h
  have hlt : m < w.heap.size := lt_of_blk h1
  have ht : Tryd.prog.underlying 53 = some (.map 45 3) := Tryd.underlying53
  have hg : getE L u.ty u.fr = none := by rw [h3, hn]; rfl
  have hnone : lookFrom u.ty u.fr L 0 = none := by
    have := lookFrom_val u.ty u.fr L
    rw [hg] at this
    cases hl : lookFrom u.ty u.fr L 0 with
    | none => rfl
    | some p => rw [hl] at this; cases this
  have hall : ∀ e ∈ L, isKey u.ty u.fr e = false := by
    rcases lookFrom_cases u.ty u.fr L 0 with ⟨-, h⟩ | ⟨j, hj, h, -⟩
    · exact h
    · rw [hnone] at h; cases h
  have hz : (zeroValue 3).run Tryd.prog w = .ok (.int .i64 0) w := Tryd.zeroValue3 w
  have hM1 : MapB { w with heap := w.heap.setIfInBounds m (.map ((L.map entE).toArray.push { key := keyV u.ty u.fr, val := .int .i64 0, born := c }) (c + 1)) } m (L ++ [(⟨u.ty, u.fr, .int .i64 0, c⟩ : Ent)]) (c + 1) := by
    unfold MapB
    simp [hlt, entE]
  have hg1 := grown_set w m (.map ((L.map entE).toArray.push { key := keyV u.ty u.fr, val := .int .i64 0, born := c }) (c + 1))
  have hrun1 : (Instr.mapEntry 53 (.map (some m)) (keyV u.ty u.fr)).run Tryd.prog w = .ok (.tuple #[.int .i64 0, .int .i64 c]) { w with heap := w.heap.setIfInBounds m (.map ((L.map entE).toArray.push { key := keyV u.ty u.fr, val := .int .i64 0, born := c }) (c + 1)) } := by
    unfold Instr.mapEntry
    simp only [Sem.run_bind, run_underlying ht, Result.andThen_ok, getObj_mapB h1, run_checkKey45]
    rw [run_findKey45, hnone]
    simp only [Result.andThen_ok, Sem.run_bind, hz, MapKept.run_setObj_map _ h1]
    rfl
  generalize ({ w with heap := w.heap.setIfInBounds m (.map ((L.map entE).toArray.push { key := keyV u.ty u.fr, val := .int .i64 0, born := c }) (c + 1)) } : World) = W1 at *
  have hlt1 : m < W1.heap.size := lt_of_blk hM1
  have hgl : ∀ s n, getE (L ++ [(⟨u.ty, u.fr, .int .i64 0, c⟩ : Ent)]) s n = if s = u.ty ∧ n = u.fr then some (.int .i64 0) else getE L s n := fun s n => by
    have := getE_put L u.ty u.fr (.int .i64 0) c s n
    unfold putE at this
    rw [hnone] at this
    exact this
  have hg2l : ∀ s n, getE (L ++ [(⟨u.ty, u.fr, .int .i64 1, c⟩ : Ent)]) s n = if s = u.ty ∧ n = u.fr then some (.int .i64 1) else getE L s n := fun s n => by
    have := getE_put L u.ty u.fr (.int .i64 1) c s n
    unfold putE at this
    rw [hnone] at this
    exact this
  have hlen : ((L ++ [(⟨u.ty, u.fr, .int .i64 0, c⟩ : Ent)]).map entE).toArray.findIdx? (fun e : MapEntry => (e.born : Int) == (c : Int)) = some L.length := by
    rw [List.findIdx?_toArray]
    rw [List.findIdx?_eq_some_iff_getElem]
    refine ⟨by simp, by simp [entE], fun j hj => ?_⟩
    have : (L ++ [(⟨u.ty, u.fr, .int .i64 0, c⟩ : Ent)]).map entE = L.map entE ++ [entE (⟨u.ty, u.fr, .int .i64 0, c⟩ : Ent)] := by simp
    simp only [List.getElem_map]
    rw [List.getElem_append_left hj]
    have := h2 L[j] (List.getElem_mem hj)
    simp [entE]
    omega
  have hM2 : MapB { W1 with heap := W1.heap.setIfInBounds m (.map (((L ++ [(⟨u.ty, u.fr, .int .i64 0, c⟩ : Ent)]).map entE).toArray.modify L.length fun e => { e with val := .int .i64 1 }) (c + 1)) } m (L ++ [(⟨u.ty, u.fr, .int .i64 1, c⟩ : Ent)]) (c + 1) := by
    unfold MapB
    have : ((L ++ [(⟨u.ty, u.fr, .int .i64 0, c⟩ : Ent)]).map entE).toArray.modify L.length (fun e : MapEntry => { e with val := .int .i64 1 }) = ((L ++ [(⟨u.ty, u.fr, .int .i64 1, c⟩ : Ent)]).map entE).toArray := by
      apply Array.ext
      · simp
      · intro i hi1 hi2
        simp only [Array.getElem_modify, List.getElem_toArray, List.getElem_map]
        split
        · rename_i e
          subst e
          simp [entE]
        · rename_i e
          have hi : i < L.length := by simp at hi2; omega
          rw [List.getElem_append_left hi, List.getElem_append_left hi]
    rw [this]
    simp [hlt1]
  refine ⟨c, W1, _, hrun1, ?_, ?_, hg1, grown_set W1 m _, L ++ [(⟨u.ty, u.fr, .int .i64 1, c⟩ : Ent)], c + 1, hM2, ?_, ?_⟩
  · rw [run_look_int hM1, hgl, if_pos ⟨rfl, rfl⟩]; rfl
  · unfold Instr.entryStore
    have ha : (asInt (.int .i64 (c : Int))).run Tryd.prog W1 = .ok (c : Int) W1 := rfl
    simp only [Sem.run_bind, Result.andThen_ok, getObj_mapB hM1, ha, hlen]
    exact MapKept.run_setObj_map _ hM1
  · intro e he
    rcases List.mem_append.1 he with he | he
    · have := h2 e he; omega
    · simp at he; subst he; simp
  · intro s n
    rw [hg2l, h3]
    by_cases hk : s = u.ty ∧ n = u.fr
    · rw [if_pos hk]
      simp [isU, hk]
    · rw [if_neg hk]
      have : isU s n u = false := by unfold isU; simpa using hk
      simp [this]
end Go.Proofs.YtdokpfgdddfdfaaDoor
