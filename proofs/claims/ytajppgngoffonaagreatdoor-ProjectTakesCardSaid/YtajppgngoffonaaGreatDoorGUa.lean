/- Bringing up, in plain words. Upcasters: Apply. -/
import Derived.Test.YtajppgngoffonaaGreatDoorGUc
namespace Go.Proofs.YtajppgngoffonaaGreatDoor.U
open Go.RowKit

theorem pigeon (f : Nat → Int) : ∀ (v : Nat) (l : List Up), (∀ i j, i < v → j < v → f i = f j → i = j) → (∀ j, j < v → ∃ u ∈ l, u.fr = f j) → v ≤ l.length := by
  intro v
  induction v with
  | zero => intro l _ _; omega
  | succ v ih =>
    intro l hf h
    obtain ⟨u, hu, e⟩ := h v (by omega)
    obtain ⟨l1, l2, rfl⟩ := List.append_of_mem hu
    have := ih (l1 ++ l2) (fun i j hi hj => hf i j (by omega) (by omega)) (fun j hj => by
      obtain ⟨x, hx, ex⟩ := h j (by omega)
      refine ⟨x, ?_, ex⟩
      rcases List.mem_append.1 hx with hx | hx
      · exact List.mem_append_left _ hx
      · rcases List.mem_cons.1 hx with rfl | hx
        · have := hf j v (by omega) (by omega) (ex.symm.trans e)
          omega
        · exact List.mem_append_right _ hx)
    simp at this ⊢
    omega

theorem findU_mem {l : List Up} {s : ByteArray} {n : Int} {u : Up} (h : findU l s n = some u) : u ∈ l ∧ u.ty = s ∧ u.fr = n := by
  unfold findU at h
  have h2 := List.find?_some h
  have h3 := List.mem_of_find?_eq_some h
  simp [isU] at h2
  exact ⟨h3, h2.1.symm, h2.2.symm⟩

def stepU (us : List Up) (ty : ByteArray) : Nat → Int → List Fd → Int × List Fd
  | 0, v, r => (v, r)
  | f + 1, v, r => match findU us ty v with
    | none => (v, r)
    | some u => stepU us ty f (wrap64 (v + 1)) (u.ch.foldl doneF r)

def applyU (us : List Up) (ty : ByteArray) (v : Int) (r : List Fd) : Int × List Fd := stepU us ty (us.length + 1) v r

theorem setF_mem {l : List Fd} {x y : Fd} (h : y ∈ setF l x) : y = x ∨ y ∈ l := by
  unfold setF at h
  split at h
  · unfold insF at h
    rcases List.mem_append.1 h with h | h
    · exact Or.inr ((List.takeWhile_sublist _).subset h)
    · rcases List.mem_cons.1 h with rfl | h
      · exact Or.inl rfl
      · exact Or.inr ((List.dropWhile_sublist _).subset h)
  · rcases List.mem_or_eq_of_mem_set h with h | h
    · exact Or.inr h
    · exact Or.inl h

theorem dropF_mem {l : List Fd} {k : ByteArray} {y : Fd} (h : y ∈ dropF l k) : y ∈ l := List.mem_of_mem_eraseP h

theorem setF_length (l : List Fd) (x : Fd) : (setF l x).length ≤ l.length + 1 := by
  unfold setF
  split
  · obtain ⟨l1, l2, h1, h2, -⟩ := insF_split l x
    rw [h2, h1]
    simp
    omega
  · rw [List.length_set]; omega

theorem setF_length_there {l : List Fd} {x : Fd} (h : (getF l x.nm).isSome = true) : (setF l x).length = l.length := by
  unfold setF
  rcases posF_cases l x.nm with ⟨hp, -, hg⟩ | ⟨i, hi, hp, -, -, -⟩
  · rw [hg] at h; cases h
  · rw [if_neg (by omega), List.length_set]

theorem dropF_length_there {l : List Fd} {k : ByteArray} (h : (getF l k).isSome = true) : (dropF l k).length + 1 = l.length := by
  rcases posF_cases l k with ⟨-, -, hg⟩ | ⟨i, hi, hp, hk, -, -⟩
  · rw [hg] at h; cases h
  · unfold dropF
    rw [List.length_eraseP, if_pos (List.any_eq_true.2 ⟨l[i], List.getElem_mem hi, by simpa using hk⟩)]
    omega

theorem doneF_length (l : List Fd) (c : Ch) : (doneF l c).length ≤ max l.length 16 := by
  unfold doneF
  split
  · split
    · omega
    · rename_i h
      have := setF_length l c.f
      omega
  · cases hg : getF l c.nm with
    | none => simp only []; omega
    | some f =>
      have hm := getF_mem hg
      have hs : (getF l f.nm).isSome = true := by rw [hm.2, hg]; rfl
      simp only []
      split
      · have := dropF_length l f.nm; omega
      split
      · unfold renF
        split
        · omega
        · have h1 := dropF_length_there hs
          have h2 := setF_length (dropF l f.nm) { f with nm := c.to }
          omega
      split
      · unfold showF
        split
        · omega
        · rw [setF_length_there (by exact hs)]; omega
      split
      · unfold scaleF
        split
        · omega
        · split
          · rw [setF_length_there (by exact hs)]; omega
          · omega
      · omega

theorem doneF_fit {l : List Fd} {c : Ch} (h : ∀ x ∈ l, FitN x) (hc : FitN c.f) : ∀ x ∈ doneF l c, FitN x := by
  intro x hx
  unfold doneF at hx
  split at hx
  · split at hx
    · exact h x hx
    · rcases setF_mem hx with rfl | hx
      · exact hc
      · exact h x hx
  · cases hg : getF l c.nm with
    | none => rw [hg] at hx; exact h x hx
    | some f =>
      have hf := h f (getF_mem hg).1
      rw [hg] at hx
      simp only [] at hx
      split at hx
      · exact h x (dropF_mem hx)
      split at hx
      · unfold renF at hx
        split at hx
        · exact h x hx
        · rcases setF_mem hx with rfl | hx
          · exact hf
          · exact h x (dropF_mem hx)
      split at hx
      · unfold showF at hx
        split at hx
        · exact h x hx
        · rcases setF_mem hx with rfl | hx
          · exact ⟨by show (-9223372036854775808 : Int) ≤ 0; decide, by show (0 : Int) ≤ 9223372036854775807; decide⟩
          · exact h x hx
      split at hx
      · unfold scaleF at hx
        split at hx
        · exact h x hx
        · split at hx
          · rename_i n hn
            rcases setF_mem hx with rfl | hx
            · unfold scaleN at hn
              split at hn
              · rename_i hw
                cases hn
                have := (withinB_iff _).1 hw.2.2
                exact ⟨by show -9223372036854775808 ≤ f.n * c.f.n; omega, by show f.n * c.f.n ≤ 9223372036854775807; omega⟩
              · cases hn
            · exact h x hx
          · exact h x hx
      · exact h x hx

theorem foldF_length (ch : List Ch) : ∀ (l : List Fd) (N : Nat), l.length ≤ N → 16 ≤ N → (ch.foldl doneF l).length ≤ N := by
  induction ch with
  | nil => intro l N h _; exact h
  | cons c ch ih =>
    intro l N h h16
    exact ih _ N (by have := doneF_length l c; omega) h16

theorem foldF_fit (ch : List Ch) : ∀ (l : List Fd), (∀ x ∈ l, FitN x) → (∀ c ∈ ch, FitN c.f) → ∀ x ∈ ch.foldl doneF l, FitN x := by
  induction ch with
  | nil => intro l h _; exact h
  | cons c ch ih =>
    intro l h hc
    exact ih _ (doneF_fit h (hc c (by simp))) (fun c' hc' => hc c' (by simp [hc']))

/-- The version behind j rounds. -/
def verAt (v : Int) (j : Nat) : Int := wrap64 (v + j)

theorem verAt_inj {v : Int} {n : Nat} (hn : n ≤ 9223372036854775807) : ∀ i j, i < n → j < n → verAt v i = verAt v j → i = j := by
  intro i j hi hj h
  unfold verAt wrap64 at h
  omega

theorem verAt_succ (v : Int) (j : Nat) : wrap64 (verAt v j + 1) = verAt v (j + 1) := by
  unfold verAt wrap64
  omega

theorem verAt_zero {v : Int} (h : -9223372036854775808 ≤ v ∧ v ≤ 9223372036854775807) : verAt v 0 = v := by
  unfold verAt wrap64
  omega

/-- No more rounds than upcasters. -/
theorem rounds_le {us : List Up} {ty : ByteArray} {v : Int} {k : Nat} (hu : us.length ≤ 9223372036854775806) (hk : k ≤ us.length + 1) (h : ∀ j, j < k → (findU us ty (verAt v j)).isSome = true) : k ≤ us.length :=
  pigeon (fun j => verAt v j) k us (fun i j hi hj e => verAt_inj (v := v) (n := k) (by omega) i j hi hj e) (fun j hj => by
    obtain ⟨u, hu⟩ := Option.isSome_iff_exists.1 (h j hj)
    obtain ⟨h1, _, h3⟩ := findU_mem hu
    exact ⟨u, h1, h3⟩)
end Go.Proofs.YtajppgngoffonaaGreatDoor.U

namespace Go.Proofs.YtajppgngoffonaaGreatDoor.U
open Go.RowKit

abbrev aggE (ty : ByteArray) (v : Int) (fv : Value) : Value := .agg #[.string ty, .int .i64 v, fv]
def boxE (ty : ByteArray) (v : Int) (fv : Value) : Obj := .cells #[.string ty, .int .i64 v, fv] 34

/-- How the memory stands between two rounds of Apply: the event at block B, the result behind it. -/
structure ES (w wr : World) (us : List Up) (b : Nat) (ty : ByteArray) (v : Int) (fv : Value) (r : List Fd) : Prop where
  ev : wr.heap[w.heap.size]? = some (boxE ty v fv)
  res : wr.heap[w.heap.size + 1]? = some (boxE ByteArray.empty 0 (.slice none 0 0))
  own : Own wr (w.heap.size + 2) fv r
  map : MapU wr b us
  mb : w.heap.size + 2 ≤ b
  upd : Upd [] w wr

theorem ES.keep {w wr wr' : World} {us : List Up} {b : Nat} {ty : ByteArray} {v : Int} {fv : Value} {r : List Fd} (h : ES w wr us b ty v fv r) (u : Upd [] wr wr') : ES w wr' us b ty v fv r :=
  ⟨(u.block _ (lt_of_blk h.ev) (by simp)).trans h.ev, (u.block _ (lt_of_blk h.res) (by simp)).trans h.res, Own.keep h.own u, h.map.upd u (by simp), h.mb, h.upd.trans u⟩

/-- The fields are stored. -/
theorem ES.setF {w wr wr' : World} {us : List Up} {b : Nat} {ty : ByteArray} {v : Int} {fv fv' : Value} {r r' : List Fd} (h : ES w wr us b ty v fv r) (ho : Own wr (w.heap.size + 2) fv' r') (hw : wr'.Alike (wr.setCell ⟨w.heap.size, 2, none⟩ fv')) : ES w wr' us b ty v fv' r' := by
  have u : Upd [w.heap.size] wr wr' := ((Upd.refl _ _).setCell (by simp) _ _).alike hw
  refine ⟨?_, (u.block _ (lt_of_blk h.res) (by simp)).trans h.res, own_upd ho u (fun k hk q => by simp at hk; subst hk; have := (ho.lt _ q).1; omega), h.map.upd u (by have := h.mb; simp; omega), h.mb, (h.upd.setCellNew (Nat.le_refl _) _ _).alike hw⟩
  rw [hw.1, heap_setCell, if_pos rfl, h.ev]
  rfl

/-- The version is stored. -/
theorem ES.setV {w wr wr' : World} {us : List Up} {b : Nat} {ty : ByteArray} {v v' : Int} {fv : Value} {r : List Fd} (h : ES w wr us b ty v fv r) (hw : wr'.Alike (wr.setCell ⟨w.heap.size, 1, none⟩ (.int .i64 v'))) : ES w wr' us b ty v' fv r := by
  have u : Upd [w.heap.size] wr wr' := ((Upd.refl _ _).setCell (by simp) _ _).alike hw
  refine ⟨?_, (u.block _ (lt_of_blk h.res) (by simp)).trans h.res, own_upd h.own u (fun k hk q => by simp at hk; subst hk; have := (h.own.lt _ q).1; omega), h.map.upd u (by have := h.mb; simp; omega), h.mb, (h.upd.setCellNew (Nat.le_refl _) _ _).alike hw⟩
  rw [hw.1, heap_setCell, if_pos rfl, h.ev]
  rfl

theorem UpsAt.shape {w : World} {v : Value} {us : List Up} (h : UpsAt w v us) : ∀ u ∈ us, ∃ a c, u.cv = .slice a u.ch.length c := by
  obtain ⟨a, cap, -, -, -, h3⟩ := h
  intro u hu
  obtain ⟨i, hi, rfl⟩ := List.mem_iff_getElem.1 hu
  obtain ⟨b, off, -, -, a2, c2, hcv, -⟩ := h3 i hi
  exact ⟨a2, c2, hcv⟩

theorem UpsAt.chs {w : World} {v : Value} {us : List Up} (h : UpsAt w v us) {u : Up} (hu : u ∈ us) : ChsAt w u.cv u.ch := by
  obtain ⟨a, cap, -, -, -, h3⟩ := h
  obtain ⟨i, hi, rfl⟩ := List.mem_iff_getElem.1 hu
  obtain ⟨b, off, -, hx⟩ := h3 i hi
  exact hx.2

/-- A row that reads as a list of its own length, reads as no other. -/
theorem recOwn {w : World} {base : Nat} {v : Value} {l l' : List Fd} (h : Own w base v l) (hr : RecAt w v l') : Own w base v l' := by
  have hr0 := Own.recAt h
  obtain ⟨a, cap, hv, -, -, h3⟩ := hr0
  obtain ⟨a', cap', hv', -, -, h3'⟩ := hr
  rw [hv] at hv'
  simp only [Value.slice.injEq] at hv'
  obtain ⟨rfl, hl, rfl⟩ := hv'
  have : l = l' := by
    apply List.ext_getElem hl
    intro i h1 h2
    obtain ⟨b, off, e, c0, c1, c2, c3⟩ := h3 i h1
    obtain ⟨b', off', e', d0, d1, d2, d3⟩ := h3' i h2
    rw [e] at e'
    cases e'
    rw [c0] at d0; rw [c1] at d1; rw [c2] at d2; rw [c3] at d3
    cases hx : l[i]; cases hy : l'[i]
    rw [hx] at d0 d1 d2 d3; rw [hy] at d0 d1 d2 d3
    simp at d0 d1 d2 d3
    simp [d0, d1, d2, d3]
  subst this
  exact h

def ApPost (p : Int × List Fd) (ty : ByteArray) (w : World) (e : Ending) (w' : World) : Prop := ∃ fv, e = .returned (aggE ty p.1 fv) ∧ Own w' w.heap.size fv p.2 ∧ Upd [] w w'

set_option maxRecDepth 100000 in
set_option maxHeartbeats 4000000 in
theorem apply_ok (v : Value) (us : List Up) (ty : ByteArray) (ver : Int) (fv : Value) (r : List Fd) (w : World) (hu : UpsAt w v us) (hr : RecAt w fv r) (hl : (max r.length 16 + 1) * 48 ≤ 140737488355328) (hus : us.length ≤ 9223372036854775806)
    (hT : Tab w) (hN : ∀ x ∈ r, FitN x) (hC : ∀ u ∈ us, ∀ c ∈ u.ch, FitN c.f) (hv : -9223372036854775808 ≤ ver ∧ ver ≤ 9223372036854775807) :
    Calls Tryz.prog 21 #[v, aggE ty ver fv] w (ApPost (applyU us ty ver r) ty w) := by
  have HSh := Lib.hid hu.shape
  have HUs := Lib.hid (fun (W : World) (u : Upd [] w W) => hu.keep u)
  have HFv := Lib.hid (fun (W : World) (u : Upd [] w W) => hr.keep u)
  have HT := Lib.hid hT
  have HN := Lib.hid hN
  have HC := Lib.hid hC
  have HV := Lib.hid hv
  have u0 : Upd [] w ((w.alloc (boxE ty ver fv)).alloc (boxE ByteArray.empty 0 (.slice none 0 0))) := ((Upd.refl [] w).alloc _).alloc _
  have be0 : ((w.alloc (boxE ty ver fv)).alloc (boxE ByteArray.empty 0 (.slice none 0 0))).heap[w.heap.size]? = some (boxE ty ver fv) := by rw [heap_alloc, if_neg (by simp), heap_alloc, if_pos rfl]
  have br0 : ((w.alloc (boxE ty ver fv)).alloc (boxE ByteArray.empty 0 (.slice none 0 0))).heap[w.heap.size + 1]? = some (boxE ByteArray.empty 0 (.slice none 0 0)) := by rw [heap_alloc, if_pos (by simp)]
  have HB := Lib.hid (byKey_ok v us _ (hu.keep u0))
  have H0 := Lib.hid (And.intro u0 (And.intro be0 br0))
  obtain ⟨ua, ucap, rfl, -, -, -⟩ := hu
  obtain ⟨fa, fcap, rfl, -, -⟩ := hr.isSlice
  clear u0 be0 br0 hr hT hN hC hv
  go_enter Tryz.func21, Tryz.ntmps21
  go_wp2_with fail
  refine HB.out.mono ?_
  rintro e w1 ⟨b, rfl, hb, hm, hu1⟩
  have be1 := (hu1.block w.heap.size (lt_of_blk H0.out.2.1) (by simp)).trans H0.out.2.1
  have br1 := (hu1.block (w.heap.size + 1) (lt_of_blk H0.out.2.2) (by simp)).trans H0.out.2.2
  have HU1 : Hid (Upd [] w w1) := Lib.hid (H0.out.1.trans hu1)
  have hb2 : w.heap.size + 2 ≤ b := by simpa using hb
  have HM := Lib.hid hm
  have HE1 := Lib.hid (And.intro be1 br1)
  have e2 : w1.cell? ⟨w.heap.size, 2, none⟩ = some (.slice fa r.length fcap) := cell_blk be1 2
  clear hu1 hm be1 br1 hb HB
  go_wp2_with fail
  refine (clone_ok _ r w1 (HFv.out _ HU1.out) (by omega)).mono ?_
  rintro e w2 ⟨fv2, rfl, ho2, hu2⟩
  replace ho2 : Own w2 w1.heap.size fv2 r := ho2
  have hsz1 : w.heap.size + 2 ≤ w1.heap.size := lt_of_blk HE1.out.2
  have be2 := (hu2.block w.heap.size (lt_of_blk HE1.out.1) (by simp)).trans HE1.out.1
  have br2 := (hu2.block (w.heap.size + 1) (lt_of_blk HE1.out.2) (by simp)).trans HE1.out.2
  have HU2 : Hid (Upd [] w w2) := Lib.hid (HU1.out.trans hu2)
  have HM2 : Hid (MapU w2 b us) := Lib.hid (HM.out.upd hu2 (by simp))
  have HO2 : Hid (Own w2 (w.heap.size + 2) fv2 r) := Lib.hid (own_mono ho2 hsz1)
  have HE2 := Lib.hid (And.intro be2 br2)
  have e2' : w2.cell? ⟨w.heap.size, 2, none⟩ = some (.slice fa r.length fcap) := cell_blk be2 2
  have fz2 := frozen_blk be2
  obtain ⟨fa2, fcap2, rfl, -, -⟩ := ho2.recAt.isSlice
  clear hu2 ho2 be2 br2 HM e2
  have hES0 : ∀ W, W.Alike (w2.setCell ⟨w.heap.size, 2, none⟩ (.slice fa2 r.length fcap2)) → ES w W us b ty ver (.slice fa2 r.length fcap2) r := fun W hW => by
    have u : Upd [w.heap.size] w2 W := ((Upd.refl _ _).setCell (by simp) _ _).alike hW
    refine ⟨?_, (u.block _ (lt_of_blk HE2.out.2) (by simp)).trans HE2.out.2, own_upd HO2.out u (fun k hk q => by simp at hk; subst hk; have := (World.ownsRow.lt HO2.out _ q).1; omega), HM2.out.upd u (by simp; omega), hb2, (HU2.out.setCellNew (Nat.le_refl _) _ _).alike hW⟩
    rw [hW.1, heap_setCell, if_pos rfl, HE2.out.1]
    rfl
  have HES0 := Lib.hid hES0
  clear hES0 H0 HE1 HU1
  go_wp2_with fail
  go_loopg [6, 7, 9] us.length (fun n _ _ _ wr => ∃ (k : Nat) (ver' : Int) (r' : List Fd) (fv' : Value), k ≤ us.length ∧ n = us.length - k ∧ Hid (ver' = verAt ver k) ∧ Hid (ES w wr us b ty ver' fv' r') ∧ Hid (stepU us ty (us.length + 1 - k) ver' r' = applyU us ty ver r) ∧ Hid (∀ j, j < k → (findU us ty (verAt ver j)).isSome = true) ∧ r'.length ≤ max r.length 16 ∧ Hid (∀ x ∈ r', FitN x))
  case atStart => exact ⟨0, ver, r, _, by omega, rfl, Lib.hid (verAt_zero HV.out).symm, Lib.hid (HES0.out _ (alike_refl _)), Lib.hid rfl, Lib.hid (fun j hj => by omega), by omega, HN⟩
  case round =>
    obtain ⟨k, ver', r', fv', hk, rfl, hver, hES, hstep, hfound, hlr, hfit⟩ := hrel
    have e0 : wr.cell? ⟨w.heap.size, 0, none⟩ = some (.string ty) := cell_blk hES.out.ev 0
    have e1 : wr.cell? ⟨w.heap.size, 1, none⟩ = some (.int .i64 ver') := cell_blk hES.out.ev 1
    have e2 : wr.cell? ⟨w.heap.size, 2, none⟩ = some fv' := cell_blk hES.out.ev 2
    have hlk := hES.out.map.look ty ver'
    have hlt0 := lt_of_blk hES.out.res
    have hltA := lt_of_blk hES.out.ev
    have hneA : w.heap.size ≠ wr.heap.size := by omega
    have hneB : w.heap.size + 1 ≠ wr.heap.size := by omega
    obtain ⟨fa', fcap', rfl, -, -⟩ := hES.out.own.recAt.isSlice
    have hst : stepU us ty (us.length + 1 - k) ver' r' = match findU us ty ver' with
      | none => (ver', r')
      | some u => stepU us ty (us.length - k) (wrap64 (ver' + 1)) (u.ch.foldl doneF r') := by
      rw [show us.length + 1 - k = (us.length - k) + 1 by omega]; rfl
    rw [hstep.out] at hst
    have HST := Lib.hid hst
    clear hst hstep
    cases hf : findU us ty ver' with
    | none =>
      rw [hf] at hlk HST
      have r0 : wr.cell? ⟨w.heap.size + 1, 0, none⟩ = some (.string ByteArray.empty) := cell_blk hES.out.res 0
      have r1 : wr.cell? ⟨w.heap.size + 1, 1, none⟩ = some (.int .i64 0) := cell_blk hES.out.res 1
      have r2 : wr.cell? ⟨w.heap.size + 1, 2, none⟩ = some (.slice none 0 0) := cell_blk hES.out.res 2
      have rfz := frozen_blk hES.out.res
      go_wp2_with fail
      try simp only [Exit.inBlock, Exit.then]
      refine bodyPost_ret (by simp [results, Tryz.results21, go_sem, World.cell?_setCell_same _ _ _ r0, r1, r2, hlt0]; try rfl) rfl ?_
      have u := fun a b c d => ((((Upd.refl [w.heap.size + 1] wr).setCell (b := w.heap.size + 1) (by simp) 0 a).setCell (b := w.heap.size + 1) (by simp) 1 b).setCell (b := w.heap.size + 1) (by simp) 2 c).alloc d
      exact ⟨_, by rw [HST.out], by rw [HST.out]; exact own_mono (own_upd hES.out.own (u _ _ _ _) (fun k hk q => by simp at hk; subst hk; have := (hES.out.own.lt _ q).1; omega)) (by omega), (((hES.out.upd.setCellNew (by omega) 0 _).setCellNew (by omega) 1 _).setCellNew (by omega) 2 _).alloc _⟩
    | some u =>
      rw [hf] at hlk HST
      obtain ⟨ca, cc, hcv⟩ := HSh.out u (findU_mem hf).1
      have HMem := Lib.hid (findU_mem hf).1
      have hfound2 : Hid (∀ j, j < k + 1 → (findU us ty (verAt ver j)).isSome = true) := Lib.hid (fun j hj => by
        rcases Nat.lt_or_ge j k with h | h
        · exact hfound.out j h
        · have : j = k := by omega
          subst this
          rw [← hver.out, hf]; rfl)
      have hk1 := rounds_le hus (by omega) hfound2.out
      have hES1 : Hid (ES w (wr.alloc (boxU u)) us b ty ver' (.slice fa' r'.length fcap') r') := Lib.hid (hES.out.keep ((Upd.refl [] wr).alloc _))
      have HUC := Lib.hid (HC.out u (findU_mem hf).1)
      have HUch := Lib.hid (fun (W : World) (x : Upd [] w W) => (HUs.out W x).chs (findU_mem hf).1)
      obtain ⟨uty, ufr, ucv, uch⟩ := u
      dsimp only at hcv
      subst hcv
      clear hf hfound
      go_wp2_with fail
      clear hES e0 e1 e2 hlk
      have hcc : uch.length ≤ 9223372036854775807 := by
        obtain ⟨_, _, hv, q1, q2, -⟩ := HUch.out w (Upd.refl _ _)
        simp only [Value.slice.injEq] at hv
        unfold maxLen at q2
        omega
      go_loopg [9, 32] uch.length (fun n2 _ i2 wr2 => ∃ (j : Nat) (fv3 : Value), i2 = .int .i64 j ∧ j ≤ uch.length ∧ n2 = uch.length - j ∧ Hid (ES w wr2 us b ty ver' fv3 ((uch.take j).foldl doneF r')))
      case atStart => exact ⟨0, _, rfl, by omega, rfl, hES1⟩
      case round =>
        obtain ⟨j, fv3, rfl, hj, rfl, hE3⟩ := hrel
        have hlt0 := lt_of_blk hE3.out.res
        have hltA := lt_of_blk hE3.out.ev
        by_cases hjl : j < uch.length
        · have hlt : (j : Int) < (uch.length : Int) := by omega
          have hdj : Hid ((uch.take (j + 1)).foldl doneF r' = doneF ((uch.take j).foldl doneF r') uch[j]) := Lib.hid (by
            rw [List.take_add_one, List.getElem?_eq_getElem hjl, List.foldl_append]
            rfl)
          have hcj := Lib.hid (HUC.out uch[j] (List.getElem_mem hjl))
          obtain ⟨_, _, hv, q1, q2, hch⟩ := HUch.out wr hE3.out.upd
          simp only [Value.slice.injEq] at hv
          obtain ⟨rfl, -, rfl⟩ := hv
          obtain ⟨cb, coff, rfl, hca⟩ := hch j hjl
          obtain ⟨d0, d1, d2, d3, d4, d5, d6⟩ := hca
          have hcblt : cb < wr.heap.size := World.block_lt_of_cell? _ _ d0
          have e2 : wr.cell? ⟨w.heap.size, 2, none⟩ = some fv3 := cell_blk hE3.out.ev 2
          have hrl := foldF_length (uch.take j) r' (max r.length 16) hlr (by omega)
          have hrf := Lib.hid (foldF_fit (uch.take j) r' hfit.out (fun c hc => HUC.out c (List.mem_of_mem_take hc)))
          obtain ⟨fa3, fcap3, rfl, -, -⟩ := hE3.out.own.recAt.isSlice
          generalize uch[j] = c at *
          obtain ⟨kd, cnm, to, ⟨fnm, ftx, cn, fs⟩⟩ := c
          dsimp only at d0 d1 d2 d3 d4 d5 d6
          generalize (uch.take j).foldl doneF r' = rj at *
          clear hch q1
          go_wp2_with fail
          have hE4 : ES w (wr.alloc (boxC ⟨kd, cnm, to, ⟨fnm, ftx, cn, fs⟩⟩)) us b ty ver' (.slice fa3 rj.length fcap3) rj := hE3.out.keep ((Upd.refl [] wr).alloc _)
          have hD := done_ok (.slice fa3 rj.length fcap3) rj ⟨kd, cnm, to, ⟨fnm, ftx, cn, fs⟩⟩ _ hE4.own.recAt (by omega) (HT.out.upd hE4.upd) hrf.out
          refine hD.mono ?_
          rintro e w5 ⟨fv5, rfl, hr5, hv5, hu5⟩
          have hE5 := hE4.keep hu5
          have ho5 : Own w5 (w.heap.size + 2) fv5 (doneF rj ⟨kd, cnm, to, ⟨fnm, ftx, cn, fs⟩⟩) := by
            rcases hv5 with rfl | ho
            · exact recOwn hE5.own hr5
            · exact own_mono ho (by have := hE4.res; have := lt_of_blk this; omega)
          have e25 : w5.cell? ⟨w.heap.size, 2, none⟩ = some (.slice fa3 rj.length fcap3) := cell_blk hE5.ev 2
          have fz5 := frozen_blk hE5.ev
          have hlt5 := lt_of_blk hE5.ev
          obtain ⟨fa5, fcap5, rfl, -, -⟩ := hr5.isSlice
          have HE6 : Hid (∀ W, W.Alike (w5.setCell ⟨w.heap.size, 2, none⟩ (.slice fa5 (doneF rj ⟨kd, cnm, to, ⟨fnm, ftx, cn, fs⟩⟩).length fcap5)) → ES w W us b ty ver' (.slice fa5 (doneF rj ⟨kd, cnm, to, ⟨fnm, ftx, cn, fs⟩⟩).length fcap5) (doneF rj ⟨kd, cnm, to, ⟨fnm, ftx, cn, fs⟩⟩)) := Lib.hid fun W hW => hE5.setF ho5 hW
          clear hE4 hD hr5 hv5 hu5 hE5 ho5 hE3
          have hdj2 := hdj
          generalize doneF rj ⟨kd, cnm, to, ⟨fnm, ftx, cn, fs⟩⟩ = rn at *
          go_wp2_with fail
          go_roundg (uch.length - (j + 1))
          case measure => omega
          case rel => exact ⟨j + 1, _, by go_num, by omega, rfl, Lib.hid (by rw [hdj2.out]; exact HE6.out _ (alike_refl _))⟩
        · have hlt : ¬ (j : Int) < (uch.length : Int) := by omega
          have hje : uch.take j = uch := List.take_of_length_le (by omega)
          rw [hje] at hE3
          have e1 : wr.cell? ⟨w.heap.size, 1, none⟩ = some (.int .i64 ver') := cell_blk hE3.out.ev 1
          have fz := frozen_blk hE3.out.ev
          have hlr2 := foldF_length uch r' (max r.length 16) hlr (by omega)
          have hfit2 := Lib.hid (foldF_fit uch r' hfit.out HUC.out)
          have hstep2 : Hid (stepU us ty (us.length + 1 - (k + 1)) (wrap64 (ver' + 1)) (uch.foldl doneF r') = applyU us ty ver r) := Lib.hid (by rw [show us.length + 1 - (k + 1) = us.length - k by omega]; exact HST.out.symm)
          have hver2 : Hid (wrap64 (ver' + 1) = verAt ver (k + 1)) := Lib.hid (by rw [hver.out, verAt_succ])
          clear HST
          go_wp2_with fail
          go_roundg (us.length - (k + 1))
          case measure => omega
          case rel => exact ⟨k + 1, wrap64 (ver' + 1), _, _, by omega, rfl, hver2, Lib.hid (hE3.out.setV (alike_refl _)), hstep2, hfound2, hlr2, hfit2⟩
end Go.Proofs.YtajppgngoffonaaGreatDoor.U
