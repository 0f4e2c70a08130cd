/- Records: parts of a record; the document's Drop. -/
import Derived.Test.YtdokpfgdddfdfaaDoorRec4
namespace Go.Proofs.YtdokpfgdddfdfaaDoor
open Go.RowKit

theorem src_nil (w : World) (A : Option Addr) : Src w A [] := ⟨fun _ => rfl, fun _ _ j u h => by simp [flatF] at h⟩

theorem RecAt.cells {w : World} {b off n cap : Nat} {l : List Fd} (h : RecAt w (.slice (some ⟨b, off, none⟩) n cap) l) : n = l.length ∧ ∀ i (hi : i < l.length), FAt w b (off + i * 4) l[i] := by
  obtain ⟨a', cap', hv, h1, h2, h3⟩ := h
  simp only [Value.slice.injEq] at hv
  obtain ⟨rfl, rfl, rfl⟩ := hv
  refine ⟨rfl, fun i hi => ?_⟩
  obtain ⟨b', off', e, hf⟩ := h3 i hi
  cases e
  exact hf

/-- The record up to i. -/
theorem rec_hi {w : World} {v : Value} {l : List Fd} (h : RecAt w v l) (l1 l2 : List Fd) (hl : l = l1 ++ l2) :
    ∃ A c, (∀ W : World, (Instr.slice 24 v none (some (.int .i64 l1.length)) none).run Tryd.prog W = .ok (.slice A l1.length c) W) ∧ ∀ W : World, RecAt W v l → Src W A l1 := by
  subst hl
  obtain ⟨a, cap, rfl, h1, h2, h3⟩ := h
  unfold maxLen at h2
  cases a with
  | none =>
    have hn : l1 = [] ∧ l2 = [] := by
      cases e : l1 ++ l2 with
      | nil => simpa using e
      | cons x l => obtain ⟨b, off, q, _⟩ := h3 0 (by rw [e]; simp); cases q
    obtain ⟨rfl, rfl⟩ := hn
    refine ⟨none, cap, fun W => ?_, fun W _ => src_nil _ _⟩
    rw [run_slice_h (w := W) 24 none _ cap elem24 .i64 _ (by omega) (by simp), size24]
    simp [Result.andThen, sliced]
  | some ad =>
    refine ⟨_, cap, fun W => slice_hi ad _ cap l1.length (by simp at h1; omega) W, fun W hW => ⟨fun q => by simp at q, fun ad' q j u hu => ?_⟩⟩
    have hpos : 0 < (l1 ++ l2).length := by
      cases l1 with
      | nil => simp [flatF] at hu
      | cons x l => simp
    obtain ⟨b, off, e, _⟩ := h3 0 hpos
    cases e
    have hc := hW.cells.2
    have hq : ad' = ⟨b, off, none⟩ := by
      simp only [Option.some.injEq] at q
      rw [← q, if_neg (by omega), Go.WideShapes.add_plain]; simp
    subst hq
    have := src_part (l1 := []) (l2 := l1) (l3 := l2) (fun i hi => by simpa using hc i (by simpa using hi)) j u hu
    simpa using this

/-- The record from i on. -/
theorem rec_lo {w : World} {v : Value} {l : List Fd} (h : RecAt w v l) (l1 l2 : List Fd) (hl : l = l1 ++ l2) :
    ∃ A c, (∀ W : World, (Instr.slice 24 v (some (.int .i64 l1.length)) none none).run Tryd.prog W = .ok (.slice A l2.length c) W) ∧ ∀ W : World, RecAt W v l → Src W A l2 := by
  subst hl
  obtain ⟨a, cap, rfl, h1, h2, h3⟩ := h
  unfold maxLen at h2
  cases a with
  | none =>
    have hn : l1 = [] ∧ l2 = [] := by
      cases e : l1 ++ l2 with
      | nil => simpa using e
      | cons x l => obtain ⟨b, off, q, _⟩ := h3 0 (by rw [e]; simp); cases q
    obtain ⟨rfl, rfl⟩ := hn
    refine ⟨none, cap, fun W => ?_, fun W _ => src_nil _ _⟩
    rw [run_slice_l (w := W) 24 none _ cap elem24 .i64 _ (by simp) (by simp), size24]
    simp [Result.andThen, sliced]
  | some ad =>
    refine ⟨some (if cap = l1.length then ad else ad.add (l1.length * 4)), cap - l1.length, fun W => ?_, fun W hW => ⟨fun q => by simp at q, fun ad' q j u hu => ?_⟩⟩
    · have := slice_lo ad (l1 ++ l2).length cap l1.length (by simp) W
      rw [show (l1 ++ l2).length - l1.length = l2.length by simp] at this
      exact this
    have hpos : 0 < l2.length := by
      cases l2 with
      | nil => simp [flatF] at hu
      | cons x l => simp
    obtain ⟨b, off, e, _⟩ := h3 0 (by simp; omega)
    cases e
    have hc := hW.cells.2
    have hq : ad' = ⟨b, off + l1.length * 4, none⟩ := by
      simp only [Option.some.injEq] at q
      rw [← q, if_neg (by simp at h1; omega), Go.WideShapes.add_plain]
    subst hq
    exact src_part (l1 := l1) (l2 := l2) (l3 := []) (fun i hi => by simpa using hc i (by simpa using hi)) j u hu

set_option maxRecDepth 100000 in
set_option maxHeartbeats 800000 in
theorem refDrop_ok (v : Value) (l : List Fd) (k : ByteArray) (w : World) (h : RecAt w v l) (hl : l.length * 48 ≤ 140737488355328) : Calls Tryd.prog 36 #[v, .string k] w (OwnPost (dropF l k) w) := by
  have HR := Lib.hid (fun (W : World) (u : Upd [] w W) => h.keep u)
  rcases posF_cases l k with ⟨hp, hn, -⟩ | ⟨i, hi, hp, hk, hn, -⟩
  · rw [dropF_miss hn]
    have HP := Lib.hid hp
    obtain ⟨a, cap, rfl, -⟩ := h
    clear hp hn
    go_enter Tryd.func36, Tryd.ntmps36
    go_wp2_with fail
    refine (refFind_ok _ l k _ (HR.out _ (Upd.refl _ _))).mono ?_
    rintro e w1 ⟨rfl, rfl⟩
    rw [HP.out]
    go_wp2_with (at_builtin; refine wpList_append_rec rfl _ _ rfl (l := []) rfl (own_empty _) rfl (HR.out _ ((Upd.refl _ _).alloc _)).src.2 ?c1 ?c2 ?_)
    case c1 => simp; omega
    case c2 => simp
    intro v' w1 hown hgrow
    have HO : Hid (Own w1 w.heap.size v' l ∧ Upd [] w w1) := Lib.hid ⟨by simpa using hown, ((Upd.refl [] w).alloc _).grown hgrow (fun k hk => by simp [Value.ownBlock] at hk; omega)⟩
    clear hown hgrow
    go_wp2_with fail
    go_ret
    exact ⟨_, rfl, HO.out.1, HO.out.2⟩
  · have hsp : l = l.take i ++ l[i] :: l.drop (i + 1) := by rw [List.getElem_cons_drop]; simp
    have hn' : ∀ y ∈ l.take i, y.nm ≠ k := fun y hy => by
      obtain ⟨j, hj, rfl⟩ := List.mem_iff_getElem.1 hy
      rw [List.getElem_take]
      exact hn j (by rw [List.length_take] at hj; omega)
    have hlen : (l.take i).length = i := by simp; omega
    generalize l.take i = l1 at *
    generalize l[i] = x at *
    generalize l.drop (i + 1) = l2 at *
    subst hsp
    rw [dropF_hit hn' hk]
    subst hlen
    obtain ⟨A1, q1, hs1, hS1⟩ := rec_hi h l1 (x :: l2) rfl
    obtain ⟨A2, q2, hs2, hS2⟩ := rec_lo h (l1 ++ [x]) l2 (by simp)
    rw [show ((l1 ++ [x]).length : Int) = (l1.length : Int) + 1 by simp] at hs2
    have HP := Lib.hid hp
    have HS1 := Lib.hid hS1
    have HS2 := Lib.hid hS2
    have hlen2 : (l1 ++ x :: l2).length = l1.length + 1 + l2.length := by simp; omega
    rw [hlen2] at hl
    obtain ⟨a, cap, rfl, -⟩ := h
    clear hp hn hn' hS1 hS2 hk hi
    generalize (l1 ++ x :: l2).length = n at *
    have hle : l1.length + 1 ≤ n := by omega
    clear hlen2
    go_enter Tryd.func36, Tryd.ntmps36
    go_wp2_with fail
    have hF := refFind_ok (.slice a n cap) (l1 ++ x :: l2) k w (HR.out w (Upd.refl _ _))
    rw [HP.out] at hF
    refine hF.mono ?_
    rintro e w1 ⟨rfl, rfl⟩
    clear HP hF
    go_wp2_with fail
    have hwr : IntKind.i64.wrap ((l1.length : Int) + 1) = (l1.length : Int) + 1 := IntWalk.i64_in _ (by omega)
    go_region_held3 (fun _ => True)
      (exact trivial)
      (first
        | (refine step_append_rec (by rfl) _ _ (by rfl) (base := w.heap.size) (v := .slice (some ⟨w.heap.size, 0, none⟩) 0 0) (l := []) (A := A1) (c := q1) (r := l1) (by rfl) (by exact (own_empty w).drew) (by rfl) (by exact HS1.out _ (HR.out _ (((Upd.refl _ _).alloc _).drew))) ?_ ?_ ?_; (simp; omega); (simp); intro v1 w1 hown1 hgrow)
        | (refine step_append_rec (by rfl) _ _ (by rfl) (base := w.heap.size) (v := v1) (l := [] ++ l1) (A := A2) (c := q2) (r := l2) (by rfl) (by exact hown1) (by rfl) (by exact HS2.out _ (HR.out _ ((((Upd.refl _ _).alloc _).drew).grown hgrow (fun k hk => by simp [Value.ownBlock] at hk; omega)))) ?_ ?_ ?_; (simp; omega); (have := hgrow.size; simp at this; omega); intro v2 w2 hown2 hgrow2))
    have u1 : Upd [] w w1 := (((Upd.refl [] w).alloc _).drew).grown hgrow (fun k hk => by simp [Value.ownBlock] at hk; omega)
    have HO : Hid (Own w2 w.heap.size v2 (l1 ++ l2) ∧ Upd [] w w2) := Lib.hid ⟨by simpa using hown2, u1.grown hgrow2 (fun k hk => (hown1.lt k hk).1)⟩
    clear hown2 hgrow2 hgrow hown1 hs1 hs2 hwr u1
    go_wp2
    go_ret
    exact ⟨v2, rfl, HO.out.1, HO.out.2⟩
end Go.Proofs.YtdokpfgdddfdfaaDoor
