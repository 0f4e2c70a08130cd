/- A view of no events: New. -/
import Derived.Deep.RegionHeld3
import Derived.Deep.MidRow
import Derived.Test.YtajppgngoffonaaGreatDoorGPf
import Derived.Test.YtajppgngoffonaaGreatDoorGPw
import Derived.Test.YtajppgngoffonaaGreatDoorGUa
namespace Go.Proofs.YtajppgngoffonaaGreatDoor
open Go.RowKit

section
variable {α : Type} {f : α → List Value} {k bytes : Nat} {st e : TypeId}
/-- A row in a block of the call's own, that is written. -/
def InG (f : α → List Value) (k : Nat) (e : TypeId) (W : World) (va : Option Addr) (base : Nat) (l : List α) : Prop :=
  ∀ i (_ : i < l.length), ∃ g cur, va = some ⟨g, 0, none⟩ ∧ base ≤ g ∧ W.heap[g]? = some (.cells cur e (0, 0)) ∧ CellsAt f W g (i * k) l[i]

theorem OwnG.inG (T : RowT f k bytes st e) {w : World} {base : Nat} {a : Option Addr} {n c : Nat} {l : List α} (h : OwnG f e k w base (.slice a n c) l) : InG f k e w a base l := by
  intro i hi
  obtain ⟨-, -, -, hat⟩ := h.at T
  obtain ⟨g, rfl, hb, -, hc⟩ := hat i hi
  rcases h.2 with ⟨hv, -⟩ | ⟨g', cap, cur, hv, -, hh, -⟩
  · cases hv
  · simp only [Value.slice.injEq, Option.some.injEq, Addr.mk.injEq] at hv
    obtain ⟨⟨rfl, -, -⟩, -, -⟩ := hv
    exact ⟨g, cur, rfl, hb, hh, hc⟩

theorem InG.base0 {W : World} {va : Option Addr} {a b : Nat} {l : List α} (h : InG f k e W va a l) (hb : b ≤ a) : InG f k e W va b l := fun i hi => by
  obtain ⟨g, cur, e, h1, r⟩ := h i hi
  exact ⟨g, cur, e, Nat.le_trans hb h1, r⟩

theorem InG.upd {W W' : World} {va : Option Addr} {base : Nat} {l : List α} (h : InG f k e W va base l) {F : List Nat} (u : Upd F W W') (hF : ∀ b ∈ F, b < base) : InG f k e W' va base l := fun i hi => by
  obtain ⟨g, cur, e, hb, hh, hc⟩ := h i hi
  have hn : g ∉ F := fun q => by have := hF g q; omega
  exact ⟨g, cur, e, hb, (u.block g (lt_of_blk hh) hn).trans hh, hc.same (u.block g (lt_of_blk hh) hn)⟩

theorem InG.write {W W' : World} {g : Nat} {base : Nat} {l : List α} (hk : ∀ x, (f x).length = k) (h : InG f k e W (some ⟨g, 0, none⟩) base l) {j : Nat} {y : α} {cur' : Array Value} (h1 : W'.heap[g]? = some (.cells cur' e (0, 0)))
    (h2 : ∀ o, o < j * k ∨ (j + 1) * k ≤ o → W'.cell? ⟨g, o, none⟩ = W.cell? ⟨g, o, none⟩) (h3 : CellsAt f W' g (j * k) y) : InG f k e W' (some ⟨g, 0, none⟩) base (l.set j y) := fun i hi => by
  rw [List.length_set] at hi
  obtain ⟨g', cur, e', hb, hh, hc⟩ := h i hi
  cases e'
  refine ⟨g, cur', rfl, hb, h1, ?_⟩
  by_cases hij : i = j
  · subst hij
    rw [List.getElem_set_self]
    exact h3
  · rw [List.getElem_set_ne (by omega)]
    intro o u hu
    have ho : o < k := by
      rcases Nat.lt_or_ge o k with h | h
      · exact h
      · rw [List.getElem?_eq_none (by rw [hk]; exact h)] at hu; cases hu
    rw [h2 (i * k + o) (by
      rcases Nat.lt_or_ge i j with h | h
      · left
        have : (i + 1) * k ≤ j * k := Nat.mul_le_mul_right _ h
        rw [Nat.succ_mul] at this
        omega
      · right
        have : (j + 1) * k ≤ i * k := Nat.mul_le_mul_right _ (by omega)
        omega)]
    exact hc o u hu
end

theorem X4.range {w : World} {b o : Nat} {x : Xp} (h : X4 w b o x) : w.rangeAt b o [.int .i64 x.kd, .int .i64 x.n, .string x.s, x.av] := fun j v hv => by
  obtain ⟨h0, h1, h2, h3⟩ := h
  match j, hv with
  | 0, hv => cases hv; exact h0
  | 1, hv => cases hv; exact h1
  | 2, hv => cases hv; exact h2
  | 3, hv => cases hv; exact h3
  | j + 4, hv => simp at hv
theorem X4.there {w : World} {b o : Nat} {x : Xp} (hf : ∀ p, w.frozen? ⟨b, p, none⟩ = false) (h : X4 w b o x) : w.there b o 4 := fun j hj => by
  obtain ⟨h0, h1, h2, h3⟩ := h
  refine ⟨?_, hf _⟩
  match j, hj with
  | 0, _ => rw [Nat.add_zero, h0]; rfl
  | 1, _ => rw [h1]; rfl
  | 2, _ => rw [h2]; rfl
  | 3, _ => rw [h3]; rfl
theorem range_keep {w w' : World} (u : Upd [] w w') {b o : Nat} {l : List Value} (h : w.rangeAt b o l) : w'.rangeAt b o l := fun j v hv => cell_keep u (h j v hv)
theorem there_keep {w w' : World} (u : Upd [] w w') {b o n : Nat} (h : w.there b o n) : w'.there b o n := fun j hj => by
  obtain ⟨h1, h2⟩ := h j hj
  obtain ⟨v, hv⟩ := Option.isSome_iff_exists.1 h1
  refine ⟨by rw [cell_keep u hv]; rfl, ?_⟩
  have hb := u.block b (World.block_lt_of_cell? _ _ hv) (by simp)
  unfold World.frozen? at h2 ⊢
  rw [hb]
  exact h2

theorem held_upd {W W' : World} {p B g : Nat} {v0 k1 k2 k3 k4 k5 k6 k7 k8 : Value} (u : Upd [g] W W') (hp : g ≠ p) (hB : g ≠ B)
    (h : W.cell? ⟨p, 1, none⟩ = some v0 ∧ W.cell? ⟨B, 1, none⟩ = some k1 ∧ W.cell? ⟨B, 2, none⟩ = some k2 ∧ W.cell? ⟨B, 3, none⟩ = some k3 ∧ W.cell? ⟨B, 4, none⟩ = some k4 ∧ W.cell? ⟨B, 5, none⟩ = some k5 ∧ W.cell? ⟨B, 6, none⟩ = some k6 ∧ W.cell? ⟨B, 7, none⟩ = some k7 ∧ W.cell? ⟨B, 8, none⟩ = some k8) :
    W'.cell? ⟨p, 1, none⟩ = some v0 ∧ W'.cell? ⟨B, 1, none⟩ = some k1 ∧ W'.cell? ⟨B, 2, none⟩ = some k2 ∧ W'.cell? ⟨B, 3, none⟩ = some k3 ∧ W'.cell? ⟨B, 4, none⟩ = some k4 ∧ W'.cell? ⟨B, 5, none⟩ = some k5 ∧ W'.cell? ⟨B, 6, none⟩ = some k6 ∧ W'.cell? ⟨B, 7, none⟩ = some k7 ∧ W'.cell? ⟨B, 8, none⟩ = some k8 := by
  have e : ∀ q x v, q ≠ g → W.cell? ⟨q, x, none⟩ = some v → W'.cell? ⟨q, x, none⟩ = some v := fun q x v hq hv => (World.cell?_of_block (u.block q (World.block_lt_of_cell? _ _ hv) (by simpa using hq))).trans hv
  obtain ⟨h0, h1, h2, h3, h4, h5, h6, h7, h8⟩ := h
  exact ⟨e _ _ _ hp.symm h0, e _ _ _ hB.symm h1, e _ _ _ hB.symm h2, e _ _ _ hB.symm h3, e _ _ _ hB.symm h4, e _ _ _ hB.symm h5, e _ _ _ hB.symm h6, e _ _ _ hB.symm h7, e _ _ _ hB.symm h8⟩

theorem Upd.set4 {w w' : World} {g : Nat} (o1 o2 o3 o4 : Nat) (v1 v2 v3 v4 : Value) (h : Upd [g] w w') : Upd [g] w ((((w'.setCell ⟨g, o1, none⟩ v1).setCell ⟨g, o2, none⟩ v2).setCell ⟨g, o3, none⟩ v3).setCell ⟨g, o4, none⟩ v4) :=
  (((h.setCell (by simp) _ _).setCell (by simp) _ _).setCell (by simp) _ _).setCell (by simp) _ _

theorem held_drew {W : World} {p B : Nat} {v0 k1 k2 k3 k4 k5 k6 k7 k8 : Value}
    (h : W.cell? ⟨p, 1, none⟩ = some v0 ∧ W.cell? ⟨B, 1, none⟩ = some k1 ∧ W.cell? ⟨B, 2, none⟩ = some k2 ∧ W.cell? ⟨B, 3, none⟩ = some k3 ∧ W.cell? ⟨B, 4, none⟩ = some k4 ∧ W.cell? ⟨B, 5, none⟩ = some k5 ∧ W.cell? ⟨B, 6, none⟩ = some k6 ∧ W.cell? ⟨B, 7, none⟩ = some k7 ∧ W.cell? ⟨B, 8, none⟩ = some k8) :
    W.drew.cell? ⟨p, 1, none⟩ = some v0 ∧ W.drew.cell? ⟨B, 1, none⟩ = some k1 ∧ W.drew.cell? ⟨B, 2, none⟩ = some k2 ∧ W.drew.cell? ⟨B, 3, none⟩ = some k3 ∧ W.drew.cell? ⟨B, 4, none⟩ = some k4 ∧ W.drew.cell? ⟨B, 5, none⟩ = some k5 ∧ W.drew.cell? ⟨B, 6, none⟩ = some k6 ∧ W.drew.cell? ⟨B, 7, none⟩ = some k7 ∧ W.drew.cell? ⟨B, 8, none⟩ = some k8 := h

/-- What a loop over the sums has done. -/
structure NewS (w w1 wr : World) (va : Option Addr) (j : Nat) (sums l : List Sm) : Prop where
  len : l.length = sums.length
  row : InG cellsSm 9 56 wr va (w.heap.size + 1) l
  new : ∀ i (h : i < l.length), i < j → LikeS (sums[i]'(by omega)) l[i] ∧ KidsIn wr w1.heap.size wr.heap.size l[i].key.av l[i].key.kids ∧ KidsIn wr w1.heap.size wr.heap.size l[i].add.av l[i].add.kids
  old : ∀ i (h : i < l.length), j ≤ i → l[i] = sums[i]'(by omega)
  upd : Upd [] w wr
  sz : w1.heap.size ≤ wr.heap.size
  gap : ∀ g, va = some ⟨g, 0, none⟩ → g < w1.heap.size

theorem setCells_block (b : Nat) : ∀ (vs : List Value) (o : Nat) (w : World) {cur : Array Value} {e : TypeId} {f : Nat × Nat}, w.heap[b]? = some (.cells cur e f) → ∃ cur', (w.setCells b o vs).heap[b]? = some (.cells cur' e f)
  | [], _, _, cur, _, _, h => ⟨cur, h⟩
  | v :: r, o, w, cur, e, f, h => setCells_block b r (o + 1) (w.setCell ⟨b, o, none⟩ v) (by rw [heap_setCell, if_pos rfl, h]; rfl)
theorem Upd.setCells {F : List Nat} {b : Nat} (hb : b ∈ F) : ∀ (vs : List Value) (o : Nat) {w w' : World}, Upd F w w' → Upd F w (w'.setCells b o vs)
  | [], _, _, _, h => h
  | v :: r, o, w, w', h => Upd.setCells hb r (o + 1) (h.setCell hb o v)

theorem some_at {w : World} {g o : Nat} {s : Sm} (h : Sm9 w g o s) (k : Nat) (hk : k < 9) : (w.cell? ⟨g, o + k, none⟩).isSome = true := by
  have : k < (cellsSm s).length := hk
  rw [h k _ (List.getElem?_eq_getElem this)]
  rfl

theorem NewS.step {w w2 wr w6 : World} {g j : Nat} {sums l : List Sm} {ty : ByteArray} {x5 x6 y5 y6 : Xp} (h : NewS w w2 wr (some ⟨g, 0, none⟩) j sums l) (u6 : Upd [] wr w6) (hj : j < sums.length) (hs : Sm9 wr g (j * 9) ⟨ty, y5, y6⟩) (hg0 : w.heap.size + 1 ≤ g)
    (hl : LikeS sums[j] ⟨ty, x5, x6⟩) (hk5 : KidsIn w6 wr.heap.size w6.heap.size x5.av x5.kids) (hk6 : KidsIn w6 wr.heap.size w6.heap.size x6.av x6.kids) :
    NewS w w2 ((w6.setCells g (j * 9 + 1) [.int .i64 x5.kd, .int .i64 x5.n, .string x5.s, x5.av]).setCells g (j * 9 + 5) [.int .i64 x6.kd, .int .i64 x6.n, .string x6.s, x6.av]) (some ⟨g, 0, none⟩) (j + 1) sums (l.set j ⟨ty, x5, x6⟩) := by
  have hg2 := h.gap g rfl
  have hgr : g < wr.heap.size := by have := h.sz; omega
  have hs6 : Sm9 w6 g (j * 9) ⟨ty, y5, y6⟩ := cells_keep u6 hs
  have hi1 : ∀ i, i < 4 → (w6.cell? ⟨g, j * 9 + 1 + i, none⟩).isSome = true := fun i hi => by rw [Nat.add_assoc]; exact some_at hs6 (1 + i) (by omega)
  have hu7 : Upd [g] w6 ((w6.setCells g (j * 9 + 1) [.int .i64 x5.kd, .int .i64 x5.n, .string x5.s, x5.av]).setCells g (j * 9 + 5) [.int .i64 x6.kd, .int .i64 x6.n, .string x6.s, x6.av]) := Upd.setCells (by simp) _ _ (Upd.setCells (by simp) _ _ (Upd.refl _ _))
  have hout1 : ∀ p, p < j * 9 + 1 ∨ j * 9 + 5 ≤ p → (w6.setCells g (j * 9 + 1) [.int .i64 x5.kd, .int .i64 x5.n, .string x5.s, x5.av]).cell? ⟨g, p, none⟩ = w6.cell? ⟨g, p, none⟩ := fun p hp => World.cell?_setCells_out g _ _ _ _ (fun _ _ => by simp only [List.length_cons, List.length_nil]; omega)
  have hi2 : ∀ i, i < 4 → ((w6.setCells g (j * 9 + 1) [.int .i64 x5.kd, .int .i64 x5.n, .string x5.s, x5.av]).cell? ⟨g, j * 9 + 5 + i, none⟩).isSome = true := fun i hi => by
    rw [hout1 _ (by omega), Nat.add_assoc]
    exact some_at hs6 (5 + i) (by omega)
  have hout2 : ∀ p, p < j * 9 + 5 ∨ j * 9 + 9 ≤ p → ((w6.setCells g (j * 9 + 1) [.int .i64 x5.kd, .int .i64 x5.n, .string x5.s, x5.av]).setCells g (j * 9 + 5) [.int .i64 x6.kd, .int .i64 x6.n, .string x6.s, x6.av]).cell? ⟨g, p, none⟩ = (w6.setCells g (j * 9 + 1) [.int .i64 x5.kd, .int .i64 x5.n, .string x5.s, x5.av]).cell? ⟨g, p, none⟩ := fun p hp => World.cell?_setCells_out g _ _ _ _ (fun _ _ => by simp only [List.length_cons, List.length_nil]; omega)
  have hin1 := World.cell?_setCells_in g [.int .i64 x5.kd, .int .i64 x5.n, .string x5.s, x5.av] (j * 9 + 1) w6 hi1
  have hin2 := World.cell?_setCells_in g [.int .i64 x6.kd, .int .i64 x6.n, .string x6.s, x6.av] (j * 9 + 5) (w6.setCells g (j * 9 + 1) [.int .i64 x5.kd, .int .i64 x5.n, .string x5.s, x5.av]) hi2
  have hrow6 : InG cellsSm 9 56 w6 (some ⟨g, 0, none⟩) (w.heap.size + 1) l := h.row.upd u6 (by simp)
  have hjl : j < l.length := by rw [h.len]; exact hj
  obtain ⟨g', cur, e', -, hh6, -⟩ := hrow6 j hjl
  cases e'
  obtain ⟨cur1, hh7⟩ := setCells_block g [.int .i64 x5.kd, .int .i64 x5.n, .string x5.s, x5.av] (j * 9 + 1) w6 hh6
  obtain ⟨cur2, hh8⟩ := setCells_block g [.int .i64 x6.kd, .int .i64 x6.n, .string x6.s, x6.av] (j * 9 + 5) _ hh7
  have hk : ∀ {v : Value} {kids : Ex}, KidsIn w6 w2.heap.size w6.heap.size v kids → KidsIn ((w6.setCells g (j * 9 + 1) [.int .i64 x5.kd, .int .i64 x5.n, .string x5.s, x5.av]).setCells g (j * 9 + 5) [.int .i64 x6.kd, .int .i64 x6.n, .string x6.s, x6.av]) w2.heap.size ((w6.setCells g (j * 9 + 1) [.int .i64 x5.kd, .int .i64 x5.n, .string x5.s, x5.av]).setCells g (j * 9 + 5) [.int .i64 x6.kd, .int .i64 x6.n, .string x6.s, x6.av]).heap.size v kids := fun hkk =>
    (hkk.upd hu7 (Nat.le_refl _) (fun k hk hlo => by simp at hk; omega)).wide (Nat.le_refl _) hu7.size
  refine ⟨by rw [List.length_set]; exact h.len, InG.write smT.len hrow6 hh8 (fun o ho => ?_) (Sm9.of ?_ ?_ ?_), fun i hi hij => ?_, fun i hi hij => ?_, (h.upd.trans u6).next hu7 (fun k hk hlt => by simp at hk; omega), Nat.le_trans h.sz (Nat.le_trans u6.size hu7.size), h.gap⟩
  · rw [hout2 o (by omega), hout1 o (by omega)]
  · rw [hout2 _ (by omega), hout1 _ (by omega)]
    exact hs6 0 _ rfl
  · exact ⟨(hout2 _ (by omega)).trans (hin1 0 (by simp)), (hout2 _ (by omega)).trans (hin1 1 (by simp)), (hout2 _ (by omega)).trans (hin1 2 (by simp)), (hout2 _ (by omega)).trans (hin1 3 (by simp))⟩
  · exact ⟨hin2 0 (by simp), hin2 1 (by simp), hin2 2 (by simp), hin2 3 (by simp)⟩
  · rw [List.length_set] at hi
    by_cases hq : i = j
    · subst hq
      rw [List.getElem_set_self]
      exact ⟨hl, hk (hk5.wide h.sz (Nat.le_refl _)), hk (hk6.wide h.sz (Nat.le_refl _))⟩
    · rw [List.getElem_set_ne (by omega)]
      obtain ⟨q1, q2, q3⟩ := h.new i hi (by omega)
      exact ⟨q1, hk ((q2.upd u6 (Nat.le_refl _) (by simp)).wide (Nat.le_refl _) u6.size), hk ((q3.upd u6 (Nat.le_refl _) (by simp)).wide (Nat.le_refl _) u6.size)⟩
  · rw [List.length_set] at hi
    rw [List.getElem_set_ne (by omega)]
    exact h.old i hi (by omega)

/-- What a loop over the upcasters has done. -/
structure NewU (w w1 wr : World) (va : Option Addr) (j : Nat) (us l : List U.Up) : Prop where
  len : l.length = us.length
  row : InG cellsU 3 61 wr va w.heap.size l
  new : ∀ i (h : i < l.length), i < j → LikeU (us[i]'(by omega)) l[i] ∧ OwnG cellsCh' 66 7 wr w1.heap.size l[i].cv l[i].ch
  old : ∀ i (h : i < l.length), j ≤ i → l[i] = us[i]'(by omega)
  upd : Upd [] w wr
  sz : w1.heap.size ≤ wr.heap.size
  gap : ∀ g, va = some ⟨g, 0, none⟩ → g < w1.heap.size

theorem U.ChsAt.isSl {w : World} {v : Value} {l : List U.Ch} (h : U.ChsAt w v l) : ∃ a c, v = .slice a l.length c := by
  obtain ⟨a, c, e, -⟩ := h
  exact ⟨a, c, e⟩

theorem NewU.step {w w1 wr w5 : World} {g j : Nat} {us l : List U.Up} {ty : ByteArray} {fr : Int} {cv v' : Value} {ch : List U.Ch} (h : NewU w w1 wr (some ⟨g, 0, none⟩) j us l) (u6 : Upd [] wr w5) (hj : j < us.length) (hs : CellsAt cellsU wr g (j * 3) ⟨ty, fr, cv, ch⟩) (hg0 : w.heap.size ≤ g)
    (hu : us[j] = ⟨ty, fr, cv, ch⟩) (ho : OwnG cellsCh' 66 7 w5 wr.heap.size v' ch) :
    NewU w w1 (w5.setCell ⟨g, j * 3 + 2, none⟩ v') (some ⟨g, 0, none⟩) (j + 1) us (l.set j ⟨ty, fr, v', ch⟩) := by
  have hg2 := h.gap g rfl
  have hgr : g < wr.heap.size := by have := h.sz; omega
  have hs6 : CellsAt cellsU w5 g (j * 3) ⟨ty, fr, cv, ch⟩ := cells_keep u6 hs
  have hu7 : Upd [g] w5 (w5.setCell ⟨g, j * 3 + 2, none⟩ v') := (Upd.refl _ _).setCell (by simp) _ _
  have hout : ∀ p, p ≠ j * 3 + 2 → (w5.setCell ⟨g, j * 3 + 2, none⟩ v').cell? ⟨g, p, none⟩ = w5.cell? ⟨g, p, none⟩ := fun p hp => World.cell?_setCell_other _ _ _ _ (by intro e; simp only [Addr.mk.injEq, true_and, and_true] at e; omega)
  have hrow6 : InG cellsU 3 61 w5 (some ⟨g, 0, none⟩) w.heap.size l := h.row.upd u6 (by simp)
  have hjl : j < l.length := by rw [h.len]; exact hj
  obtain ⟨g', cur, e', -, hh6, -⟩ := hrow6 j hjl
  cases e'
  refine ⟨by rw [List.length_set]; exact h.len, InG.write upT.len hrow6 (cur' := cur.setIfInBounds (j * 3 + 2) v') (by rw [heap_setCell, if_pos rfl, hh6]; rfl) (fun o ho => hout o (by omega)) (fun o u hu' => ?_), fun i hi hij => ?_, fun i hi hij => ?_, (h.upd.trans u6).next hu7 (fun k hk hlt => by simp at hk; omega), Nat.le_trans h.sz (Nat.le_trans u6.size hu7.size), h.gap⟩
  · match o, hu' with
    | 0, hu' => cases hu'; exact (hout _ (by omega)).trans (hs6 0 _ rfl)
    | 1, hu' => cases hu'; exact (hout _ (by omega)).trans (hs6 1 _ rfl)
    | 2, hu' => cases hu'; exact World.cell?_setCell_same _ _ _ (hs6 2 _ rfl)
    | o + 3, hu' => simp [cellsU] at hu'
  · rw [List.length_set] at hi
    by_cases hq : i = j
    · subst hq
      rw [List.getElem_set_self]
      exact ⟨by rw [hu]; exact ⟨rfl, rfl, rfl⟩, (ho.upd hu7 (fun k hk q => by simp at hk; subst hk; have := (ho.block _ q).1; omega)).base h.sz⟩
    · rw [List.getElem_set_ne (by omega)]
      obtain ⟨q1, q2⟩ := h.new i hi (by omega)
      exact ⟨q1, (q2.upd u6 (by simp)).upd hu7 (fun k hk q => by simp at hk; subst hk; have := (q2.block _ q).1; omega)⟩
  · rw [List.length_set] at hi
    rw [List.getElem_set_ne (by omega)]
    exact h.old i hi (by omega)

theorem NewS.sums {w w2 wr : World} {va : Option Addr} {vc : Nat} {sums l : List Sm} (h : NewS w w2 wr va sums.length sums l) (h1 : sums.length ≤ vc) (h2 : vc ≤ maxLen) : SumsAt wr (.slice va sums.length vc) l := by
  refine ⟨va, vc, by rw [h.len], by rw [h.len]; exact h1, h2, fun i hi => ?_⟩
  obtain ⟨g, cur, e, -, -, hc⟩ := h.row i hi
  obtain ⟨-, k1, k2⟩ := h.new i hi (by rw [← h.len]; exact hi)
  exact ⟨g, 0, e, by rw [Nat.zero_add]; exact ⟨hc, k1.at, k2.at⟩⟩

theorem chs_of {w : World} {base : Nat} {v : Value} {l : List U.Ch} (h : OwnG cellsCh' 66 7 w base v l) : U.ChsAt w v l := by
  obtain ⟨a, cap, e, h1, h2, h3⟩ := h.sl chT
  refine ⟨a, cap, e, h1, h2, fun i hi => ?_⟩
  obtain ⟨b, off, e', hc⟩ := h3 i hi
  exact ⟨b, off, e', hc 0 _ rfl, hc 1 _ rfl, hc 2 _ rfl, hc 3 _ rfl, hc 4 _ rfl, hc 5 _ rfl, hc 6 _ rfl⟩

theorem NewU.ups {w w1 wr : World} {va : Option Addr} {vc : Nat} {us l : List U.Up} (h : NewU w w1 wr va us.length us l) (h1 : us.length ≤ vc) (h2 : vc ≤ maxLen) : U.UpsAt wr (.slice va us.length vc) l := by
  refine ⟨va, vc, by rw [h.len], by rw [h.len]; exact h1, h2, fun i hi => ?_⟩
  obtain ⟨g, cur, e, -, -, hc⟩ := h.row i hi
  obtain ⟨-, k1⟩ := h.new i hi (by rw [← h.len]; exact hi)
  exact ⟨g, 0, e, by rw [Nat.zero_add]; exact ⟨⟨hc 0 _ rfl, hc 1 _ rfl, hc 2 _ rfl⟩, chs_of k1⟩⟩

def NewPost (nm : ByteArray) (sums : List Sm) (us : List U.Up) (w : World) (e : Ending) (w' : World) : Prop := ∃ W0 vb mb sv' lv' sums' us', e = .returned (.pointer (some ⟨vb, 0, none⟩)) ∧ ViewAt W0 w' vb mb nm sv' lv' sums' us' 0 [] ∧
  sums'.length = sums.length ∧ (∀ i (h : i < sums.length) (h' : i < sums'.length), LikeS sums[i] sums'[i]) ∧ us'.length = us.length ∧ (∀ i (h : i < us.length) (h' : i < us'.length), LikeU us[i] us'[i]) ∧ Upd [] w w' ∧ Upd [] w W0

theorem new_done {nm : ByteArray} {sums l : List Sm} {us m : List U.Up} {w w2 wz w3 wr : World} {va ua : Option Addr} {vc uc : Nat} (hS : NewS w w2 wz va sums.length sums l) (hU : NewU wz w3 wr ua us.length us m) (h1 : sums.length ≤ vc ∧ vc ≤ maxLen) (h2 : us.length ≤ uc ∧ uc ≤ maxLen) :
    NewPost nm sums us w (.returned (.pointer (some ⟨wr.heap.size + 1, 0, none⟩))) ((wr.alloc (.map #[] 0)).alloc (boxVw nm (.slice va sums.length vc) (.slice ua us.length uc) 0 wr.heap.size)) := by
  have u : Upd [] wr ((wr.alloc (.map #[] 0)).alloc (boxVw nm (.slice va sums.length vc) (.slice ua us.length uc) 0 wr.heap.size)) := ((Upd.refl [] wr).alloc _).alloc _
  refine ⟨wr, wr.heap.size + 1, wr.heap.size, _, _, l, m, rfl, ⟨by omega, Nat.le_refl _, by omega, u, (hS.sums h1.1 h1.2).keep hU.upd, hU.ups h2.1 h2.2, by rw [heap_alloc, if_pos (by simp)], RowsAt.of ((World.ownsMap_made wr _ _ _).alloc _), RGood.nil⟩, hS.len, fun i h h' => (hS.new i h' h).1, hU.len, fun i h h' => (hU.new i h' h).1, hS.upd.trans (hU.upd.trans u), hS.upd.trans hU.upd⟩

set_option maxRecDepth 100000 in
set_option maxHeartbeats 1000000 in
theorem new_walk (nm : ByteArray) (sv lv : Value) (sums : List Sm) (us : List U.Up) (w : World) (hs : SumsAt w sv sums) (hu : U.UpsAt w lv us) (hl1 : sums.length * 128 ≤ 140737488355328) (hl2 : us.length * 48 ≤ 140737488355328) (hl3 : ∀ u ∈ us, u.ch.length * 88 ≤ 140737488355328) :
    Calls Tryz.prog 5 #[.agg #[.string nm, sv], lv] w (NewPost nm sums us w) := by
  have HC1 := Lib.hid (fun (W : World) (u : Upd [] w W) => cloneSum_ok sv sums W (SumsAt.keep u hs) hl1)
  have HC2 := Lib.hid (fun (W : World) (u : Upd [] w W) => cloneUpcast_ok lv us W (hu.keep u) hl2)
  have HKS : Hid (∀ s ∈ sums, KidsAt w s.key.av s.key.kids ∧ KidsAt w s.add.av s.add.kids) := Lib.hid fun s hs' => by
    obtain ⟨i, hi, rfl⟩ := List.mem_iff_getElem.1 hs'
    obtain ⟨a, cap, -, -, -, h3⟩ := hs
    obtain ⟨b, off, -, -, h⟩ := h3 i hi
    exact h
  obtain ⟨sa, scap, rfl, -, -, -⟩ := hs
  have HUC : Hid (∀ u ∈ us, U.ChsAt w u.cv u.ch) := Lib.hid fun u hu' => U.UpsAt.chs hu hu'
  obtain ⟨la, lcap, rfl, -, ul2, -⟩ := hu
  unfold maxLen at ul2
  have hmm := @run_makeMap Tryz.prog
  go_enter Tryz.func5, Tryz.ntmps5
  go_wp2_with fail
  refine (HC1.out _ ((Upd.refl [] w).alloc _)).mono ?_
  rintro e w1 ⟨v1, rfl, ho1, hu1⟩
  obtain ⟨va, vc, rfl⟩ := ho1.slice
  have hb := (hu1.block w.heap.size (by simp) (by simp)).trans (show (w.alloc (.cells #[.string nm, .slice sa sums.length scap] 24)).heap[w.heap.size]? = some (.cells #[.string nm, .slice sa sums.length scap] 24 (0, 0)) by rw [heap_alloc, if_pos rfl])
  have c0 := cell_blk hb 0
  have c1 := cell_blk hb 1
  have fz := frozen_blk hb
  have hlt := lt_of_blk hb
  have hu2 : Upd [w.heap.size] w1 (w1.setCell ⟨w.heap.size, 1, none⟩ (.slice va sums.length vc)) := (Upd.refl _ _).setCell (by simp) _ _
  have HN0 : Hid (NewS w (w1.setCell ⟨w.heap.size, 1, none⟩ (.slice va sums.length vc)) (w1.setCell ⟨w.heap.size, 1, none⟩ (.slice va sums.length vc)) va 0 sums sums) := Lib.hid
    ⟨rfl, ((ho1.inG smT).upd hu2 (by simp)).base0 (by simp), fun i _ h => by omega, fun i _ _ => rfl, (((Upd.refl [] w).alloc _).trans hu1).setCellNew (Nat.le_refl _) _ _, Nat.le_refl _, fun g hg => by subst hg; simpa using (ho1.block g rfl).2⟩
  have hcap1 : sums.length ≤ vc ∧ vc ≤ maxLen := ⟨(ho1.at smT).2.1, (ho1.at smT).2.2.1⟩
  have HB0 : Hid ((w1.setCell ⟨w.heap.size, 1, none⟩ (.slice va sums.length vc)).heap[w.heap.size]? = some (.cells #[.string nm, .slice va sums.length vc] 24 (0, 0))) := Lib.hid (by rw [heap_setCell, if_pos rfl, hb]; rfl)
  clear hu2 ho1 hu1 hb
  go_wp2_with fail
  generalize (w1.setCell ⟨w.heap.size, 1, none⟩ (.slice va sums.length vc)) = w2 at *
  go_loopg [16] sums.length (fun q i wr => ∃ (j : Nat) (l : List Sm), i = .int .i64 j ∧ j ≤ sums.length ∧ q = sums.length - j ∧ Hid (NewS w w2 wr va j sums l) ∧ Hid (wr.heap[w.heap.size]? = some (.cells #[.string nm, .slice va sums.length vc] 24 (0, 0))))
  case atStart => exact ⟨0, sums, rfl, by omega, rfl, HN0, HB0⟩
  case round =>
    obtain ⟨j, l, rfl, hj, rfl, HNS, HB⟩ := hrel
    have p1 : wr.cell? ⟨w.heap.size, 1, none⟩ = some (.slice va sums.length vc) := cell_blk HB.out 1
    have hpl := lt_of_blk HB.out
    by_cases hjl : j < sums.length
    · have hlt2 : (j : Int) < (sums.length : Int) := by omega
      obtain ⟨g, cur, rfl, hg0, hgh, hgc⟩ := HNS.out.row j (by rw [HNS.out.len]; exact hjl)
      rw [HNS.out.old j (by rw [HNS.out.len]; exact hjl) (Nat.le_refl _)] at hgc
      obtain ⟨d0, ⟨d1, d2, d3, d4⟩, ⟨d5, d6, d7, d8⟩⟩ := Sm9.all hgc
      obtain ⟨hk1, hk2⟩ := HKS.out sums[j] (List.getElem_mem hjl)
      obtain ⟨ka, kc, hka⟩ := hk1.isSlice
      obtain ⟨aa, ac, haa⟩ := hk2.isSlice
      have hgl := lt_of_blk hgh
      have fzg := frozen_blk hgh
      have HGC := Lib.hid (And.intro hgc (And.intro hgh (And.intro hk1 hk2)))
      clear hgc hgh hk1 hk2
      generalize hsj : sums[j] = s at *
      obtain ⟨ty, ⟨kd, kn, ks, kav, kkids⟩, ⟨ad, an, as_, aav, akids⟩⟩ := s
      dsimp only at d0 d1 d2 d3 d4 d5 d6 d7 d8 hka haa HGC
      subst hka haa
      go_upto_region 5 with (fail)
      change Code.wp _ _ _ _ (wr.alloc (boxSm ⟨ty, ⟨kd, kn, ks, .slice ka kkids.list.length kc, kkids⟩, ⟨ad, an, as_, .slice aa akids.list.length ac, akids⟩⟩))
      have ua : Upd [] wr (wr.alloc (boxSm ⟨ty, ⟨kd, kn, ks, .slice ka kkids.list.length kc, kkids⟩, ⟨ad, an, as_, .slice aa akids.list.length ac, akids⟩⟩)) := (Upd.refl [] wr).alloc _
      have hbW := heap_top wr (boxSm ⟨ty, ⟨kd, kn, ks, .slice ka kkids.list.length kc, kkids⟩, ⟨ad, an, as_, .slice aa akids.list.length ac, akids⟩⟩)
      have cW := cell_blk hbW
      replace p1 := cell_keep ua p1
      have b1 : (wr.alloc (boxSm ⟨ty, ⟨kd, kn, ks, .slice ka kkids.list.length kc, kkids⟩, ⟨ad, an, as_, .slice aa akids.list.length ac, akids⟩⟩)).cell? ⟨wr.heap.size, 1, none⟩ = some (.int .i64 kd) := cW 1
      have b2 : (wr.alloc (boxSm ⟨ty, ⟨kd, kn, ks, .slice ka kkids.list.length kc, kkids⟩, ⟨ad, an, as_, .slice aa akids.list.length ac, akids⟩⟩)).cell? ⟨wr.heap.size, 2, none⟩ = some (.int .i64 kn) := cW 2
      have b3 : (wr.alloc (boxSm ⟨ty, ⟨kd, kn, ks, .slice ka kkids.list.length kc, kkids⟩, ⟨ad, an, as_, .slice aa akids.list.length ac, akids⟩⟩)).cell? ⟨wr.heap.size, 3, none⟩ = some (.string ks) := cW 3
      have b4 : (wr.alloc (boxSm ⟨ty, ⟨kd, kn, ks, .slice ka kkids.list.length kc, kkids⟩, ⟨ad, an, as_, .slice aa akids.list.length ac, akids⟩⟩)).cell? ⟨wr.heap.size, 4, none⟩ = some (.slice ka kkids.list.length kc) := cW 4
      have b5 : (wr.alloc (boxSm ⟨ty, ⟨kd, kn, ks, .slice ka kkids.list.length kc, kkids⟩, ⟨ad, an, as_, .slice aa akids.list.length ac, akids⟩⟩)).cell? ⟨wr.heap.size, 5, none⟩ = some (.int .i64 ad) := cW 5
      have b6 : (wr.alloc (boxSm ⟨ty, ⟨kd, kn, ks, .slice ka kkids.list.length kc, kkids⟩, ⟨ad, an, as_, .slice aa akids.list.length ac, akids⟩⟩)).cell? ⟨wr.heap.size, 6, none⟩ = some (.int .i64 an) := cW 6
      have b7 : (wr.alloc (boxSm ⟨ty, ⟨kd, kn, ks, .slice ka kkids.list.length kc, kkids⟩, ⟨ad, an, as_, .slice aa akids.list.length ac, akids⟩⟩)).cell? ⟨wr.heap.size, 7, none⟩ = some (.string as_) := cW 7
      have b8 : (wr.alloc (boxSm ⟨ty, ⟨kd, kn, ks, .slice ka kkids.list.length kc, kkids⟩, ⟨ad, an, as_, .slice aa akids.list.length ac, akids⟩⟩)).cell? ⟨wr.heap.size, 8, none⟩ = some (.slice aa akids.list.length ac) := cW 8
      have hgW := (ua.block g hgl (by simp)).trans HGC.out.2.1
      have hgB : g ≠ wr.heap.size := by omega
      have hpB : w.heap.size ≠ wr.heap.size := by omega
      have hgp : g ≠ w.heap.size := by omega
      have HW := Lib.hid (And.intro ua hgW)
      have HO1 := Lib.hid (fun (V : World) (u : Upd [] (wr.alloc (boxSm ⟨ty, ⟨kd, kn, ks, .slice ka kkids.list.length kc, kkids⟩, ⟨ad, an, as_, .slice aa akids.list.length ac, akids⟩⟩)) V) => own_ok2 ⟨kd, kn, ks, .slice ka kkids.list.length kc, kkids⟩ V (HGC.out.2.2.1.keep ((HNS.out.upd.trans ua).trans u)))
      have HO2 := Lib.hid (fun (V : World) (u : Upd [] (wr.alloc (boxSm ⟨ty, ⟨kd, kn, ks, .slice ka kkids.list.length kc, kkids⟩, ⟨ad, an, as_, .slice aa akids.list.length ac, akids⟩⟩)) V) => own_ok2 ⟨ad, an, as_, .slice aa akids.list.length ac, akids⟩ V (HGC.out.2.2.2.keep ((HNS.out.upd.trans ua).trans u)))
      have hjg : (0 : Int) ≤ (j : Int) := by omega
      replace d1 := cell_keep ua d1
      replace d2 := cell_keep ua d2
      replace d3 := cell_keep ua d3
      replace d4 := cell_keep ua d4
      replace d5 := cell_keep ua d5
      replace d6 := cell_keep ua d6
      replace d7 := cell_keep ua d7
      replace d8 := cell_keep ua d8
      have hgW2 := lt_of_blk hgW
      have hgWd := hgW
      clear ua hbW cW hgW d0 fzg
      generalize (wr.alloc (boxSm ⟨ty, ⟨kd, kn, ks, .slice ka kkids.list.length kc, kkids⟩, ⟨ad, an, as_, .slice aa akids.list.length ac, akids⟩⟩)) = W at *
      generalize hBB : wr.heap.size = B at *
      go_region_held3 (fun w' => w'.cell? ⟨w.heap.size, 1, none⟩ = some (.slice (some ⟨g, 0, none⟩) sums.length vc) ∧ w'.cell? ⟨B, 1, none⟩ = some (.int .i64 kd) ∧ w'.cell? ⟨B, 2, none⟩ = some (.int .i64 kn) ∧ w'.cell? ⟨B, 3, none⟩ = some (.string ks) ∧ w'.cell? ⟨B, 4, none⟩ = some (.slice ka kkids.list.length kc) ∧ w'.cell? ⟨B, 5, none⟩ = some (.int .i64 ad) ∧ w'.cell? ⟨B, 6, none⟩ = some (.int .i64 an) ∧ w'.cell? ⟨B, 7, none⟩ = some (.string as_) ∧ w'.cell? ⟨B, 8, none⟩ = some (.slice aa akids.list.length ac))
        (first
          | (with_reducible exact ⟨cell_keep hv5 p1, cell_keep hv5 b1, cell_keep hv5 b2, cell_keep hv5 b3, cell_keep hv5 b4, cell_keep hv5 b5, cell_keep hv5 b6, cell_keep hv5 b7, cell_keep hv5 b8⟩)
          | (with_reducible exact ⟨cell_keep hv6 (cell_keep hv5 p1), cell_keep hv6 (cell_keep hv5 b1), cell_keep hv6 (cell_keep hv5 b2), cell_keep hv6 (cell_keep hv5 b3), cell_keep hv6 (cell_keep hv5 b4), cell_keep hv6 (cell_keep hv5 b5), cell_keep hv6 (cell_keep hv5 b6), cell_keep hv6 (cell_keep hv5 b7), cell_keep hv6 (cell_keep hv5 b8)⟩)
          | (with_reducible refine held_upd (W := w6) (g := g) ?_ hgp hgB ⟨cell_keep hv6 (cell_keep hv5 p1), cell_keep hv6 (cell_keep hv5 b1), cell_keep hv6 (cell_keep hv5 b2), cell_keep hv6 (cell_keep hv5 b3), cell_keep hv6 (cell_keep hv5 b4), cell_keep hv6 (cell_keep hv5 b5), cell_keep hv6 (cell_keep hv5 b6), cell_keep hv6 (cell_keep hv5 b7), cell_keep hv6 (cell_keep hv5 b8)⟩; with_reducible exact Upd.set4 _ _ _ _ _ _ _ _ (Upd.refl _ _))
          | (with_reducible refine held_upd (W := w6) (g := g) ?_ hgp hgB ⟨cell_keep hv6 (cell_keep hv5 p1), cell_keep hv6 (cell_keep hv5 b1), cell_keep hv6 (cell_keep hv5 b2), cell_keep hv6 (cell_keep hv5 b3), cell_keep hv6 (cell_keep hv5 b4), cell_keep hv6 (cell_keep hv5 b5), cell_keep hv6 (cell_keep hv5 b6), cell_keep hv6 (cell_keep hv5 b7), cell_keep hv6 (cell_keep hv5 b8)⟩; with_reducible exact Upd.set4 _ _ _ _ _ _ _ _ (Upd.set4 _ _ _ _ _ _ _ _ (Upd.refl _ _)))
          | (with_reducible exact ⟨p1, b1, b2, b3, b4, b5, b6, b7, b8⟩)
          | (with_reducible exact held_drew ⟨p1, b1, b2, b3, b4, b5, b6, b7, b8⟩))
        (first
          | (go_at_call 18; (with_reducible refine (HO1.out _ ?_).mono ?_); (exact ⟨rfl, rfl, Nat.le_refl _, fun _ _ _ => rfl⟩); rintro e w5 ⟨x5d, x5n, x5s, x5a, x5c, x5k, rfl, hx5, hk5, hu5⟩; have hv5 : Upd [] W w5 := ⟨hu5.os, hu5.output, hu5.size, hu5.block⟩; clear hu5)
          | (go_at_call 18; (with_reducible refine (HO2.out _ hv5).mono ?_); rintro e w6 ⟨x6d, x6n, x6s, x6a, x6c, x6k, rfl, hx6, hk6, hv6⟩; have f1 := cell_keep hv6 (cell_keep hv5 d1); have f2 := cell_keep hv6 (cell_keep hv5 d2); have f3 := cell_keep hv6 (cell_keep hv5 d3); have f4 := cell_keep hv6 (cell_keep hv5 d4); have f5 := cell_keep hv6 (cell_keep hv5 d5); have f6 := cell_keep hv6 (cell_keep hv5 d6); have f7 := cell_keep hv6 (cell_keep hv5 d7); have f8 := cell_keep hv6 (cell_keep hv5 d8); have fz6 := frozen_blk ((hv6.block g (Nat.lt_of_lt_of_le hgW2 hv5.size) (by simp)).trans ((hv5.block g hgW2 (by simp)).trans hgWd))))
      have hW6 : Upd [] wr w6 := HW.out.1.trans (hv5.trans hv6)
      have hsB : wr.heap.size ≤ W.heap.size := HW.out.1.size
      have hgB2 : g < w2.heap.size := HNS.out.gap g rfl
      have hnext : NewS w w2 ((w6.setCells g (j * 9 + 1) [.int .i64 x5d, .int .i64 x5n, .string x5s, .slice x5a x5k.list.length x5c]).setCells g (j * 9 + 5) [.int .i64 x6d, .int .i64 x6n, .string x6s, .slice x6a x6k.list.length x6c]) (some ⟨g, 0, none⟩) (j + 1) sums (l.set j ⟨ty, ⟨x5d, x5n, x5s, .slice x5a x5k.list.length x5c, x5k⟩, ⟨x6d, x6n, x6s, .slice x6a x6k.list.length x6c, x6k⟩⟩) :=
        NewS.step (x5 := ⟨x5d, x5n, x5s, .slice x5a x5k.list.length x5c, x5k⟩) (x6 := ⟨x6d, x6n, x6s, .slice x6a x6k.list.length x6c, x6k⟩) HNS.out hW6 hjl HGC.out.1 hg0 (by rw [hsj]; exact ⟨rfl, hx5, hx6⟩) ((hk5.upd hv6 (Nat.le_refl _) (by simp)).wide hsB hv6.size) (hk6.wide (Nat.le_trans hsB hv5.size) (Nat.le_refl _))
      have hpb : ((w6.setCells g (j * 9 + 1) [.int .i64 x5d, .int .i64 x5n, .string x5s, .slice x5a x5k.list.length x5c]).setCells g (j * 9 + 5) [.int .i64 x6d, .int .i64 x6n, .string x6s, .slice x6a x6k.list.length x6c]).heap[w.heap.size]? = some (.cells #[.string nm, .slice (some ⟨g, 0, none⟩) sums.length vc] 24 (0, 0)) :=
        ((Upd.setCells (F := [g]) (by simp) _ _ (Upd.setCells (by simp) _ _ (Upd.refl [g] w6))).block w.heap.size (Nat.lt_of_lt_of_le (lt_of_blk HB.out) hW6.size) (by simpa using fun e => hgp e.symm)).trans ((hW6.block w.heap.size (lt_of_blk HB.out) (by simp)).trans HB.out)
      have HNX := Lib.hid (And.intro hnext hpb)
      clear hnext hpb f1 f2 f3 f4 f5 f6 f7 f8 fz6 d1 d2 d3 d4 d5 d6 d7 d8 b1 b2 b3 b4 b5 b6 b7 b8 p1
      go_wp2_with fail
      go_roundg (sums.length - (j + 1))
      case measure => omega
      case rel => exact ⟨j + 1, _, by go_num, by omega, rfl, Lib.hid HNX.out.1, Lib.hid HNX.out.2⟩
    · have hlt2 : ¬ (j : Int) < (sums.length : Int) := by omega
      go_wp2_with fail
      have hjn : j = sums.length := by omega
      subst hjn
      obtain ⟨wz, rfl⟩ : ∃ x, x = wr := ⟨wr, rfl⟩
      refine (HC2.out wz HNS.out.upd).mono ?_
      rintro e w3 ⟨v2, rfl, ho3, hu3⟩
      obtain ⟨ua, uc, rfl⟩ := ho3.slice
      have HU0 : Hid (NewU wz w3 w3 ua 0 us us) := Lib.hid ⟨rfl, ho3.inG upT, fun i _ h => by omega, fun i _ _ => rfl, hu3, Nat.le_refl _, fun g hg => by subst hg; exact (ho3.block g rfl).2⟩
      have hcap2 : us.length ≤ uc ∧ uc ≤ maxLen := ⟨(ho3.at upT).2.1, (ho3.at upT).2.2.1⟩
      have HU3 := Lib.hid hu3
      clear ho3 hu3
      go_wp2_with fail
      clear HU3 HC1 HC2
      go_loopg [42] us.length (fun q i wt => ∃ (j2 : Nat) (m : List U.Up), i = .int .i64 j2 ∧ j2 ≤ us.length ∧ q = us.length - j2 ∧ Hid (NewU wz w3 wt ua j2 us m))
      case atStart => exact ⟨0, us, rfl, by omega, rfl, HU0⟩
      case round =>
        obtain ⟨j2, m, rfl, hj2, rfl, HNU⟩ := hrel
        by_cases hjl2 : j2 < us.length
        · have hlt3 : (j2 : Int) < (us.length : Int) := by omega
          have hjm : j2 < m.length := by rw [HNU.out.len]; exact hjl2
          obtain ⟨g, cur, rfl, hg0, hgh, hgc⟩ := HNU.out.row j2 hjm
          rw [HNU.out.old j2 hjm (Nat.le_refl _)] at hgc
          have hch := HUC.out us[j2] (List.getElem_mem hjl2)
          have hbd := hl3 us[j2] (List.getElem_mem hjl2)
          obtain ⟨ca, cc, hcv⟩ := hch.isSl
          have d0 : wr.cell? ⟨g, j2 * 3, none⟩ = some (.string us[j2].ty) := hgc 0 _ rfl
          have d1 : wr.cell? ⟨g, j2 * 3 + 1, none⟩ = some (.int .i64 us[j2].fr) := hgc 1 _ rfl
          have d2 : wr.cell? ⟨g, j2 * 3 + 2, none⟩ = some us[j2].cv := hgc 2 _ rfl
          have hgl := lt_of_blk hgh
          have HGC := Lib.hid (And.intro hgc (And.intro hgh hch))
          clear hgc hgh hch
          generalize hsj : us[j2] = s at *
          obtain ⟨ty, fr, cv, ch⟩ := s
          dsimp only at hcv HGC hbd d0 d1 d2
          subst hcv
          have HCC := Lib.hid (fun (V : World) (u : Upd [] wr V) => cloneChange_ok (.slice ca ch.length cc) ch V (HGC.out.2.2.keep (((HNS.out.upd.trans HNU.out.upd)).trans u)) hbd)
          have hub : Upd [] wr (wr.alloc (.cells #[.string ty, .int .i64 fr, .slice ca ch.length cc] 61)) := (Upd.refl [] wr).alloc _
          have HUB := Lib.hid hub
          clear hub
          go_wp2_with fail
          refine (HCC.out _ HUB.out).mono ?_
          rintro e w5 ⟨v5, rfl, ho5, hu5⟩
          obtain ⟨va5, vc5, rfl⟩ := ho5.slice
          have h5 : Upd [] wr w5 := HUB.out.trans hu5
          have f2 : w5.cell? ⟨g, j2 * 3 + 2, none⟩ = some (.slice ca ch.length cc) := cell_keep h5 d2
          have fz5 := frozen_blk ((h5.block g hgl (by simp)).trans HGC.out.2.1)
          have hgl5 : g < w5.heap.size := Nat.lt_of_lt_of_le hgl h5.size
          have hnext := NewU.step HNU.out h5 hjl2 HGC.out.1 hg0 hsj (ho5.base (b := wr.heap.size) HUB.out.size)
          have HNX := Lib.hid hnext
          clear hnext ho5 hu5 h5 d0 d1 d2 HCC HUB
          go_wp2_with fail
          go_roundg (us.length - (j2 + 1))
          case measure => omega
          case rel => exact ⟨j2 + 1, _, by go_num, by omega, rfl, HNX⟩
        · have hlt3 : ¬ (j2 : Int) < (us.length : Int) := by omega
          have hjn : j2 = us.length := by omega
          subst hjn
          have hbx := (HNU.out.upd.block w.heap.size (lt_of_blk HB.out) (by simp)).trans HB.out
          have q0 := cell_blk hbx 0
          have q1 := cell_blk hbx 1
          go_wp2_with fail
          go_ret
          exact new_done HNS.out HNU.out hcap1 hcap2
end Go.Proofs.YtajppgngoffonaaGreatDoor
