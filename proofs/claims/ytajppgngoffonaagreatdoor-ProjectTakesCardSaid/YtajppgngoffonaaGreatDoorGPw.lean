/- Projections, in memory: sums, entries, rows; a view. The library's Clone of sums, upcasters and changes. -/
import Derived.Maps.OwnSet
import Derived.Test.YtajppgngoffonaaGreatDoorGPa
import Derived.Test.YtajppgngoffonaaGreatDoorGEw
import Derived.Test.YtajppgngoffonaaGreatDoorGUa
import Derived.Test.YtajppgngoffonaaGreatDoorGSh
import Derived.Test.YtajppgngoffonaaGreatDoorGHo
namespace Go.Proofs.YtajppgngoffonaaGreatDoor
open Go.RowKit Go.Maps

abbrev cellsSm (s : Sm) : List Value := [.string s.ty, .int .i64 s.key.kd, .int .i64 s.key.n, .string s.key.s, s.key.av, .int .i64 s.add.kd, .int .i64 s.add.n, .string s.add.s, s.add.av]
abbrev aggSm (s : Sm) : Value := .agg #[.string s.ty, .int .i64 s.key.kd, .int .i64 s.key.n, .string s.key.s, s.key.av, .int .i64 s.add.kd, .int .i64 s.add.n, .string s.add.s, s.add.av]
abbrev boxSm (s : Sm) : Obj := .cells #[.string s.ty, .int .i64 s.key.kd, .int .i64 s.key.n, .string s.key.s, s.key.av, .int .i64 s.add.kd, .int .i64 s.add.n, .string s.add.s, s.add.av] 56
abbrev Sm9 (w : World) (b o : Nat) (s : Sm) : Prop := CellsAt cellsSm w b o s
def SmAt (w : World) (b o : Nat) (s : Sm) : Prop := Sm9 w b o s ∧ KidsAt w s.key.av s.key.kids ∧ KidsAt w s.add.av s.add.kids
abbrev SumsAt (w : World) (v : Value) (l : List Sm) : Prop := SlAt 9 SmAt w v l

theorem cells_keep {α : Type} {f : α → List Value} {w w' : World} (u : Upd [] w w') {b o : Nat} {x : α} (h : CellsAt f w b o x) : CellsAt f w' b o x := fun j v hv => cell_keep u (h j v hv)
theorem SmAt.keep {w w' : World} (u : Upd [] w w') {b o : Nat} {s : Sm} (h : SmAt w b o s) : SmAt w' b o s := ⟨cells_keep u h.1, h.2.1.keep u, h.2.2.keep u⟩
theorem SumsAt.keep {w w' : World} (u : Upd [] w w') {v : Value} {l : List Sm} (h : SumsAt w v l) : SumsAt w' v l := SlAt.keep (fun _ _ _ hx => SmAt.keep u hx) h

/-- The nine cells, one by one. -/
theorem Sm9.all {w : World} {b o : Nat} {s : Sm} (h : Sm9 w b o s) : w.cell? ⟨b, o, none⟩ = some (.string s.ty) ∧ X4 w b (o + 1) s.key ∧ X4 w b (o + 5) s.add :=
  ⟨h 0 _ rfl, ⟨h 1 _ rfl, h 2 _ rfl, h 3 _ rfl, h 4 _ rfl⟩, ⟨h 5 _ rfl, h 6 _ rfl, h 7 _ rfl, h 8 _ rfl⟩⟩
theorem Sm9.of {w : World} {b o : Nat} {s : Sm} (h0 : w.cell? ⟨b, o, none⟩ = some (.string s.ty)) (h1 : X4 w b (o + 1) s.key) (h2 : X4 w b (o + 5) s.add) : Sm9 w b o s := fun j u hu => by
  obtain ⟨a0, a1, a2, a3⟩ := h1
  obtain ⟨b0, b1, b2, b3⟩ := h2
  match j, hu with
  | 0, hu => cases hu; exact h0
  | 1, hu => cases hu; exact a0
  | 2, hu => cases hu; exact a1
  | 3, hu => cases hu; exact a2
  | 4, hu => cases hu; exact a3
  | 5, hu => cases hu; exact b0
  | 6, hu => cases hu; exact b1
  | 7, hu => cases hu; exact b2
  | 8, hu => cases hu; exact b3
  | j + 9, hu => simp [cellsSm] at hu

def FitS (s : Sm) : Prop := s.ty.size ≤ 140737488355328 ∧ fitX s.key ∧ fitX s.add

/-- An entry of a log. -/
structure Nt where
  pos : Int
  st : ByteArray
  num : Int
  ty : ByteArray
  ver : Int
  fv : Value
  fs : List Fd

abbrev aggNt (e : Nt) : Value := .agg #[.int .i64 e.pos, .string e.st, .int .i64 e.num, .string e.ty, .int .i64 e.ver, e.fv]
abbrev cellsNt (e : Nt) : List Value := [.int .i64 e.pos, .string e.st, .int .i64 e.num, .string e.ty, .int .i64 e.ver, e.fv]
def NtAt (w : World) (b o : Nat) (e : Nt) : Prop := CellsAt cellsNt w b o e ∧ RecAt w e.fv e.fs
abbrev NtsAt (w : World) (v : Value) (l : List Nt) : Prop := SlAt 6 NtAt w v l
theorem NtAt.keep {w w' : World} (u : Upd [] w w') {b o : Nat} {e : Nt} (h : NtAt w b o e) : NtAt w' b o e := ⟨cells_keep u h.1, h.2.keep u⟩
theorem NtsAt.keep {w w' : World} (u : Upd [] w w') {v : Value} {l : List Nt} (h : NtsAt w v l) : NtsAt w' v l := SlAt.keep (fun _ _ _ hx => NtAt.keep u hx) h

def FitNt (e : Nt) : Prop := In64 e.pos ∧ e.st.size ≤ 140737488355328 ∧ In64 e.ver ∧ (max e.fs.length 16 + 1) * 48 ≤ 140737488355328 ∧ ∀ f ∈ e.fs, OkF f

/-- Rows of a view, in memory. -/
abbrev cellsR (x : Rw) : List Value := [.string x.key, .int .i64 x.n]
abbrev aggRw (x : Rw) : Value := .agg #[.string x.key, .int .i64 x.n]
theorem rowT : RowT cellsR 2 24 30 41 where
  len := fun _ => rfl
  pos := by omega
  und := Tryz.underlying30
  info := by
    obtain ⟨i, h, h1, h2, h3⟩ := info_parts (show (Tryz.prog.info? 41).map (fun i => (i.zero, i.size, i.bytes)) = some (some (.agg #[.string ByteArray.empty, .int .i64 0]), 2, 24) by kernel_rfl)
    exact ⟨i, _, h, h1, h2, h3, rfl⟩
theorem one_R (l : List Rw) : ∀ x ∈ l, ∀ u ∈ cellsR x, u.oneCell' = true := by
  intro x _ u hu
  simp only [cellsR, List.mem_cons, List.not_mem_nil, or_false] at hu
  rcases hu with rfl | rfl <;> rfl

/-- Rows that are read, in a block that is not older than some. -/
def RwIn (w : World) (base : Nat) (v : Value) (L : List Rw) : Prop := SlAt 2 (CellsAt cellsR) w v L ∧ ∀ g, v.ownBlock = some g → base ≤ g

theorem RwIn.nil (w : World) (base : Nat) : RwIn w base (.slice none 0 0) [] := ⟨⟨none, 0, rfl, Nat.le_refl _, by unfold maxLen; omega, fun i hi => absurd hi (by simp)⟩, fun g hg => by cases hg⟩
theorem cells_lt {α : Type} {f : α → List Value} {w : World} {b o : Nat} {x : α} (h : CellsAt f w b o x) {v : Value} (hv : (f x)[0]? = some v) : b < w.heap.size := World.block_lt_of_cell? _ _ (h 0 v hv)
theorem RwIn.upd {w w' : World} {base : Nat} {v : Value} {L : List Rw} (h : RwIn w base v L) {F : List Nat} (u : Upd F w w') (hF : ∀ k ∈ F, k < base) : RwIn w' base v L := by
  obtain ⟨⟨a, cap, rfl, h1, h2, h3⟩, hb⟩ := h
  refine ⟨⟨a, cap, rfl, h1, h2, fun i hi => ?_⟩, hb⟩
  obtain ⟨b, off, rfl, hc⟩ := h3 i hi
  exact ⟨b, off, rfl, hc.same (u.block b (cells_lt hc rfl) fun q => by have := hF b q; have := hb b rfl; omega)⟩
theorem RwIn.keep {w w' : World} {base : Nat} {v : Value} {L : List Rw} (h : RwIn w base v L) (u : Upd [] w w') : RwIn w' base v L := h.upd u (by simp)
theorem RwIn.of_own {w : World} {b base : Nat} {v : Value} {L : List Rw} (h : OwnG cellsR 41 2 w b v L) (hb : base ≤ b) : RwIn w base v L := ⟨h.sl rowT, fun g hg => Nat.le_trans hb (h.block g hg).1⟩

/-- Upcasters that do the same. -/
def LikeU (a b : U.Up) : Prop := b.ty = a.ty ∧ b.fr = a.fr ∧ b.ch = a.ch

theorem like_find {l r : List U.Up} (hl : r.length = l.length) (h : ∀ i (h : i < l.length), LikeU l[i] (r[i]'(by omega))) (s : ByteArray) (n : Int) : (U.findU r s n).map U.Up.ch = (U.findU l s n).map U.Up.ch := by
  induction l generalizing r with
  | nil =>
    obtain rfl := List.eq_nil_of_length_eq_zero (by simpa using hl)
    rfl
  | cons a l ih =>
    cases r with
    | nil => simp at hl
    | cons b r =>
      obtain ⟨h1, h2, h3⟩ : LikeU a b := h 0 (by simp)
      have := ih (r := r) (by simpa using hl) (fun i hi => by
        have := h (i + 1) (by simpa using hi)
        simpa using this)
      unfold U.findU at this ⊢
      have e : U.isU s n b = U.isU s n a := by unfold U.isU; rw [h1, h2]
      rw [List.find?_cons, List.find?_cons, e]
      cases U.isU s n a with
      | true => simp [h3]
      | false => exact this

theorem like_apply {l r : List U.Up} (hl : r.length = l.length) (h : ∀ i (h : i < l.length), LikeU l[i] (r[i]'(by omega))) (ty : ByteArray) (v : Int) (fs : List Fd) : U.applyU r ty v fs = U.applyU l ty v fs := by
  have H : ∀ n v fs, U.stepU r ty n v fs = U.stepU l ty n v fs := by
    intro n
    induction n with
    | zero => intro v fs; rfl
    | succ n ih =>
      intro v fs
      have := like_find hl h ty v
      simp only [U.stepU]
      cases ha : U.findU l ty v with
      | none =>
        rw [ha] at this
        cases hb : U.findU r ty v with
        | none => rfl
        | some b => rw [hb] at this; cases this
      | some a =>
        rw [ha] at this
        cases hb : U.findU r ty v with
        | none => rw [hb] at this; cases this
        | some b =>
          rw [hb] at this
          simp only [Option.map_some, Option.some.injEq] at this
          simp only [this]
          exact ih _ _
  unfold U.applyU
  rw [hl]
  exact H _ _ _

/-- What bringing up leaves fits. -/
theorem done_okF {l : List Fd} {c : U.Ch} (h : ∀ x ∈ l, OkF x) (hc : OkF c.f) : ∀ x ∈ U.doneF l c, OkF x := by
  intro x hx
  have hn : U.FitN x := U.doneF_fit (fun y hy => (h y hy).2) hc.2 x hx
  refine ⟨?_, hn⟩
  unfold U.doneF at hx
  split at hx
  · split at hx
    · exact (h x hx).1
    · rcases U.setF_mem hx with rfl | hx
      · exact hc.1
      · exact (h x hx).1
  · cases hg : getF l c.nm with
    | none => rw [hg] at hx; exact (h x hx).1
    | some f =>
      have hf := h f (U.getF_mem hg).1
      rw [hg] at hx
      simp only [] at hx
      split at hx
      · exact (h x (U.dropF_mem hx)).1
      split at hx
      · unfold U.renF at hx
        split at hx
        · exact (h x hx).1
        · rcases U.setF_mem hx with rfl | hx
          · exact hf.1
          · exact (h x (U.dropF_mem hx)).1
      split at hx
      · unfold U.showF at hx
        split at hx
        · exact (h x hx).1
        · rcases U.setF_mem hx with rfl | hx
          · have := itoa_size f.n hf.2.1 hf.2.2
            show (itoaB f.n).size ≤ _
            omega
          · exact (h x hx).1
      split at hx
      · unfold U.scaleF at hx
        split at hx
        · exact (h x hx).1
        · split at hx
          · rcases U.setF_mem hx with rfl | hx
            · show ByteArray.empty.size ≤ _
              decide
            · exact (h x hx).1
          · exact (h x hx).1
      · exact (h x hx).1

theorem apply_okF {us : List U.Up} (hu : ∀ u ∈ us, ∀ c ∈ u.ch, OkF c.f) (ty : ByteArray) (v : Int) {fs : List Fd} (h : ∀ x ∈ fs, OkF x) : ∀ x ∈ (U.applyU us ty v fs).2, OkF x := by
  have hch : ∀ (ch : List U.Ch) (l : List Fd), (∀ x ∈ l, OkF x) → (∀ c ∈ ch, OkF c.f) → ∀ x ∈ ch.foldl U.doneF l, OkF x := by
    intro ch
    induction ch with
    | nil => intro l h _; exact h
    | cons c ch ih => intro l h hc; exact ih _ (done_okF h (hc c (by simp))) (fun c' hc' => hc c' (by simp [hc']))
  have H : ∀ n v fs, (∀ x ∈ fs, OkF x) → ∀ x ∈ (U.stepU us ty n v fs).2, OkF x := by
    intro n
    induction n with
    | zero => intro v fs h; exact h
    | succ n ih =>
      intro v fs h
      simp only [U.stepU]
      cases ha : U.findU us ty v with
      | none => exact h
      | some u => exact ih _ _ (hch _ _ h (hu u (List.mem_of_find?_eq_some ha)))
  exact H _ _ _ h

/-- Fields behind upcasters, a row's step by an entry. -/
def entryR (us : List U.Up) (l : List Sm) (L : List Rw) (e : Nt) : List Rw := takeR e.st e.ty (U.applyU us e.ty e.ver e.fs).2 l L

/-- A map's bound is its size. -/
theorem ownsMap_tight {H : Type} {P : Program} {k : TypeId} {R : Value → Option (DataW H × List MemPlace)} {w : World} {b n : Nat} {D : DataW H} (h : w.ownsMap P k R b n D) : w.ownsMap P k R b (Maps.size D) D := by
  obtain ⟨es, clock, hb, F, hs, rfl⟩ := h
  exact ⟨es, clock, hb, F, by rw [Maps.size_eq, length_sorted]; simp, rfl⟩

/-- The map of a view's rows. -/
abbrev RowsAt (w : World) (mb : Nat) (L : List Rw) : Prop := w.ownsMap (H := Unit) Tryz.prog 9 (plainElem Tryz.prog 3) mb L.length (dataR L)
theorem RowsAt.of {w : World} {mb n : Nat} {L : List Rw} (h : w.ownsMap (H := Unit) Tryz.prog 9 (plainElem Tryz.prog 3) mb n (dataR L)) : RowsAt w mb L := by
  have := ownsMap_tight h
  rwa [size_dataR] at this
theorem RowsAt.upd {w w' : World} {mb : Nat} {L : List Rw} (h : RowsAt w mb L) {F : List Nat} (u : Upd F w w') (hF : mb ∉ F) : RowsAt w' mb L := by
  have hlt := World.ownsMap.lt h
  obtain ⟨es, clock, hb, F', hs, hD⟩ := h
  exact ⟨es, clock, (u.block mb hlt hF).trans hb, F', hs, hD⟩
theorem lawS : Keyed Tryz.prog 9 := string_keyed Tryz.underlying9

/-- A view: where it lies, what it holds. All trees lie in a world ahead of its two blocks. -/
abbrev boxVw (nm : ByteArray) (sv lv : Value) (cur : Int) (mb : Nat) : Obj := .cells #[.string nm, sv, lv, .int .i64 cur, .map (some mb)] 69
structure ViewAt (W0 w : World) (vb mb : Nat) (nm : ByteArray) (sv lv : Value) (sums : List Sm) (us : List U.Up) (cur : Int) (L : List Rw) : Prop where
  v0 : W0.heap.size ≤ vb
  m0 : W0.heap.size ≤ mb
  ne : vb ≠ mb
  upd : Upd [] W0 w
  sums : SumsAt W0 sv sums
  ups : U.UpsAt W0 lv us
  box : w.heap[vb]? = some (boxVw nm sv lv cur mb)
  rows : RowsAt w mb L
  good : RGood L
end Go.Proofs.YtajppgngoffonaaGreatDoor

namespace Go.Proofs.YtajppgngoffonaaGreatDoor
open Go.RowKit

theorem smT : RowT cellsSm 9 128 22 56 where
  len := fun _ => rfl
  pos := by omega
  und := Tryz.underlying22
  info := by
    obtain ⟨i, h, h1, h2, h3⟩ := info_parts (show (Tryz.prog.info? 56).map (fun i => (i.zero, i.size, i.bytes)) = some (some (.agg #[.string ByteArray.empty, .int .i64 0, .int .i64 0, .string ByteArray.empty, .slice none 0 0, .int .i64 0, .int .i64 0, .string ByteArray.empty, .slice none 0 0]), 9, 128) by kernel_rfl)
    exact ⟨i, _, h, h1, h2, h3, rfl⟩
abbrev cellsU (u : U.Up) : List Value := [.string u.ty, .int .i64 u.fr, u.cv]
theorem upT : RowT cellsU 3 48 25 61 where
  len := fun _ => rfl
  pos := by omega
  und := Tryz.underlying25
  info := by
    obtain ⟨i, h, h1, h2, h3⟩ := info_parts (show (Tryz.prog.info? 61).map (fun i => (i.zero, i.size, i.bytes)) = some (some (.agg #[.string ByteArray.empty, .int .i64 0, .slice none 0 0]), 3, 48) by kernel_rfl)
    exact ⟨i, _, h, h1, h2, h3, rfl⟩
abbrev cellsCh' (c : U.Ch) : List Value := [.int .i64 c.kd, .string c.nm, .string c.to, .string c.f.nm, .bool c.f.tx, .int .i64 c.f.n, .string c.f.s]
theorem chT : RowT cellsCh' 7 88 59 66 where
  len := fun _ => rfl
  pos := by omega
  und := Tryz.underlying59
  info := by
    obtain ⟨i, h, h1, h2, h3⟩ := info_parts (show (Tryz.prog.info? 66).map (fun i => (i.zero, i.size, i.bytes)) = some (some (.agg #[.int .i64 0, .string ByteArray.empty, .string ByteArray.empty, .string ByteArray.empty, .bool false, .int .i64 0, .string ByteArray.empty]), 7, 88) by kernel_rfl)
    exact ⟨i, _, h, h1, h2, h3, rfl⟩

/-- A clone: a row of the call's own. -/
def ClonePost {α : Type} (f : α → List Value) (e k : Nat) (l : List α) (w : World) (E : Ending) (w' : World) : Prop := ∃ v', E = .returned v' ∧ OwnG f e k w' w.heap.size v' l ∧ Upd [] w w'

theorem oneSm {w : World} {v : Value} {l : List Sm} (h : SumsAt w v l) : ∀ x ∈ l, ∀ u ∈ cellsSm x, u.oneCell' = true := by
  intro x hx u hu
  obtain ⟨i, hi, rfl⟩ := List.mem_iff_getElem.1 hx
  obtain ⟨a, cap, -, -, -, h3⟩ := h
  obtain ⟨b, off, -, -, hk1, hk2⟩ := h3 i hi
  obtain ⟨a1, c1, e1⟩ := hk1.isSlice
  obtain ⟨a2, c2, e2⟩ := hk2.isSlice
  simp only [cellsSm, e1, e2, List.mem_cons, List.not_mem_nil, or_false] at hu
  rcases hu with rfl | rfl | rfl | rfl | rfl | rfl | rfl | rfl | rfl <;> rfl

theorem oneU {w : World} {v : Value} {l : List U.Up} (h : U.UpsAt w v l) : ∀ x ∈ l, ∀ u ∈ cellsU x, u.oneCell' = true := by
  intro x hx u hu
  obtain ⟨i, hi, rfl⟩ := List.mem_iff_getElem.1 hx
  obtain ⟨a, cap, -, -, -, h3⟩ := h
  obtain ⟨b, off, -, -, hc⟩ := h3 i hi
  obtain ⟨a1, c1, e1, -⟩ := hc
  simp only [cellsU, e1, List.mem_cons, List.not_mem_nil, or_false] at hu
  rcases hu with rfl | rfl | rfl <;> rfl

theorem oneC (l : List U.Ch) : ∀ x ∈ l, ∀ u ∈ cellsCh' x, u.oneCell' = true := by
  intro x hx u hu
  simp only [cellsCh', List.mem_cons, List.not_mem_nil, or_false] at hu
  rcases hu with rfl | rfl | rfl | rfl | rfl | rfl | rfl <;> rfl

theorem cellsU_of {w : World} {b o : Nat} {u : U.Up} (h : U.UAt w b o u) : CellsAt cellsU w b o u := fun j v hv => by
  obtain ⟨⟨h0, h1, h2⟩, -⟩ := h
  match j, hv with
  | 0, hv => cases hv; exact h0
  | 1, hv => cases hv; exact h1
  | 2, hv => cases hv; exact h2
  | j + 3, hv => simp [cellsU] at hv

theorem cellsC_of {w : World} {b o : Nat} {c : U.Ch} (h : U.ChAt w b o c) : CellsAt cellsCh' w b o c := fun j v hv => by
  obtain ⟨h0, h1, h2, h3, h4, h5, h6⟩ := h
  match j, hv with
  | 0, hv => cases hv; exact h0
  | 1, hv => cases hv; exact h1
  | 2, hv => cases hv; exact h2
  | 3, hv => cases hv; exact h3
  | 4, hv => cases hv; exact h4
  | 5, hv => cases hv; exact h5
  | 6, hv => cases hv; exact h6
  | j + 7, hv => simp [cellsCh'] at hv

set_option maxRecDepth 100000 in
theorem cloneSum_ok (v : Value) (l : List Sm) (w : World) (h : SumsAt w v l) (hl : l.length * 128 ≤ 140737488355328) : Calls Tryz.prog 17 #[v] w (ClonePost cellsSm 56 9 l w) := by
  have HR := Lib.hid (fun (W : World) (u : Upd [] w W) => SumsAt.keep u h)
  have H1 := Lib.hid (oneSm h)
  obtain ⟨a, cap, rfl, h1, h2, h3⟩ := h
  cases a with
  | none =>
    have hn : l = [] := by
      cases l with
      | nil => rfl
      | cons x l => obtain ⟨b, off, e, _⟩ := h3 0 (by simp); cases e
    subst hn
    have hop : ∀ W, (binOp .eql 22 (.slice none 0 cap) (.slice none 0 0)).run Tryz.prog W = .ok (.bool true) W := fun W => Lib.run_eql_slice_nil W _ _ _ _ _ _ _ Tryz.underlying22
    go_enter Tryz.func17, Tryz.ntmps17
    go_wp2_with fail
    go_ret
    exact ⟨_, rfl, OwnG.nil _ _, Upd.refl _ _⟩
  | some ad =>
    clear h3
    have hop : ∀ W, (binOp .eql 22 (.slice (some ad) l.length cap) (.slice none 0 0)).run Tryz.prog W = .ok (.bool false) W := fun W => Lib.run_eql_slice_nil W _ _ _ _ _ _ _ Tryz.underlying22
    go_enter Tryz.func17, Tryz.ntmps17
    go_wp2_with (at_builtin; refine wpList_append_G smT rfl _ _ rfl (l := []) rfl (OwnG.empty smT (heap_top _ _) (Nat.le_refl _)) rfl (SlAt.srcG smT (fun _ _ _ hx => hx.1) (HR.out _ ((Upd.refl _ _).alloc _))) H1.out ?c1 ?c2 ?c3 ?_)
    case c1 => simp; omega
    case c2 => simp; omega
    case c3 => simp
    intro v' w1 hown hgrow _
    have HO : Hid (OwnG cellsSm 56 9 w1 w.heap.size v' l ∧ Upd [] w w1) := Lib.hid ⟨by simpa using hown, ((Upd.refl [] w).alloc _).grown hgrow (fun k hk => by simp [Value.ownBlock] at hk; omega)⟩
    clear hown hgrow
    go_wp2_with fail
    go_ret
    exact ⟨_, rfl, HO.out.1, HO.out.2⟩

set_option maxRecDepth 100000 in
theorem cloneUpcast_ok (v : Value) (l : List U.Up) (w : World) (h : U.UpsAt w v l) (hl : l.length * 48 ≤ 140737488355328) : Calls Tryz.prog 19 #[v] w (ClonePost cellsU 61 3 l w) := by
  have HR := Lib.hid (fun (W : World) (u : Upd [] w W) => h.keep u)
  have H1 := Lib.hid (oneU h)
  obtain ⟨a, cap, rfl, h1, h2, h3⟩ := h
  cases a with
  | none =>
    have hn : l = [] := by
      cases l with
      | nil => rfl
      | cons x l => obtain ⟨b, off, e, _⟩ := h3 0 (by simp); cases e
    subst hn
    have hop : ∀ W, (binOp .eql 25 (.slice none 0 cap) (.slice none 0 0)).run Tryz.prog W = .ok (.bool true) W := fun W => Lib.run_eql_slice_nil W _ _ _ _ _ _ _ Tryz.underlying25
    go_enter Tryz.func19, Tryz.ntmps19
    go_wp2_with fail
    go_ret
    exact ⟨_, rfl, OwnG.nil _ _, Upd.refl _ _⟩
  | some ad =>
    clear h3
    have hop : ∀ W, (binOp .eql 25 (.slice (some ad) l.length cap) (.slice none 0 0)).run Tryz.prog W = .ok (.bool false) W := fun W => Lib.run_eql_slice_nil W _ _ _ _ _ _ _ Tryz.underlying25
    go_enter Tryz.func19, Tryz.ntmps19
    go_wp2_with (at_builtin; refine wpList_append_G upT rfl _ _ rfl (l := []) rfl (OwnG.empty upT (heap_top _ _) (Nat.le_refl _)) rfl (SlAt.srcG upT (fun _ _ _ hx => cellsU_of hx) (HR.out _ ((Upd.refl _ _).alloc _))) H1.out ?c1 ?c2 ?c3 ?_)
    case c1 => simp; omega
    case c2 => simp; omega
    case c3 => simp
    intro v' w1 hown hgrow _
    have HO : Hid (OwnG cellsU 61 3 w1 w.heap.size v' l ∧ Upd [] w w1) := Lib.hid ⟨by simpa using hown, ((Upd.refl [] w).alloc _).grown hgrow (fun k hk => by simp [Value.ownBlock] at hk; omega)⟩
    clear hown hgrow
    go_wp2_with fail
    go_ret
    exact ⟨_, rfl, HO.out.1, HO.out.2⟩

set_option maxRecDepth 100000 in
theorem cloneChange_ok (v : Value) (l : List U.Ch) (w : World) (h : U.ChsAt w v l) (hl : l.length * 88 ≤ 140737488355328) : Calls Tryz.prog 20 #[v] w (ClonePost cellsCh' 66 7 l w) := by
  have HR := Lib.hid (fun (W : World) (u : Upd [] w W) => h.keep u)
  have H1 := Lib.hid (oneC l)
  obtain ⟨a, cap, rfl, h1, h2, h3⟩ := h
  cases a with
  | none =>
    have hn : l = [] := by
      cases l with
      | nil => rfl
      | cons x l => obtain ⟨b, off, e, _⟩ := h3 0 (by simp); cases e
    subst hn
    have hop : ∀ W, (binOp .eql 59 (.slice none 0 cap) (.slice none 0 0)).run Tryz.prog W = .ok (.bool true) W := fun W => Lib.run_eql_slice_nil W _ _ _ _ _ _ _ Tryz.underlying59
    go_enter Tryz.func20, Tryz.ntmps20
    go_wp2_with fail
    go_ret
    exact ⟨_, rfl, OwnG.nil _ _, Upd.refl _ _⟩
  | some ad =>
    clear h3
    have hop : ∀ W, (binOp .eql 59 (.slice (some ad) l.length cap) (.slice none 0 0)).run Tryz.prog W = .ok (.bool false) W := fun W => Lib.run_eql_slice_nil W _ _ _ _ _ _ _ Tryz.underlying59
    go_enter Tryz.func20, Tryz.ntmps20
    go_wp2_with (at_builtin; refine wpList_append_G chT rfl _ _ rfl (l := []) rfl (OwnG.empty chT (heap_top _ _) (Nat.le_refl _)) rfl (SlAt.srcG chT (fun _ _ _ hx => cellsC_of hx) (HR.out _ ((Upd.refl _ _).alloc _))) H1.out ?c1 ?c2 ?c3 ?_)
    case c1 => simp; omega
    case c2 => simp; omega
    case c3 => simp
    intro v' w1 hown hgrow _
    have HO : Hid (OwnG cellsCh' 66 7 w1 w.heap.size v' l ∧ Upd [] w w1) := Lib.hid ⟨by simpa using hown, ((Upd.refl [] w).alloc _).grown hgrow (fun k hk => by simp [Value.ownBlock] at hk; omega)⟩
    clear hown hgrow
    go_wp2_with fail
    go_ret
    exact ⟨_, rfl, HO.out.1, HO.out.2⟩

end Go.Proofs.YtajppgngoffonaaGreatDoor
