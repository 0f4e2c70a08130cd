/- Opening the arguments: upcasters and an event, as the row's premise reads them. -/
import Derived.Test.YtdokpfgdddfdfaaDoorCv
import Derived.Deep.Slices
import Derived.Deep.Fields
import Derived.ChangeSame
import Derived.SizedLaws
namespace Go.Proofs.YtdokpfgdddfdfaaDoor
open Go.ChangeShapes Go.WideShapes Go.ChangeAt Go.RowKit Go.Deep

section
variable {H : Type} {enc : TypeId × Value → H} {w : World} {base : Nat} {spare : Nat → Bool} {held : Bool}

/-- A slice, opened element by element. -/
theorem open_sl {α : Type} (k : Nat) (hk0 : 0 < k) (At : World → Nat → Nat → α → Prop) (G : α → Prop) {t e : TypeId} (ht : Tryd.prog.underlying t = some (.slice e)) (hk : Tryd.prog.cellsOf e = k)
    (hel : ∀ n cs y, DataW.trod enc Tryd.prog w base spare held n e cs = some y → ∃ x : α, (∀ b o, (∀ i (h : i < cs.length), w.cell? ⟨b, o + i, none⟩ = some cs[i]) → At w b o x) ∧ G x)
    {fuel : Nat} {v : Value} {x : DataW H × List MemPlace} (h : DataW.trod enc Tryd.prog w base spare held fuel t [v] = some x) :
    ∃ l : List α, SlAt k At w v l ∧ (∀ y ∈ l, G y) ∧ ((x.1 = .nil ∧ l = []) ∨ ∃ elems sp, x.1 = .slice elems sp ∧ elems.length = l.length) := by
  rcases open_slice ht h with ⟨h0, hx⟩ | ⟨a, len, cap, m, n, D, Pl, hcs, hb, hl, hm, hmm, hx, hi⟩
  · simp at h0
    subst h0
    refine ⟨[], ⟨none, 0, rfl, Nat.le_refl _, by unfold maxLen; omega, fun i hi => absurd hi (by simp)⟩, by simp, Or.inl ⟨by rw [hx], rfl⟩⟩
  · simp at hcs
    subst hcs
    have hle : len ≤ m := by rw [hmm]; split <;> omega
    have hE : ∀ j, j < len → ∃ y : α, (∃ b off, a = ⟨b, off, none⟩ ∧ At w b (off + j * k) y) ∧ G y := fun j hj => by
      obtain ⟨cs', hc, ht'⟩ := hi j (by omega)
      rw [hk] at hc
      obtain ⟨y, hy, hg⟩ := hel _ _ _ ht'
      obtain ⟨_, hcl, hat⟩ := World.cells?_some hc
      obtain ⟨b, off, spot⟩ := a
      have hspot : spot = none := by
        obtain ⟨ds, hd, -⟩ := hi 0 (by omega)
        rw [hk] at hd
        obtain ⟨-, hdl, hdt⟩ := World.cells?_some hd
        have := hdt 0 (by omega)
        rw [List.getElem?_eq_getElem (by omega)] at this
        simpa [Addr.add] using World.cell?_spot this
      subst hspot
      refine ⟨y, ⟨b, off, rfl, hy b (off + j * k) fun i hi => ?_⟩, hg⟩
      have := hat i (by omega)
      rw [add_plain, add_plain, List.getElem?_eq_getElem hi] at this
      exact this
    refine ⟨List.ofFn (fun i : Fin len => (hE i.1 i.2).choose), ⟨some a, cap, by rw [List.length_ofFn], by rw [List.length_ofFn]; exact hl, hm, fun i hi => ?_⟩, fun y hy => ?_, Or.inr ⟨_, _, by rw [hx], by simp⟩⟩
    · rw [List.length_ofFn] at hi
      obtain ⟨b, off, e, hA⟩ := (hE i hi).choose_spec.1
      refine ⟨b, off, by rw [e], ?_⟩
      rw [List.getElem_ofFn]
      exact hA
    · obtain ⟨i, rfl⟩ := List.mem_ofFn.1 hy
      exact (hE i.1 i.2).choose_spec.2

theorem cells30 : Tryd.prog.cellsOf 30 = 4 := by kernel_rfl
theorem cells47 : Tryd.prog.cellsOf 47 = 7 := by kernel_rfl
theorem cells38 : Tryd.prog.cellsOf 38 = 3 := by kernel_rfl
theorem cells26 : Tryd.prog.cellsOf 26 = 3 := by kernel_rfl
theorem cells3 : Tryd.prog.cellsOf 3 = 1 := by kernel_rfl
theorem cells4 : Tryd.prog.cellsOf 4 = 1 := by kernel_rfl
theorem cells9 : Tryd.prog.cellsOf 9 = 1 := by kernel_rfl
theorem cells24 : Tryd.prog.cellsOf 24 = 1 := by kernel_rfl
theorem cells36 : Tryd.prog.cellsOf 36 = 1 := by kernel_rfl

theorem wf64 {n : Int} (h : (Lit.int .i64 n).wf = true) : -9223372036854775808 ≤ n ∧ n ≤ 9223372036854775807 := by
  have e0 : IntKind.i64.min = -9223372036854775808 := by decide
  have e1 : IntKind.i64.max = 9223372036854775807 := by decide
  have := h
  simp only [Lit.wf, Bool.and_eq_true, decide_eq_true_eq, e0, e1] at this
  exact this

theorem four {α : Type} {l : List α} (h : l.length = 4) : ∃ a b c d, l = [a, b, c, d] := by
  match l, h with
  | [a, b, c, d], _ => exact ⟨a, b, c, d, rfl⟩
theorem three {α : Type} {l : List α} (h : l.length = 3) : ∃ a b c, l = [a, b, c] := by
  match l, h with
  | [a, b, c], _ => exact ⟨a, b, c, rfl⟩
theorem seven {α : Type} {l : List α} (h : l.length = 7) : ∃ a b c d e f g, l = [a, b, c, d, e, f, g] := by
  match l, h with
  | [a, b, c, d, e, f, g], _ => exact ⟨a, b, c, d, e, f, g, rfl⟩

theorem open_fd {n : Nat} {cs : List Value} {y : DataW H × List MemPlace} (h : DataW.trod enc Tryd.prog w base spare held n 30 cs = some y) :
    ∃ x : Fd, cs = cellsF x ∧ Fits x ∧ FitN x := by
  obtain ⟨ys, n', hn', hy, hlen, hyl, hf⟩ := DataW.trod_struct Tryd.underlying30 h
  rw [cells30] at hlen
  obtain ⟨k0, k1, k2, k3, rfl⟩ := four hlen
  have hyl4 : ys.length = 4 := hyl
  have g0 : DataW.trod enc Tryd.prog w base spare held n' 9 (List.take (Tryd.prog.cellsOf 9) [k0, k1, k2, k3]) = ys[0]? := hf 0 _ rfl
  have g1 : DataW.trod enc Tryd.prog w base spare held n' 4 (List.take (Tryd.prog.cellsOf 4) [k1, k2, k3]) = ys[1]? := hf 1 _ rfl
  have g2 : DataW.trod enc Tryd.prog w base spare held n' 3 (List.take (Tryd.prog.cellsOf 3) [k2, k3]) = ys[2]? := hf 2 _ rfl
  have g3 : DataW.trod enc Tryd.prog w base spare held n' 9 (List.take (Tryd.prog.cellsOf 9) [k3]) = ys[3]? := hf 3 _ rfl
  rw [cells9, List.getElem?_eq_getElem (by omega)] at g0 g3
  rw [cells4, List.getElem?_eq_getElem (by omega)] at g1
  rw [cells3, List.getElem?_eq_getElem (by omega)] at g2
  obtain ⟨nm, e0, -, z0⟩ := DataW.trod_string Tryd.underlying9 g0
  obtain ⟨tx, e1, -⟩ := DataW.trod_bool Tryd.underlying4 g1
  obtain ⟨nn, e2, -, z2⟩ := DataW.trod_int Tryd.underlying3 g2
  obtain ⟨s, e3, -, z3⟩ := DataW.trod_string Tryd.underlying9 g3
  simp at e0 e1 e2 e3
  subst e0 e1 e2 e3
  exact ⟨⟨nm, tx, nn, s⟩, rfl, ⟨z0, z3⟩, wf64 z2⟩

theorem fat_of {x : Fd} {cs : List Value} (hc : cs = cellsF x) (b o : Nat) (h : ∀ i (h : i < cs.length), w.cell? ⟨b, o + i, none⟩ = some cs[i]) : FAt w b o x := by
  subst hc
  exact ⟨h 0 (by simp [cellsF]), h 1 (by simp [cellsF]), h 2 (by simp [cellsF]), h 3 (by simp [cellsF])⟩

theorem open_rec {fuel : Nat} {v : Value} {x : DataW H × List MemPlace} (h : DataW.trod enc Tryd.prog w base spare held fuel 24 [v] = some x) :
    ∃ l : List Fd, RecAt w v l ∧ (∀ y ∈ l, Fits y ∧ FitN y) ∧ ((x.1 = .nil ∧ l = []) ∨ ∃ elems sp, x.1 = .slice elems sp ∧ elems.length = l.length) :=
  open_sl 4 (by omega) FAt (fun y => Fits y ∧ FitN y) Tryd.underlying24 cells30 (fun n cs y hy => by
    obtain ⟨x, hc, hg⟩ := open_fd hy
    exact ⟨x, fun b o h => fat_of hc b o h, hg⟩) h

theorem open_ch {n : Nat} {cs : List Value} {y : DataW H × List MemPlace} (h : DataW.trod enc Tryd.prog w base spare held n 47 cs = some y) :
    ∃ c : Ch, (∀ b o, (∀ i (h : i < cs.length), w.cell? ⟨b, o + i, none⟩ = some cs[i]) → ChAt w b o c) ∧ FitC c ∧ FitN c.f := by
  obtain ⟨ys, n', hn', hy, hlen, hyl, hf⟩ := DataW.trod_struct Tryd.underlying47 h
  rw [cells47] at hlen
  obtain ⟨k0, k1, k2, k3, k4, k5, k6, rfl⟩ := seven hlen
  have hyl4 : ys.length = 4 := hyl
  have g0 : DataW.trod enc Tryd.prog w base spare held n' 3 (List.take (Tryd.prog.cellsOf 3) [k0, k1, k2, k3, k4, k5, k6]) = ys[0]? := hf 0 _ rfl
  have g1 : DataW.trod enc Tryd.prog w base spare held n' 9 (List.take (Tryd.prog.cellsOf 9) [k1, k2, k3, k4, k5, k6]) = ys[1]? := hf 1 _ rfl
  have g2 : DataW.trod enc Tryd.prog w base spare held n' 9 (List.take (Tryd.prog.cellsOf 9) [k2, k3, k4, k5, k6]) = ys[2]? := hf 2 _ rfl
  have g3 : DataW.trod enc Tryd.prog w base spare held n' 30 (List.take (Tryd.prog.cellsOf 30) [k3, k4, k5, k6]) = ys[3]? := hf 3 _ rfl
  rw [cells9, List.getElem?_eq_getElem (by omega)] at g1 g2
  rw [cells3, List.getElem?_eq_getElem (by omega)] at g0
  rw [cells30, List.getElem?_eq_getElem (by omega)] at g3
  obtain ⟨kd, e0, -, -⟩ := DataW.trod_int Tryd.underlying3 g0
  obtain ⟨nm, e1, -, z1⟩ := DataW.trod_string Tryd.underlying9 g1
  obtain ⟨to, e2, -, z2⟩ := DataW.trod_string Tryd.underlying9 g2
  obtain ⟨f, e3, z3, z4⟩ := open_fd g3
  simp [cellsF] at e0 e1 e2 e3
  obtain ⟨q0, q1, q2, q3⟩ := e3
  subst e0 e1 e2 q0 q1 q2 q3
  refine ⟨⟨kd, nm, to, f⟩, fun b o h => ⟨h 0 (by simp), h 1 (by simp), h 2 (by simp), ?_⟩, ⟨z1, z2, z3⟩, z4⟩
  exact ⟨h 3 (by simp), h 4 (by simp), h 5 (by simp), h 6 (by simp)⟩

theorem open_up {n : Nat} {cs : List Value} {y : DataW H × List MemPlace} (h : DataW.trod enc Tryd.prog w base spare held n 38 cs = some y) :
    ∃ u : Up, (∀ b o, (∀ i (h : i < cs.length), w.cell? ⟨b, o + i, none⟩ = some cs[i]) → UAt w b o u) ∧ FitU u ∧ ∀ c ∈ u.ch, FitN c.f := by
  obtain ⟨ys, n', hn', hy, hlen, hyl, hf⟩ := DataW.trod_struct Tryd.underlying38 h
  rw [cells38] at hlen
  obtain ⟨k0, k1, k2, rfl⟩ := three hlen
  have hyl4 : ys.length = 3 := hyl
  have g0 : DataW.trod enc Tryd.prog w base spare held n' 9 (List.take (Tryd.prog.cellsOf 9) [k0, k1, k2]) = ys[0]? := hf 0 _ rfl
  have g1 : DataW.trod enc Tryd.prog w base spare held n' 3 (List.take (Tryd.prog.cellsOf 3) [k1, k2]) = ys[1]? := hf 1 _ rfl
  have g2 : DataW.trod enc Tryd.prog w base spare held n' 36 (List.take (Tryd.prog.cellsOf 36) [k2]) = ys[2]? := hf 2 _ rfl
  rw [cells9, List.getElem?_eq_getElem (by omega)] at g0
  rw [cells3, List.getElem?_eq_getElem (by omega)] at g1
  rw [cells36, List.getElem?_eq_getElem (by omega)] at g2
  obtain ⟨ty, e0, -, z0⟩ := DataW.trod_string Tryd.underlying9 g0
  obtain ⟨fr, e1, -, -⟩ := DataW.trod_int Tryd.underlying3 g1
  obtain ⟨ch, e2, z2, -⟩ := open_sl 7 (by omega) ChAt (fun c => FitC c ∧ FitN c.f) Tryd.underlying36 cells47 (fun n cs y hy => open_ch hy) (show DataW.trod enc Tryd.prog w base spare held n' 36 [k2] = some _ from g2)
  simp at e0 e1
  subst e0 e1
  refine ⟨⟨ty, fr, k2, ch⟩, fun b o h => ⟨⟨h 0 (by simp), h 1 (by simp), h 2 (by simp)⟩, e2⟩, ⟨z0, fun c hc => (z2 c hc).1⟩, fun c hc => (z2 c hc).2⟩

theorem open_ups {fuel : Nat} {v : Value} {x : DataW H × List MemPlace} (h : DataW.trod enc Tryd.prog w base spare held fuel 23 [v] = some x) :
    ∃ l : List Up, UpsAt w v l ∧ (∀ y ∈ l, FitU y ∧ ∀ c ∈ y.ch, FitN c.f) ∧ ((x.1 = .nil ∧ l = []) ∨ ∃ elems sp, x.1 = .slice elems sp ∧ elems.length = l.length) :=
  open_sl 3 (by omega) UAt _ Tryd.underlying23 cells38 (fun n cs y hy => open_up hy) h

theorem open_ev {fuel : Nat} {cs : List Value} {x : DataW H × List MemPlace} (h : DataW.trod enc Tryd.prog w base spare held fuel 26 cs = some x) :
    ∃ ty ver fv l, cs = [.string ty, .int .i64 ver, fv] ∧ RecAt w fv l ∧ (∀ y ∈ l, Fits y ∧ FitN y) ∧ (-9223372036854775808 ≤ ver ∧ ver ≤ 9223372036854775807) ∧
      ∃ d0 d1 d2, x.1 = .agg [d0, d1, d2] ∧ ((d2 = .nil ∧ l = []) ∨ ∃ elems sp, d2 = .slice elems sp ∧ elems.length = l.length) := by
  obtain ⟨ys, n', hn', rfl, hlen, hyl, hf⟩ := DataW.trod_struct Tryd.underlying26 h
  rw [cells26] at hlen
  obtain ⟨k0, k1, k2, rfl⟩ := three hlen
  obtain ⟨y0, y1, y2, rfl⟩ := three (show ys.length = 3 from hyl)
  have g0 : DataW.trod enc Tryd.prog w base spare held n' 9 (List.take (Tryd.prog.cellsOf 9) [k0, k1, k2]) = some y0 := hf 0 _ rfl
  have g1 : DataW.trod enc Tryd.prog w base spare held n' 3 (List.take (Tryd.prog.cellsOf 3) [k1, k2]) = some y1 := hf 1 _ rfl
  have g2 : DataW.trod enc Tryd.prog w base spare held n' 24 (List.take (Tryd.prog.cellsOf 24) [k2]) = some y2 := hf 2 _ rfl
  rw [cells9] at g0
  rw [cells3] at g1
  rw [cells24] at g2
  obtain ⟨ty, e0, -, z0⟩ := DataW.trod_string Tryd.underlying9 g0
  obtain ⟨ver, e1, -, z1⟩ := DataW.trod_int Tryd.underlying3 g1
  obtain ⟨l, e2, z2, z3⟩ := open_rec (show DataW.trod enc Tryd.prog w base spare held n' 24 [k2] = some _ from g2)
  simp at e0 e1
  subst e0 e1
  exact ⟨ty, ver, k2, l, rfl, e2, z2, wf64 z1, y0.1, y1.1, y2.1, rfl, z3⟩
end

/-- The sizes of the arguments' rows, from the form's reach. -/
theorem bytes38 : Tryd.prog.bytesOf 38 = 48 := by kernel_rfl
theorem bytes30 : Tryd.prog.bytesOf 30 = 48 := by kernel_rfl

theorem sizes {H : Type} {d0 d1 e0 e1 e2 : DataW H} {us : List Up} {l : List Fd} (h : (DataW.weightsEach Tryd.prog [23, 26] [d0, d1]).all (· ≤ reachBytes) = true) (hu : (d0 = .nil ∧ us = []) ∨ ∃ elems sp, d0 = .slice elems sp ∧ elems.length = us.length)
    (he : d1 = .agg [e0, e1, e2]) (hl : (e2 = .nil ∧ l = []) ∨ ∃ elems sp, e2 = .slice elems sp ∧ elems.length = l.length) : us.length ≤ 9223372036854775806 ∧ (max l.length 16 + 1) * 48 ≤ 140737488355328 := by
  have hr : reachBytes = 140737488351232 := rfl
  constructor
  · rcases hu with ⟨-, rfl⟩ | ⟨elems, sp, rfl, e⟩
    · simp
    · have := sized_slice h (j := 0) (t := 23) (e := 38) rfl rfl Tryd.underlying23
      rw [bytes38, hr] at this
      omega
  · rcases hl with ⟨-, rfl⟩ | ⟨elems, sp, rfl, e⟩
    · simp
    · subst he
      have := List.all_eq_true.1 h _ (DataW.weights_mem_each (j := 1) (t := 26) rfl rfl ((elems.length + sp.length) * Tryd.prog.bytesOf 30) (by
        simp [DataW.weights, DataW.weightsEach, Tryd.underlying26, Tryd.underlying24]))
      rw [bytes30, hr] at this
      simp at this
      omega
end Go.Proofs.YtdokpfgdddfdfaaDoor
