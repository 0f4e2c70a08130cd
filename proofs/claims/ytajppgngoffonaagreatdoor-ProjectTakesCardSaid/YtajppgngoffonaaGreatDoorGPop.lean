/- Opening the arguments: upcasters, projections, entries, as the row's premise reads them. -/
import Derived.Test.YtajppgngoffonaaGreatDoorGOp
import Derived.Test.YtajppgngoffonaaGreatDoorGPw
namespace Go.Proofs.YtajppgngoffonaaGreatDoor
open Go.ChangeShapes Go.WideShapes Go.ChangeAt Go.RowKit Go.Deep

theorem cellsCh : Tryz.prog.cellsOf 66 = 7 := by kernel_rfl
theorem cellsUp : Tryz.prog.cellsOf 61 = 3 := by kernel_rfl
theorem cellsChs : Tryz.prog.cellsOf 59 = 1 := by kernel_rfl
theorem cellsUps : Tryz.prog.cellsOf 25 = 1 := by kernel_rfl
theorem cellsSum : Tryz.prog.cellsOf 56 = 9 := by kernel_rfl
theorem cellsSums : Tryz.prog.cellsOf 22 = 1 := by kernel_rfl
theorem cellsPrj : Tryz.prog.cellsOf 24 = 2 := by kernel_rfl
theorem cellsEnt : Tryz.prog.cellsOf 36 = 6 := by kernel_rfl
theorem bytesUp : Tryz.prog.bytesOf 61 = 48 := by kernel_rfl
theorem bytesCh : Tryz.prog.bytesOf 66 = 88 := by kernel_rfl
theorem bytesSum : Tryz.prog.bytesOf 56 = 128 := by kernel_rfl
theorem bytesEnt : Tryz.prog.bytesOf 36 = 80 := by kernel_rfl

theorem len6 {α : Type} {l : List α} (h : l.length = 6) : ∃ a b c d e f, l = [a, b, c, d, e, f] := by
  match l, h with
  | [a, b, c, d, e, f], _ => exact ⟨a, b, c, d, e, f, rfl⟩
theorem len7 {α : Type} {l : List α} (h : l.length = 7) : ∃ a b c d e f g, l = [a, b, c, d, e, f, g] := by
  match l, h with
  | [a, b, c, d, e, f, g], _ => exact ⟨a, b, c, d, e, f, g, rfl⟩
theorem len9 {α : Type} {l : List α} (h : l.length = 9) : ∃ a b c d e f g i j, l = [a, b, c, d, e, f, g, i, j] := by
  match l, h with
  | [a, b, c, d, e, f, g, i, j], _ => exact ⟨a, b, c, d, e, f, g, i, j, rfl⟩

section
variable {H : Type} {enc : TypeId × Value → H} {w : World} {base : Nat} {spare : Nat → Bool} {held : Bool}

theorem open_fd4 {n : Nat} {cs : List Value} {y : DataW H × List MemPlace} (h : DataW.trod enc Tryz.prog w base spare held n 64 cs = some y) (hw : Wt 64 y.1) :
    ∃ f : Fd, cs = [.string f.nm, .bool f.tx, .int .i64 f.n, .string f.s] ∧ OkF f ∧ f.nm.size ≤ 140737488355328 := by
  obtain ⟨ys, n', hn', rfl, hlen, hyl, hf⟩ := DataW.trod_struct Tryz.underlying64 h
  rw [cellsFd] at hlen
  obtain ⟨k0, k1, k2, k3, rfl⟩ := len4 hlen
  obtain ⟨y0, y1, y2, y3, rfl⟩ := len4 (show ys.length = 4 from hyl)
  have g0 : DataW.trod enc Tryz.prog w base spare held n' 9 (List.take (Tryz.prog.cellsOf 9) [k0, k1, k2, k3]) = some y0 := hf 0 _ rfl
  have g1 : DataW.trod enc Tryz.prog w base spare held n' 4 (List.take (Tryz.prog.cellsOf 4) [k1, k2, k3]) = some y1 := hf 1 _ rfl
  have g2 : DataW.trod enc Tryz.prog w base spare held n' 3 (List.take (Tryz.prog.cellsOf 3) [k2, k3]) = some y2 := hf 2 _ rfl
  have g3 : DataW.trod enc Tryz.prog w base spare held n' 9 (List.take (Tryz.prog.cellsOf 9) [k3]) = some y3 := hf 3 _ rfl
  have w0 : Wt 9 y0.1 := wt_field Tryz.underlying64 hw (j := 0) rfl rfl
  have w3 : Wt 9 y3.1 := wt_field Tryz.underlying64 hw (j := 3) rfl rfl
  rw [cellsString] at g0 g3
  rw [cellsBool] at g1
  rw [cellsInt] at g2
  obtain ⟨nm, e0, z0, -⟩ := get_str g0 w0
  obtain ⟨tx, e1⟩ := get_bool g1
  obtain ⟨nn, e2, z2⟩ := get_int g2
  obtain ⟨s, e3, z3, -⟩ := get_str g3 w3
  simp at e0 e1 e2 e3
  subst e0 e1 e2 e3
  exact ⟨⟨nm, tx, nn, s⟩, rfl, ⟨by show s.size ≤ _; omega, z2⟩, by show nm.size ≤ _; omega⟩

theorem open_ch {n : Nat} {cs : List Value} {y : DataW H × List MemPlace} (h : DataW.trod enc Tryz.prog w base spare held n 66 cs = some y) (hw : Wt 66 y.1) :
    ∃ c : U.Ch, (∀ b o, (∀ i (h : i < cs.length), w.cell? ⟨b, o + i, none⟩ = some cs[i]) → U.ChAt w b o c) ∧ OkF c.f := by
  obtain ⟨ys, n', hn', rfl, hlen, hyl, hf⟩ := DataW.trod_struct Tryz.underlying66 h
  rw [cellsCh] at hlen
  obtain ⟨k0, k1, k2, k3, k4, k5, k6, rfl⟩ := len7 hlen
  obtain ⟨y0, y1, y2, y3, rfl⟩ := len4 (show ys.length = 4 from hyl)
  have g0 : DataW.trod enc Tryz.prog w base spare held n' 3 (List.take (Tryz.prog.cellsOf 3) [k0, k1, k2, k3, k4, k5, k6]) = some y0 := hf 0 _ rfl
  have g1 : DataW.trod enc Tryz.prog w base spare held n' 9 (List.take (Tryz.prog.cellsOf 9) [k1, k2, k3, k4, k5, k6]) = some y1 := hf 1 _ rfl
  have g2 : DataW.trod enc Tryz.prog w base spare held n' 9 (List.take (Tryz.prog.cellsOf 9) [k2, k3, k4, k5, k6]) = some y2 := hf 2 _ rfl
  have g3 : DataW.trod enc Tryz.prog w base spare held n' 64 (List.take (Tryz.prog.cellsOf 64) [k3, k4, k5, k6]) = some y3 := hf 3 _ rfl
  have w1 : Wt 9 y1.1 := wt_field Tryz.underlying66 hw (j := 1) rfl rfl
  have w2 : Wt 9 y2.1 := wt_field Tryz.underlying66 hw (j := 2) rfl rfl
  have w3 : Wt 64 y3.1 := wt_field Tryz.underlying66 hw (j := 3) rfl rfl
  rw [cellsInt] at g0
  rw [cellsString] at g1 g2
  rw [cellsFd] at g3
  obtain ⟨kd, e0, -⟩ := get_int g0
  obtain ⟨nm, e1, -, -⟩ := get_str g1 w1
  obtain ⟨tn, e2, -, -⟩ := get_str g2 w2
  obtain ⟨f, e3, z3, -⟩ := open_fd4 g3 w3
  simp at e0 e1 e2 e3
  obtain ⟨rfl, rfl, rfl, rfl⟩ := e3
  subst e0 e1 e2
  exact ⟨⟨kd, nm, tn, f⟩, fun b o h => ⟨h 0 (by simp), h 1 (by simp), h 2 (by simp), ⟨h 3 (by simp), h 4 (by simp), h 5 (by simp), h 6 (by simp)⟩⟩, z3⟩

def FitUp (u : U.Up) : Prop := ∀ c ∈ u.ch, OkF c.f

theorem open_up {n : Nat} {cs : List Value} {y : DataW H × List MemPlace} (h : DataW.trod enc Tryz.prog w base spare held n 61 cs = some y) (hw : Wt 61 y.1) :
    ∃ u : U.Up, (∀ b o, (∀ i (h : i < cs.length), w.cell? ⟨b, o + i, none⟩ = some cs[i]) → U.UAt w b o u) ∧ FitUp u ∧ u.ch.length * 88 ≤ 140737488351232 := by
  obtain ⟨ys, n', hn', rfl, hlen, hyl, hf⟩ := DataW.trod_struct Tryz.underlying61 h
  rw [cellsUp] at hlen
  obtain ⟨k0, k1, k2, rfl⟩ := len3 hlen
  obtain ⟨y0, y1, y2, rfl⟩ := len3 (show ys.length = 3 from hyl)
  have g0 : DataW.trod enc Tryz.prog w base spare held n' 9 (List.take (Tryz.prog.cellsOf 9) [k0, k1, k2]) = some y0 := hf 0 _ rfl
  have g1 : DataW.trod enc Tryz.prog w base spare held n' 3 (List.take (Tryz.prog.cellsOf 3) [k1, k2]) = some y1 := hf 1 _ rfl
  have g2 : DataW.trod enc Tryz.prog w base spare held n' 59 (List.take (Tryz.prog.cellsOf 59) [k2]) = some y2 := hf 2 _ rfl
  have w0 : Wt 9 y0.1 := wt_field Tryz.underlying61 hw (j := 0) rfl rfl
  have w2 : Wt 59 y2.1 := wt_field Tryz.underlying61 hw (j := 2) rfl rfl
  rw [cellsString] at g0
  rw [cellsInt] at g1
  rw [cellsChs] at g2
  obtain ⟨ty, e0, -, -⟩ := get_str g0 w0
  obtain ⟨fr, e1, -⟩ := get_int g1
  obtain ⟨v, l, e2, z0, z1, z2⟩ := open_sl 7 (by omega) U.ChAt (fun c => OkF c.f) Tryz.underlying59 cellsCh (fun n _ cs y hy hwy => open_ch hy hwy) g2 w2
  rw [bytesCh] at z2
  simp at e0 e1 e2
  subst e0 e1 e2
  exact ⟨⟨ty, fr, k2, l⟩, fun b o h => ⟨⟨h 0 (by simp), h 1 (by simp), h 2 (by simp)⟩, z0⟩, z1, z2⟩

theorem open_ups {n : Nat} {cs : List Value} {y : DataW H × List MemPlace} (h : DataW.trod enc Tryz.prog w base spare held n 25 cs = some y) (hw : Wt 25 y.1) :
    ∃ v l, cs = [v] ∧ U.UpsAt w v l ∧ (∀ u ∈ l, FitUp u ∧ u.ch.length * 88 ≤ 140737488351232) ∧ l.length * 48 ≤ 140737488351232 := by
  obtain ⟨v, l, e, z0, z1, z2⟩ := open_sl 3 (by omega) U.UAt (fun u => FitUp u ∧ u.ch.length * 88 ≤ 140737488351232) Tryz.underlying25 cellsUp (fun n _ cs y hy hwy => by
    obtain ⟨u, h1, h2, h3⟩ := open_up hy hwy
    exact ⟨u, h1, h2, h3⟩) h hw
  rw [bytesUp] at z2
  exact ⟨v, l, e, z0, z1, z2⟩

theorem open_sum {n : Nat} {cs : List Value} {y : DataW H × List MemPlace} (h : DataW.trod enc Tryz.prog w base spare held n 56 cs = some y) (hw : Wt 56 y.1) :
    ∃ s : Sm, (∀ b o, (∀ i (h : i < cs.length), w.cell? ⟨b, o + i, none⟩ = some cs[i]) → SmAt w b o s) ∧ FitS s := by
  obtain ⟨ys, n', hn', rfl, hlen, hyl, hf⟩ := DataW.trod_struct Tryz.underlying56 h
  rw [cellsSum] at hlen
  obtain ⟨k0, k1, k2, k3, k4, k5, k6, k7, k8, rfl⟩ := len9 hlen
  obtain ⟨y0, y1, y2, rfl⟩ := len3 (show ys.length = 3 from hyl)
  have g0 : DataW.trod enc Tryz.prog w base spare held n' 9 (List.take (Tryz.prog.cellsOf 9) [k0, k1, k2, k3, k4, k5, k6, k7, k8]) = some y0 := hf 0 _ rfl
  have g1 : DataW.trod enc Tryz.prog w base spare held n' 54 (List.take (Tryz.prog.cellsOf 54) [k1, k2, k3, k4, k5, k6, k7, k8]) = some y1 := hf 1 _ rfl
  have g2 : DataW.trod enc Tryz.prog w base spare held n' 54 (List.take (Tryz.prog.cellsOf 54) [k5, k6, k7, k8]) = some y2 := hf 2 _ rfl
  have w0 : Wt 9 y0.1 := wt_field Tryz.underlying56 hw (j := 0) rfl rfl
  have w1 : Wt 54 y1.1 := wt_field Tryz.underlying56 hw (j := 1) rfl rfl
  have w2 : Wt 54 y2.1 := wt_field Tryz.underlying56 hw (j := 2) rfl rfl
  rw [cellsString] at g0
  rw [cellsX] at g1 g2
  obtain ⟨ty, e0, z0, -⟩ := get_str g0 w0
  obtain ⟨a, e1, z1, z2⟩ := open_xp _ _ _ g1 w1
  obtain ⟨b, e2, z3, z4⟩ := open_xp _ _ _ g2 w2
  simp at e0 e1 e2
  obtain ⟨rfl, rfl, rfl, rfl⟩ := e1
  obtain ⟨rfl, rfl, rfl, rfl⟩ := e2
  subst e0
  exact ⟨⟨ty, a, b⟩, fun b o h => ⟨Sm9.of (h 0 (by simp)) ⟨h 1 (by simp), h 2 (by simp), h 3 (by simp), h 4 (by simp)⟩ ⟨h 5 (by simp), h 6 (by simp), h 7 (by simp), h 8 (by simp)⟩, z1, z3⟩, by show ty.size ≤ _; omega, z2, z4⟩

theorem open_prj {n : Nat} {cs : List Value} {y : DataW H × List MemPlace} (h : DataW.trod enc Tryz.prog w base spare held n 24 cs = some y) (hw : Wt 24 y.1) :
    ∃ nm v l, cs = [.string nm, v] ∧ nm.size ≤ 140737488355328 ∧ SumsAt w v l ∧ (∀ s ∈ l, FitS s) ∧ l.length * 128 ≤ 140737488351232 := by
  obtain ⟨ys, n', hn', rfl, hlen, hyl, hf⟩ := DataW.trod_struct Tryz.underlying24 h
  rw [cellsPrj] at hlen
  obtain ⟨k0, k1, rfl⟩ := len2 hlen
  obtain ⟨y0, y1, rfl⟩ := len2 (show ys.length = 2 from hyl)
  have g0 : DataW.trod enc Tryz.prog w base spare held n' 9 (List.take (Tryz.prog.cellsOf 9) [k0, k1]) = some y0 := hf 0 _ rfl
  have g1 : DataW.trod enc Tryz.prog w base spare held n' 22 (List.take (Tryz.prog.cellsOf 22) [k1]) = some y1 := hf 1 _ rfl
  have w0 : Wt 9 y0.1 := wt_field Tryz.underlying24 hw (j := 0) rfl rfl
  have w1 : Wt 22 y1.1 := wt_field Tryz.underlying24 hw (j := 1) rfl rfl
  rw [cellsString] at g0
  rw [cellsSums] at g1
  obtain ⟨nm, e0, z0, -⟩ := get_str g0 w0
  obtain ⟨v, l, e1, z1, z2, z3⟩ := open_sl 9 (by omega) SmAt FitS Tryz.underlying22 cellsSum (fun n _ cs y hy hwy => open_sum hy hwy) g1 w1
  rw [bytesSum] at z3
  simp at e0 e1
  subst e0 e1
  exact ⟨nm, k1, l, rfl, by omega, z1, z2, z3⟩

theorem open_ent {n : Nat} {cs : List Value} {y : DataW H × List MemPlace} (h : DataW.trod enc Tryz.prog w base spare held n 36 cs = some y) (hw : Wt 36 y.1) :
    ∃ e : Nt, (∀ b o, (∀ i (h : i < cs.length), w.cell? ⟨b, o + i, none⟩ = some cs[i]) → NtAt w b o e) ∧ FitNt e := by
  obtain ⟨ys, n', hn', rfl, hlen, hyl, hf⟩ := DataW.trod_struct Tryz.underlying36 h
  rw [cellsEnt] at hlen
  obtain ⟨k0, k1, k2, k3, k4, k5, rfl⟩ := len6 hlen
  obtain ⟨y0, y1, y2, y3, rfl⟩ := len4 (show ys.length = 4 from hyl)
  have g0 : DataW.trod enc Tryz.prog w base spare held n' 3 (List.take (Tryz.prog.cellsOf 3) [k0, k1, k2, k3, k4, k5]) = some y0 := hf 0 _ rfl
  have g1 : DataW.trod enc Tryz.prog w base spare held n' 9 (List.take (Tryz.prog.cellsOf 9) [k1, k2, k3, k4, k5]) = some y1 := hf 1 _ rfl
  have g2 : DataW.trod enc Tryz.prog w base spare held n' 3 (List.take (Tryz.prog.cellsOf 3) [k2, k3, k4, k5]) = some y2 := hf 2 _ rfl
  have g3 : DataW.trod enc Tryz.prog w base spare held n' 34 (List.take (Tryz.prog.cellsOf 34) [k3, k4, k5]) = some y3 := hf 3 _ rfl
  have w1 : Wt 9 y1.1 := wt_field Tryz.underlying36 hw (j := 1) rfl rfl
  have w3 : Wt 34 y3.1 := wt_field Tryz.underlying36 hw (j := 3) rfl rfl
  rw [cellsInt] at g0 g2
  rw [cellsString] at g1
  rw [cellsEvt] at g3
  obtain ⟨pos, e0, z0⟩ := get_int g0
  obtain ⟨st, e1, z1, -⟩ := get_str g1 w1
  obtain ⟨num, e2, z2⟩ := get_int g2
  obtain ⟨ty, ver, fv, l, e3, h1, h2, h3, h4, h5⟩ := open_ev g3 w3
  simp at e0 e1 e2 e3
  obtain ⟨rfl, rfl, rfl⟩ := e3
  subst e0 e1 e2
  refine ⟨⟨pos, st, num, ty, ver, _, l⟩, fun b o h => ⟨fun j u hu => ?_, h1⟩, z0, by show st.size ≤ _; omega, h5, ?_, fun f hf => (h2 f hf).1⟩
  · have hj : j < 6 := by
      rcases Nat.lt_or_ge j 6 with h | h
      · exact h
      · rw [List.getElem?_eq_none (by simpa using h)] at hu; cases hu
    have := h j (by simpa using hj)
    rw [List.getElem?_eq_getElem (by simpa using hj)] at hu
    rw [← Option.some.inj hu]
    exact this
  · show (max l.length 16 + 1) * 48 ≤ _
    omega

theorem open_ents {n : Nat} {cs : List Value} {y : DataW H × List MemPlace} (h : DataW.trod enc Tryz.prog w base spare held n 26 cs = some y) (hw : Wt 26 y.1) :
    ∃ v l, cs = [v] ∧ NtsAt w v l ∧ (∀ e ∈ l, FitNt e) ∧ l.length * 80 ≤ 140737488351232 := by
  obtain ⟨v, l, e, z0, z1, z2⟩ := open_sl 6 (by omega) NtAt FitNt Tryz.underlying26 cellsEnt (fun n _ cs y hy hwy => open_ent hy hwy) h hw
  rw [bytesEnt] at z2
  exact ⟨v, l, e, z0, z1, z2⟩
end
end Go.Proofs.YtajppgngoffonaaGreatDoor
