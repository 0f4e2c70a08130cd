/- Opening the arguments: tables, conditions, records, events, as the row's premise reads them; their sizes from the reach. -/
import Derived.Deep.Slices
import Derived.Deep.Fields
import Derived.ChangeSame
import Derived.SizedLaws
import Derived.Test.YtajppgngoffonaaGreatDoorGYa
import Derived.Test.YtajppgngoffonaaGreatDoorGEv
namespace Go.Proofs.YtajppgngoffonaaGreatDoor
open Go.ChangeShapes Go.WideShapes Go.ChangeAt Go.RowKit Go.Deep

section
variable {H : Type} {enc : TypeId × Value → H} {w : World} {base : Nat} {spare : Nat → Bool} {held : Bool}

/-- All that is in a datum is within reach. -/
def Wt (t : TypeId) (d : DataW H) : Prop := ∀ n ∈ d.weights Tryz.prog t, n ≤ 140737488351232

theorem wt_all {e : TypeId} : ∀ {l : List (DataW H)}, (∀ n ∈ DataW.weightsAll Tryz.prog e l, n ≤ 140737488351232) → ∀ d ∈ l, Wt e d := by
  intro l
  induction l with
  | nil => intro _ d hd; simp at hd
  | cons x l ih =>
    intro h d hd n hn
    simp only [DataW.weightsAll, List.mem_append] at h
    rcases List.mem_cons.1 hd with rfl | hd
    · exact h n (Or.inl hn)
    · exact ih (fun m hm => h m (Or.inr hm)) d hd n hn

theorem wt_field {t : TypeId} {fs : Array Field} (ht : Tryz.prog.underlying t = some (.struct fs)) {ys : List (DataW H × List MemPlace)} (h : Wt t (.agg (ys.map (·.1)))) {j : Nat} {f : Field} (hf : fs[j]? = some f) {y : DataW H × List MemPlace} (hy : ys[j]? = some y) : Wt f.type y.1 := by
  intro n hn
  refine h n ?_
  simp only [DataW.weights, ht]
  exact DataW.weights_mem_each (j := j) (by rw [List.getElem?_map, Array.getElem?_toList, hf]; rfl) (by rw [List.getElem?_map, hy]; rfl) n hn

theorem wt_string {t : TypeId} {s : ByteArray} (h : Wt t ((.lit (.string s.data.toList)) : DataW H)) : s.size ≤ 140737488351232 := by
  have := h s.data.toList.length (by simp [DataW.weights])
  simpa using this

theorem wt_arg {ts : List TypeId} {ds : List (DataW H)} (h : (DataW.weightsEach Tryz.prog ts ds).all (· ≤ reachBytes) = true) {j : Nat} {t : TypeId} {d : DataW H} (ht : ts[j]? = some t) (hd : ds[j]? = some d) : Wt t d := by
  intro n hn
  have := List.all_eq_true.1 h n (DataW.weights_mem_each ht hd n hn)
  have hr : reachBytes = 140737488351232 := rfl
  rw [hr] at this
  simpa using this

/-- A slice, opened element by element. -/
theorem open_sl {α : Type} (k : Nat) (hk0 : 0 < k) (At : World → Nat → Nat → α → Prop) (G : α → Prop) {t e : TypeId} (ht : Tryz.prog.underlying t = some (.slice e)) (hk : Tryz.prog.cellsOf e = k) {fuel : Nat}
    (hel : ∀ n, n < fuel → ∀ cs y, DataW.trod enc Tryz.prog w base spare held n e cs = some y → Wt e y.1 → ∃ x : α, (∀ b o, (∀ i (h : i < cs.length), w.cell? ⟨b, o + i, none⟩ = some cs[i]) → At w b o x) ∧ G x)
    {cs : List Value} {x : DataW H × List MemPlace} (h : DataW.trod enc Tryz.prog w base spare held fuel t cs = some x) (hw : Wt t x.1) :
    ∃ v l, cs = [v] ∧ SlAt k At w v l ∧ (∀ y ∈ l, G y) ∧ l.length * Tryz.prog.bytesOf e ≤ 140737488351232 := by
  rcases DataW.trod_slice ht h with ⟨rfl, hx⟩ | ⟨a, len, cap, elems, rest, n, hn, rfl, rfl, hb, hl, hm, hlen, hi, -, -⟩
  · exact ⟨_, [], rfl, ⟨none, 0, rfl, Nat.le_refl _, by unfold maxLen; omega, fun i hi => absurd hi (by simp)⟩, by simp, by simp⟩
  · simp only [Wt, DataW.weights, ht, List.mem_cons, List.mem_append] at hw
    have hsz := hw _ (Or.inl rfl)
    have hwe : ∀ j (hj : j < elems.length), Wt e elems[j].1 := fun j hj => wt_all (fun m hm => hw m (Or.inr (Or.inl hm))) _ (List.mem_map.2 ⟨_, List.getElem_mem hj, rfl⟩)
    have hcell : ∀ j, j < len → ∃ cs', w.cells? base (a.add (j * Tryz.prog.cellsOf e)) (Tryz.prog.cellsOf e) = some cs' ∧ ∃ y, elems[j]? = some y ∧ DataW.trod enc Tryz.prog w base spare held n e cs' = some y := fun j hj => by
      have := hi j hj
      rw [List.getElem?_eq_getElem (by omega)] at this
      obtain ⟨cs', h1, h2⟩ := Option.bind_eq_some_iff.1 this
      exact ⟨cs', h1, _, List.getElem?_eq_getElem (by omega), h2⟩
    have hE : ∀ j, j < len → ∃ y : α, (∃ b off, a = ⟨b, off, none⟩ ∧ At w b (off + j * k) y) ∧ G y := fun j hj => by
      obtain ⟨cs', hc, y, hy, ht'⟩ := hcell j hj
      rw [hk] at hc
      have hwy : Wt e y.1 := by
        have := hwe j (by omega)
        rw [List.getElem?_eq_getElem (by omega)] at hy
        obtain rfl := Option.some.inj hy
        exact this
      obtain ⟨z, hz, hg⟩ := hel _ (by omega) _ _ ht' hwy
      obtain ⟨_, hcl, hat⟩ := World.cells?_some hc
      obtain ⟨b, off, spot⟩ := a
      have hspot : spot = none := by
        obtain ⟨ds, hd, -⟩ := hcell 0 (by omega)
        rw [hk] at hd
        obtain ⟨-, hdl, hdt⟩ := World.cells?_some hd
        have := hdt 0 (by omega)
        rw [List.getElem?_eq_getElem (by omega)] at this
        simpa [Addr.add] using World.cell?_spot this
      subst hspot
      refine ⟨z, ⟨b, off, rfl, hz b (off + j * k) fun i hi => ?_⟩, hg⟩
      have := hat i (by omega)
      rw [add_plain, add_plain, List.getElem?_eq_getElem hi] at this
      exact this
    refine ⟨_, List.ofFn (fun i : Fin len => (hE i.1 i.2).choose), rfl, ⟨some a, cap, by rw [List.length_ofFn], by rw [List.length_ofFn]; exact hl, hm, fun i hi => ?_⟩, fun y hy => ?_, ?_⟩
    · rw [List.length_ofFn] at hi
      obtain ⟨b, off, e, hA⟩ := (hE i hi).choose_spec.1
      refine ⟨b, off, by rw [e], ?_⟩
      rw [List.getElem_ofFn]
      exact hA
    · obtain ⟨i, rfl⟩ := List.mem_ofFn.1 hy
      exact (hE i.1 i.2).choose_spec.2
    · rw [List.length_ofFn]
      refine Nat.le_trans (Nat.mul_le_mul_right _ ?_) hsz
      simp [hlen]

theorem cellsX : Tryz.prog.cellsOf 54 = 4 := by kernel_rfl
theorem cellsC : Tryz.prog.cellsOf 168 = 10 := by kernel_rfl
theorem cellsA : Tryz.prog.cellsOf 104 = 5 := by kernel_rfl
theorem cellsM : Tryz.prog.cellsOf 192 = 2 := by kernel_rfl
theorem cellsK : Tryz.prog.cellsOf 159 = 3 := by kernel_rfl
theorem cellsNd : Tryz.prog.cellsOf 154 = 2 := by kernel_rfl
theorem cellsH : Tryz.prog.cellsOf 152 = 3 := by kernel_rfl
theorem cellsE : Tryz.prog.cellsOf 108 = 3 := by kernel_rfl
theorem cellsRu : Tryz.prog.cellsOf 113 = 2 := by kernel_rfl
theorem cellsFd : Tryz.prog.cellsOf 64 = 4 := by kernel_rfl
theorem cellsEvt : Tryz.prog.cellsOf 34 = 3 := by kernel_rfl
theorem cellsInt : Tryz.prog.cellsOf 3 = 1 := by kernel_rfl
theorem cellsBool : Tryz.prog.cellsOf 4 = 1 := by kernel_rfl
theorem cellsString : Tryz.prog.cellsOf 9 = 1 := by kernel_rfl
theorem cellsXs : Tryz.prog.cellsOf 52 = 1 := by kernel_rfl
theorem cellsCs : Tryz.prog.cellsOf 156 = 1 := by kernel_rfl
theorem cellsAs : Tryz.prog.cellsOf 105 = 1 := by kernel_rfl
theorem cellsMs : Tryz.prog.cellsOf 157 = 1 := by kernel_rfl
theorem cellsKs : Tryz.prog.cellsOf 150 = 1 := by kernel_rfl
theorem cellsNds : Tryz.prog.cellsOf 149 = 1 := by kernel_rfl
theorem cellsHs : Tryz.prog.cellsOf 111 = 1 := by kernel_rfl
theorem cellsEs : Tryz.prog.cellsOf 110 = 1 := by kernel_rfl
theorem cellsFds : Tryz.prog.cellsOf 32 = 1 := by kernel_rfl
theorem cellsStrs : Tryz.prog.cellsOf 106 = 1 := by kernel_rfl

theorem wf64 {n : Int} (h : (Lit.int .i64 n).wf = true) : In64 n := by
  have e0 : IntKind.i64.min = -9223372036854775808 := by decide
  have e1 : IntKind.i64.max = 9223372036854775807 := by decide
  have := h
  simp only [Lit.wf, Bool.and_eq_true, decide_eq_true_eq, e0, e1] at this
  exact this

theorem len2 {α : Type} {l : List α} (h : l.length = 2) : ∃ a b, l = [a, b] := by
  match l, h with
  | [a, b], _ => exact ⟨a, b, rfl⟩
theorem len3 {α : Type} {l : List α} (h : l.length = 3) : ∃ a b c, l = [a, b, c] := by
  match l, h with
  | [a, b, c], _ => exact ⟨a, b, c, rfl⟩
theorem len4 {α : Type} {l : List α} (h : l.length = 4) : ∃ a b c d, l = [a, b, c, d] := by
  match l, h with
  | [a, b, c, d], _ => exact ⟨a, b, c, d, rfl⟩
theorem len5 {α : Type} {l : List α} (h : l.length = 5) : ∃ a b c d e, l = [a, b, c, d, e] := by
  match l, h with
  | [a, b, c, d, e], _ => exact ⟨a, b, c, d, e, rfl⟩
theorem len10 {α : Type} {l : List α} (h : l.length = 10) : ∃ a b c d e f g i j k, l = [a, b, c, d, e, f, g, i, j, k] := by
  match l, h with
  | [a, b, c, d, e, f, g, i, j, k], _ => exact ⟨a, b, c, d, e, f, g, i, j, k, rfl⟩

theorem get_str {n : Nat} {cs : List Value} {y : DataW H × List MemPlace} (h : DataW.trod enc Tryz.prog w base spare held n 9 cs = some y) (hw : Wt 9 y.1) : ∃ s : ByteArray, cs = [.string s] ∧ s.size ≤ 140737488351232 ∧ s.size ≤ maxLen := by
  obtain ⟨s, e, rfl, z⟩ := DataW.trod_string Tryz.underlying9 h
  exact ⟨s, e, wt_string hw, z⟩
theorem get_int {n : Nat} {cs : List Value} {y : DataW H × List MemPlace} (h : DataW.trod enc Tryz.prog w base spare held n 3 cs = some y) : ∃ k, cs = [.int .i64 k] ∧ In64 k := by
  obtain ⟨s, e, -, z⟩ := DataW.trod_int Tryz.underlying3 h
  exact ⟨s, e, wf64 z⟩
theorem get_bool {n : Nat} {cs : List Value} {y : DataW H × List MemPlace} (h : DataW.trod enc Tryz.prog w base spare held n 4 cs = some y) : ∃ k, cs = [.bool k] := by
  obtain ⟨s, e, -⟩ := DataW.trod_bool Tryz.underlying4 h
  exact ⟨s, e⟩

/-- An expression. -/
theorem open_xp : ∀ (fuel : Nat) (cs : List Value) (y : DataW H × List MemPlace), DataW.trod enc Tryz.prog w base spare held fuel 54 cs = some y → Wt 54 y.1 →
    ∃ x : Xp, cs = [.int .i64 x.kd, .int .i64 x.n, .string x.s, x.av] ∧ KidsAt w x.av x.kids ∧ fitX x := by
  intro fuel
  induction fuel using Nat.strongRecOn with
  | _ fuel ih =>
    intro cs y h hw
    obtain ⟨ys, n', hn', rfl, hlen, hyl, hf⟩ := DataW.trod_struct Tryz.underlying54 h
    rw [cellsX] at hlen
    obtain ⟨k0, k1, k2, k3, rfl⟩ := len4 hlen
    obtain ⟨y0, y1, y2, y3, rfl⟩ := len4 (show ys.length = 4 from hyl)
    have g0 : DataW.trod enc Tryz.prog w base spare held n' 3 (List.take (Tryz.prog.cellsOf 3) [k0, k1, k2, k3]) = some y0 := hf 0 _ rfl
    have g1 : DataW.trod enc Tryz.prog w base spare held n' 3 (List.take (Tryz.prog.cellsOf 3) [k1, k2, k3]) = some y1 := hf 1 _ rfl
    have g2 : DataW.trod enc Tryz.prog w base spare held n' 9 (List.take (Tryz.prog.cellsOf 9) [k2, k3]) = some y2 := hf 2 _ rfl
    have g3 : DataW.trod enc Tryz.prog w base spare held n' 52 (List.take (Tryz.prog.cellsOf 52) [k3]) = some y3 := hf 3 _ rfl
    have w2 : Wt 9 y2.1 := wt_field Tryz.underlying54 hw (j := 2) rfl rfl
    have w3 : Wt 52 y3.1 := wt_field Tryz.underlying54 hw (j := 3) rfl rfl
    rw [cellsInt] at g0 g1
    rw [cellsString] at g2
    rw [cellsXs] at g3
    obtain ⟨kd, e0, z0⟩ := get_int g0
    obtain ⟨nn, e1, z1⟩ := get_int g1
    obtain ⟨s, e2, z2, -⟩ := get_str g2 w2
    obtain ⟨v, l, e3, z3, z4, -⟩ := open_sl 4 (by omega) XpAt fitX Tryz.underlying52 cellsX (fun n hn cs y hy hwy => by
      obtain ⟨x, rfl, hk, hx⟩ := ih n (by omega) cs y hy hwy
      exact ⟨x, fun b o h => ⟨⟨h 0 (by simp), h 1 (by simp), h 2 (by simp), h 3 (by simp)⟩, hk⟩, hx⟩) g3 w3
    simp at e0 e1 e2 e3
    subst e0 e1 e2 e3
    refine ⟨⟨kd, nn, s, k3, Ex.of l⟩, rfl, (kidsAt_iff _ _ _).2 (by rw [Ex.list_of]; exact z3), ⟨z0, z1, by show s.size ≤ _; omega⟩, (fit_list _).2 (by rw [Ex.list_of]; exact z4)⟩

/-- A condition. -/
theorem open_cd {n : Nat} {cs : List Value} {y : DataW H × List MemPlace} (h : DataW.trod enc Tryz.prog w base spare held n 168 cs = some y) (hw : Wt 168 y.1) :
    ∃ c : Cd, cs = [.int .i64 c.kd, .bool c.nt, .int .i64 c.a.kd, .int .i64 c.a.n, .string c.a.s, c.a.av, .int .i64 c.b.kd, .int .i64 c.b.n, .string c.b.s, c.b.av] ∧ KidsAt w c.a.av c.a.kids ∧ KidsAt w c.b.av c.b.kids ∧ FitC c := by
  obtain ⟨ys, n', hn', rfl, hlen, hyl, hf⟩ := DataW.trod_struct Tryz.underlying168 h
  rw [cellsC] at hlen
  obtain ⟨k0, k1, k2, k3, k4, k5, k6, k7, k8, k9, rfl⟩ := len10 hlen
  obtain ⟨y0, y1, y2, y3, rfl⟩ := len4 (show ys.length = 4 from hyl)
  have g0 : DataW.trod enc Tryz.prog w base spare held n' 3 (List.take (Tryz.prog.cellsOf 3) [k0, k1, k2, k3, k4, k5, k6, k7, k8, k9]) = some y0 := hf 0 _ rfl
  have g1 : DataW.trod enc Tryz.prog w base spare held n' 4 (List.take (Tryz.prog.cellsOf 4) [k1, k2, k3, k4, k5, k6, k7, k8, k9]) = some y1 := hf 1 _ rfl
  have g2 : DataW.trod enc Tryz.prog w base spare held n' 54 (List.take (Tryz.prog.cellsOf 54) [k2, k3, k4, k5, k6, k7, k8, k9]) = some y2 := hf 2 _ rfl
  have g3 : DataW.trod enc Tryz.prog w base spare held n' 54 (List.take (Tryz.prog.cellsOf 54) [k6, k7, k8, k9]) = some y3 := hf 3 _ rfl
  have w2 : Wt 54 y2.1 := wt_field Tryz.underlying168 hw (j := 2) rfl rfl
  have w3 : Wt 54 y3.1 := wt_field Tryz.underlying168 hw (j := 3) rfl rfl
  rw [cellsInt] at g0
  rw [cellsBool] at g1
  rw [cellsX] at g2 g3
  obtain ⟨kd, e0, z0⟩ := get_int g0
  obtain ⟨nt, e1⟩ := get_bool g1
  obtain ⟨a, e2, z2, z3⟩ := open_xp _ _ _ g2 w2
  obtain ⟨b, e3, z4, z5⟩ := open_xp _ _ _ g3 w3
  simp at e0 e1 e2 e3
  obtain ⟨rfl, rfl, rfl, rfl⟩ := e2
  obtain ⟨rfl, rfl, rfl, rfl⟩ := e3
  subst e0 e1
  exact ⟨⟨kd, nt, a, b⟩, rfl, z2, z4, z0, z3, z5⟩

theorem open_asg {n : Nat} {cs : List Value} {y : DataW H × List MemPlace} (h : DataW.trod enc Tryz.prog w base spare held n 104 cs = some y) (hw : Wt 104 y.1) :
    ∃ c : Asg, (∀ b o, (∀ i (h : i < cs.length), w.cell? ⟨b, o + i, none⟩ = some cs[i]) → AsgAt w b o c) ∧ FitA c := by
  obtain ⟨ys, n', hn', rfl, hlen, hyl, hf⟩ := DataW.trod_struct Tryz.underlying104 h
  rw [cellsA] at hlen
  obtain ⟨k0, k1, k2, k3, k4, rfl⟩ := len5 hlen
  obtain ⟨y0, y1, rfl⟩ := len2 (show ys.length = 2 from hyl)
  have g0 : DataW.trod enc Tryz.prog w base spare held n' 9 (List.take (Tryz.prog.cellsOf 9) [k0, k1, k2, k3, k4]) = some y0 := hf 0 _ rfl
  have g1 : DataW.trod enc Tryz.prog w base spare held n' 54 (List.take (Tryz.prog.cellsOf 54) [k1, k2, k3, k4]) = some y1 := hf 1 _ rfl
  have w0 : Wt 9 y0.1 := wt_field Tryz.underlying104 hw (j := 0) rfl rfl
  have w1 : Wt 54 y1.1 := wt_field Tryz.underlying104 hw (j := 1) rfl rfl
  rw [cellsString] at g0
  rw [cellsX] at g1
  obtain ⟨s, e0, z0, -⟩ := get_str g0 w0
  obtain ⟨a, e1, z1, z2⟩ := open_xp _ _ _ g1 w1
  simp at e0 e1
  obtain ⟨rfl, rfl, rfl, rfl⟩ := e1
  subst e0
  exact ⟨⟨s, a⟩, fun b o h => ⟨h 0 (by simp), ⟨h 1 (by simp), h 2 (by simp), h 3 (by simp), h 4 (by simp)⟩, z1⟩, by show s.size ≤ _; omega, z2⟩

theorem bytesA : Tryz.prog.bytesOf 104 = 72 := by kernel_rfl
theorem bytesM : Tryz.prog.bytesOf 192 = 40 := by kernel_rfl
theorem bytesNd : Tryz.prog.bytesOf 154 = 24 := by kernel_rfl
theorem bytesH : Tryz.prog.bytesOf 152 = 64 := by kernel_rfl
theorem bytesE : Tryz.prog.bytesOf 108 = 64 := by kernel_rfl
theorem bytesS : Tryz.prog.bytesOf 9 = 16 := by kernel_rfl
theorem bytesFd : Tryz.prog.bytesOf 64 = 48 := by kernel_rfl
theorem bytesEvt : Tryz.prog.bytesOf 34 = 48 := by kernel_rfl

theorem open_asgs {n : Nat} {cs : List Value} {y : DataW H × List MemPlace} (h : DataW.trod enc Tryz.prog w base spare held n 105 cs = some y) (hw : Wt 105 y.1) :
    ∃ v l, cs = [v] ∧ AsgsAt w v l ∧ (∀ y ∈ l, FitA y) ∧ l.length * 72 ≤ 140737488351232 := by
  obtain ⟨v, l, e, z0, z1, z2⟩ := open_sl 5 (by omega) AsgAt FitA Tryz.underlying105 cellsA (fun n _ cs y hy hwy => open_asg hy hwy) h hw
  rw [bytesA] at z2
  exact ⟨v, l, e, z0, z1, z2⟩

theorem open_emt {n : Nat} {cs : List Value} {y : DataW H × List MemPlace} (h : DataW.trod enc Tryz.prog w base spare held n 192 cs = some y) (hw : Wt 192 y.1) :
    ∃ c : Emt, (∀ b o, (∀ i (h : i < cs.length), w.cell? ⟨b, o + i, none⟩ = some cs[i]) → EmtAt w b o c) ∧ FitM c := by
  obtain ⟨ys, n', hn', rfl, hlen, hyl, hf⟩ := DataW.trod_struct Tryz.underlying192 h
  rw [cellsM] at hlen
  obtain ⟨k0, k1, rfl⟩ := len2 hlen
  obtain ⟨y0, y1, rfl⟩ := len2 (show ys.length = 2 from hyl)
  have g0 : DataW.trod enc Tryz.prog w base spare held n' 9 (List.take (Tryz.prog.cellsOf 9) [k0, k1]) = some y0 := hf 0 _ rfl
  have g1 : DataW.trod enc Tryz.prog w base spare held n' 105 (List.take (Tryz.prog.cellsOf 105) [k1]) = some y1 := hf 1 _ rfl
  have w0 : Wt 9 y0.1 := wt_field Tryz.underlying192 hw (j := 0) rfl rfl
  have w1 : Wt 105 y1.1 := wt_field Tryz.underlying192 hw (j := 1) rfl rfl
  rw [cellsString] at g0
  rw [cellsAs] at g1
  obtain ⟨s, e0, z0, -⟩ := get_str g0 w0
  obtain ⟨v, l, e1, z1, z2, z3⟩ := open_asgs g1 w1
  simp at e0 e1
  subst e0 e1
  exact ⟨⟨s, k1, l⟩, fun b o h => ⟨⟨h 0 (by simp), h 1 (by simp)⟩, z1⟩, by show s.size ≤ _; omega, by show l.length * 72 ≤ _; omega, z2⟩

theorem open_cse {n : Nat} {cs : List Value} {y : DataW H × List MemPlace} (h : DataW.trod enc Tryz.prog w base spare held n 159 cs = some y) (hw : Wt 159 y.1) :
    ∃ c : Cse, (∀ b o, (∀ i (h : i < cs.length), w.cell? ⟨b, o + i, none⟩ = some cs[i]) → CseAt w b o c) ∧ FitK c := by
  obtain ⟨ys, n', hn', rfl, hlen, hyl, hf⟩ := DataW.trod_struct Tryz.underlying159 h
  rw [cellsK] at hlen
  obtain ⟨k0, k1, k2, rfl⟩ := len3 hlen
  obtain ⟨y0, y1, y2, rfl⟩ := len3 (show ys.length = 3 from hyl)
  have g0 : DataW.trod enc Tryz.prog w base spare held n' 156 (List.take (Tryz.prog.cellsOf 156) [k0, k1, k2]) = some y0 := hf 0 _ rfl
  have g1 : DataW.trod enc Tryz.prog w base spare held n' 9 (List.take (Tryz.prog.cellsOf 9) [k1, k2]) = some y1 := hf 1 _ rfl
  have g2 : DataW.trod enc Tryz.prog w base spare held n' 157 (List.take (Tryz.prog.cellsOf 157) [k2]) = some y2 := hf 2 _ rfl
  have w0 : Wt 156 y0.1 := wt_field Tryz.underlying159 hw (j := 0) rfl rfl
  have w1 : Wt 9 y1.1 := wt_field Tryz.underlying159 hw (j := 1) rfl rfl
  have w2 : Wt 157 y2.1 := wt_field Tryz.underlying159 hw (j := 2) rfl rfl
  rw [cellsCs] at g0
  rw [cellsString] at g1
  rw [cellsMs] at g2
  obtain ⟨v0, l0, e0, z0, z1, -⟩ := open_sl 10 (by omega) CdAt FitC Tryz.underlying156 cellsC (fun n _ cs y hy hwy => by
    obtain ⟨c, rfl, h1, h2, h3⟩ := open_cd hy hwy
    exact ⟨c, fun b o h => ⟨⟨h 0 (by simp), h 1 (by simp), ⟨h 2 (by simp), h 3 (by simp), h 4 (by simp), h 5 (by simp)⟩, ⟨h 6 (by simp), h 7 (by simp), h 8 (by simp), h 9 (by simp)⟩⟩, h1, h2⟩, h3⟩) g0 w0
  obtain ⟨s, e1, z2, -⟩ := get_str g1 w1
  obtain ⟨v2, l2, e2, z3, z4, z5⟩ := open_sl 2 (by omega) EmtAt FitM Tryz.underlying157 cellsM (fun n _ cs y hy hwy => open_emt hy hwy) g2 w2
  rw [bytesM] at z5
  simp at e0 e1 e2
  subst e0 e1 e2
  exact ⟨⟨k0, l0, s, k2, l2⟩, fun b o h => ⟨⟨h 0 (by simp), h 1 (by simp), h 2 (by simp)⟩, z0, z3⟩, by show s.size ≤ _; omega, by show l2.length * 40 ≤ _; omega, z1, z4⟩

theorem open_ned {n : Nat} {cs : List Value} {y : DataW H × List MemPlace} (h : DataW.trod enc Tryz.prog w base spare held n 154 cs = some y) (hw : Wt 154 y.1) :
    ∃ c : Ned, (∀ b o, (∀ i (h : i < cs.length), w.cell? ⟨b, o + i, none⟩ = some cs[i]) → NedAt w b o c) ∧ FitNd c := by
  obtain ⟨ys, n', hn', rfl, hlen, hyl, hf⟩ := DataW.trod_struct Tryz.underlying154 h
  rw [cellsNd] at hlen
  obtain ⟨k0, k1, rfl⟩ := len2 hlen
  obtain ⟨y0, y1, rfl⟩ := len2 (show ys.length = 2 from hyl)
  have g0 : DataW.trod enc Tryz.prog w base spare held n' 9 (List.take (Tryz.prog.cellsOf 9) [k0, k1]) = some y0 := hf 0 _ rfl
  have g1 : DataW.trod enc Tryz.prog w base spare held n' 4 (List.take (Tryz.prog.cellsOf 4) [k1]) = some y1 := hf 1 _ rfl
  have w0 : Wt 9 y0.1 := wt_field Tryz.underlying154 hw (j := 0) rfl rfl
  rw [cellsString] at g0
  rw [cellsBool] at g1
  obtain ⟨s, e0, z0, -⟩ := get_str g0 w0
  obtain ⟨t, e1⟩ := get_bool g1
  simp at e0 e1
  subst e0 e1
  exact ⟨⟨s, t⟩, fun b o h => ⟨h 0 (by simp), h 1 (by simp)⟩, by show s.size ≤ _; omega⟩

theorem open_hdl {n : Nat} {cs : List Value} {y : DataW H × List MemPlace} (h : DataW.trod enc Tryz.prog w base spare held n 152 cs = some y) (hw : Wt 152 y.1) :
    ∃ c : Hdl, (∀ b o, (∀ i (h : i < cs.length), w.cell? ⟨b, o + i, none⟩ = some cs[i]) → HdlAt w b o c) ∧ FitH c := by
  obtain ⟨ys, n', hn', rfl, hlen, hyl, hf⟩ := DataW.trod_struct Tryz.underlying152 h
  rw [cellsH] at hlen
  obtain ⟨k0, k1, k2, rfl⟩ := len3 hlen
  obtain ⟨y0, y1, y2, rfl⟩ := len3 (show ys.length = 3 from hyl)
  have g0 : DataW.trod enc Tryz.prog w base spare held n' 9 (List.take (Tryz.prog.cellsOf 9) [k0, k1, k2]) = some y0 := hf 0 _ rfl
  have g1 : DataW.trod enc Tryz.prog w base spare held n' 149 (List.take (Tryz.prog.cellsOf 149) [k1, k2]) = some y1 := hf 1 _ rfl
  have g2 : DataW.trod enc Tryz.prog w base spare held n' 150 (List.take (Tryz.prog.cellsOf 150) [k2]) = some y2 := hf 2 _ rfl
  have w0 : Wt 9 y0.1 := wt_field Tryz.underlying152 hw (j := 0) rfl rfl
  have w1 : Wt 149 y1.1 := wt_field Tryz.underlying152 hw (j := 1) rfl rfl
  have w2 : Wt 150 y2.1 := wt_field Tryz.underlying152 hw (j := 2) rfl rfl
  rw [cellsString] at g0
  rw [cellsNds] at g1
  rw [cellsKs] at g2
  obtain ⟨s, e0, z0, -⟩ := get_str g0 w0
  obtain ⟨v1, l1, e1, z1, z2, z3⟩ := open_sl 2 (by omega) NedAt FitNd Tryz.underlying149 cellsNd (fun n _ cs y hy hwy => open_ned hy hwy) g1 w1
  obtain ⟨v2, l2, e2, z4, z5, -⟩ := open_sl 3 (by omega) CseAt FitK Tryz.underlying150 cellsK (fun n _ cs y hy hwy => open_cse hy hwy) g2 w2
  rw [bytesNd] at z3
  simp at e0 e1 e2
  subst e0 e1 e2
  exact ⟨⟨s, k1, l1, k2, l2⟩, fun b o h => ⟨⟨h 0 (by simp), h 1 (by simp), h 2 (by simp)⟩, z1, z4⟩, by show s.size ≤ _; omega, by show l1.length * 24 ≤ _; omega, z2, z5⟩

theorem open_strs {n : Nat} {cs : List Value} {y : DataW H × List MemPlace} (h : DataW.trod enc Tryz.prog w base spare held n 106 cs = some y) (hw : Wt 106 y.1) :
    ∃ v l, cs = [v] ∧ StrsAt w v l ∧ (∀ y ∈ l, y.size ≤ 140737488355328) ∧ l.length * 16 ≤ 140737488351232 := by
  obtain ⟨v, l, e, z0, z1, z2⟩ := open_sl 1 (by omega) StrAt (fun s => s.size ≤ 140737488355328) Tryz.underlying106 cellsString (fun n _ cs y hy hwy => by
    obtain ⟨s, rfl, h1, -⟩ := get_str hy hwy
    exact ⟨s, fun b o h => h 0 (by simp), by omega⟩) h hw
  rw [bytesS] at z2
  exact ⟨v, l, e, z0, z1, z2⟩

theorem open_evo {n : Nat} {cs : List Value} {y : DataW H × List MemPlace} (h : DataW.trod enc Tryz.prog w base spare held n 108 cs = some y) (hw : Wt 108 y.1) :
    ∃ c : Evo, (∀ b o, (∀ i (h : i < cs.length), w.cell? ⟨b, o + i, none⟩ = some cs[i]) → EvoAt w b o c) ∧ FitE c := by
  obtain ⟨ys, n', hn', rfl, hlen, hyl, hf⟩ := DataW.trod_struct Tryz.underlying108 h
  rw [cellsE] at hlen
  obtain ⟨k0, k1, k2, rfl⟩ := len3 hlen
  obtain ⟨y0, y1, y2, rfl⟩ := len3 (show ys.length = 3 from hyl)
  have g0 : DataW.trod enc Tryz.prog w base spare held n' 9 (List.take (Tryz.prog.cellsOf 9) [k0, k1, k2]) = some y0 := hf 0 _ rfl
  have g1 : DataW.trod enc Tryz.prog w base spare held n' 105 (List.take (Tryz.prog.cellsOf 105) [k1, k2]) = some y1 := hf 1 _ rfl
  have g2 : DataW.trod enc Tryz.prog w base spare held n' 106 (List.take (Tryz.prog.cellsOf 106) [k2]) = some y2 := hf 2 _ rfl
  have w0 : Wt 9 y0.1 := wt_field Tryz.underlying108 hw (j := 0) rfl rfl
  have w1 : Wt 105 y1.1 := wt_field Tryz.underlying108 hw (j := 1) rfl rfl
  have w2 : Wt 106 y2.1 := wt_field Tryz.underlying108 hw (j := 2) rfl rfl
  rw [cellsString] at g0
  rw [cellsAs] at g1
  rw [cellsStrs] at g2
  obtain ⟨s, e0, z0, -⟩ := get_str g0 w0
  obtain ⟨v1, l1, e1, z1, z2, z3⟩ := open_asgs g1 w1
  obtain ⟨v2, l2, e2, z4, z5, z6⟩ := open_strs g2 w2
  simp at e0 e1 e2
  subst e0 e1 e2
  exact ⟨⟨s, k1, l1, k2, l2⟩, fun b o h => ⟨⟨h 0 (by simp), h 1 (by simp), h 2 (by simp)⟩, z1, z4⟩, by show s.size ≤ _; omega, by show l1.length * 72 ≤ _; omega, by show l2.length * 16 ≤ _; omega, z2, z5⟩

/-- A table. -/
theorem open_rules {n : Nat} {cs : List Value} {y : DataW H × List MemPlace} (h : DataW.trod enc Tryz.prog w base spare held n 113 cs = some y) (hw : Wt 113 y.1) :
    ∃ hv ev hs es, cs = [hv, ev] ∧ HdlsAt w hv hs ∧ EvosAt w ev es ∧ FitR hs es := by
  obtain ⟨ys, n', hn', rfl, hlen, hyl, hf⟩ := DataW.trod_struct Tryz.underlying113 h
  rw [cellsRu] at hlen
  obtain ⟨k0, k1, rfl⟩ := len2 hlen
  obtain ⟨y0, y1, rfl⟩ := len2 (show ys.length = 2 from hyl)
  have g0 : DataW.trod enc Tryz.prog w base spare held n' 111 (List.take (Tryz.prog.cellsOf 111) [k0, k1]) = some y0 := hf 0 _ rfl
  have g1 : DataW.trod enc Tryz.prog w base spare held n' 110 (List.take (Tryz.prog.cellsOf 110) [k1]) = some y1 := hf 1 _ rfl
  have w0 : Wt 111 y0.1 := wt_field Tryz.underlying113 hw (j := 0) rfl rfl
  have w1 : Wt 110 y1.1 := wt_field Tryz.underlying113 hw (j := 1) rfl rfl
  rw [cellsHs] at g0
  rw [cellsEs] at g1
  obtain ⟨v0, l0, e0, z0, z1, z2⟩ := open_sl 3 (by omega) HdlAt FitH Tryz.underlying111 cellsH (fun n _ cs y hy hwy => open_hdl hy hwy) g0 w0
  obtain ⟨v1, l1, e1, z3, z4, z5⟩ := open_sl 3 (by omega) EvoAt FitE Tryz.underlying110 cellsE (fun n _ cs y hy hwy => open_evo hy hwy) g1 w1
  rw [bytesH] at z2
  rw [bytesE] at z5
  simp at e0 e1
  subst e0 e1
  exact ⟨k0, k1, l0, l1, rfl, z0, z3, by omega, by omega, z1, z4⟩

/-- A record. -/
theorem open_rec {n : Nat} {cs : List Value} {y : DataW H × List MemPlace} (h : DataW.trod enc Tryz.prog w base spare held n 32 cs = some y) (hw : Wt 32 y.1) :
    ∃ v l, cs = [v] ∧ RecAt w v l ∧ (∀ y ∈ l, OkF y ∧ y.nm.size ≤ 140737488355328) ∧ (l.length + 1) * 48 ≤ 140737488355328 := by
  obtain ⟨v, l, e, z0, z1, z2⟩ := open_sl 4 (by omega) FAt (fun s => OkF s ∧ s.nm.size ≤ 140737488355328) Tryz.underlying32 cellsFd (fun n _ cs y hy hwy => by
    obtain ⟨ys, n', hn', rfl, hlen, hyl, hf⟩ := DataW.trod_struct Tryz.underlying64 hy
    rw [cellsFd] at hlen
    obtain ⟨k0, k1, k2, k3, rfl⟩ := len4 hlen
    obtain ⟨y0, y1, y2, y3, rfl⟩ := len4 (show ys.length = 4 from hyl)
    have g0 : DataW.trod enc Tryz.prog w base spare held n' 9 (List.take (Tryz.prog.cellsOf 9) [k0, k1, k2, k3]) = some y0 := hf 0 _ rfl
    have g1 : DataW.trod enc Tryz.prog w base spare held n' 4 (List.take (Tryz.prog.cellsOf 4) [k1, k2, k3]) = some y1 := hf 1 _ rfl
    have g2 : DataW.trod enc Tryz.prog w base spare held n' 3 (List.take (Tryz.prog.cellsOf 3) [k2, k3]) = some y2 := hf 2 _ rfl
    have g3 : DataW.trod enc Tryz.prog w base spare held n' 9 (List.take (Tryz.prog.cellsOf 9) [k3]) = some y3 := hf 3 _ rfl
    have w0 : Wt 9 y0.1 := wt_field Tryz.underlying64 hwy (j := 0) rfl rfl
    have w3 : Wt 9 y3.1 := wt_field Tryz.underlying64 hwy (j := 3) rfl rfl
    rw [cellsString] at g0 g3
    rw [cellsBool] at g1
    rw [cellsInt] at g2
    obtain ⟨nm, e0, z0, -⟩ := get_str g0 w0
    obtain ⟨tx, e1⟩ := get_bool g1
    obtain ⟨nn, e2, z2⟩ := get_int g2
    obtain ⟨s, e3, z3, -⟩ := get_str g3 w3
    simp at e0 e1 e2 e3
    subst e0 e1 e2 e3
    exact ⟨⟨nm, tx, nn, s⟩, fun b o h => ⟨h 0 (by simp), h 1 (by simp), h 2 (by simp), h 3 (by simp)⟩, ⟨by show s.size ≤ _; omega, z2⟩, by show nm.size ≤ _; omega⟩) h hw
  rw [bytesFd] at z2
  exact ⟨v, l, e, z0, z1, by omega⟩

/-- An event. -/
theorem open_ev {n : Nat} {cs : List Value} {y : DataW H × List MemPlace} (h : DataW.trod enc Tryz.prog w base spare held n 34 cs = some y) (hw : Wt 34 y.1) :
    ∃ ty ver fv l, cs = [.string ty, .int .i64 ver, fv] ∧ RecAt w fv l ∧ (∀ y ∈ l, OkF y ∧ y.nm.size ≤ 140737488355328) ∧ (l.length + 1) * 48 ≤ 140737488355328 ∧ ty.size ≤ 140737488355328 ∧ In64 ver := by
  obtain ⟨ys, n', hn', rfl, hlen, hyl, hf⟩ := DataW.trod_struct Tryz.underlying34 h
  rw [cellsEvt] at hlen
  obtain ⟨k0, k1, k2, rfl⟩ := len3 hlen
  obtain ⟨y0, y1, y2, rfl⟩ := len3 (show ys.length = 3 from hyl)
  have g0 : DataW.trod enc Tryz.prog w base spare held n' 9 (List.take (Tryz.prog.cellsOf 9) [k0, k1, k2]) = some y0 := hf 0 _ rfl
  have g1 : DataW.trod enc Tryz.prog w base spare held n' 3 (List.take (Tryz.prog.cellsOf 3) [k1, k2]) = some y1 := hf 1 _ rfl
  have g2 : DataW.trod enc Tryz.prog w base spare held n' 32 (List.take (Tryz.prog.cellsOf 32) [k2]) = some y2 := hf 2 _ rfl
  have w0 : Wt 9 y0.1 := wt_field Tryz.underlying34 hw (j := 0) rfl rfl
  have w2 : Wt 32 y2.1 := wt_field Tryz.underlying34 hw (j := 2) rfl rfl
  rw [cellsString] at g0
  rw [cellsInt] at g1
  rw [cellsFds] at g2
  obtain ⟨ty, e0, z0, -⟩ := get_str g0 w0
  obtain ⟨ver, e1, z1⟩ := get_int g1
  obtain ⟨v, l, e2, z2, z3, z4⟩ := open_rec g2 w2
  simp at e0 e1 e2
  subst e0 e1 e2
  exact ⟨ty, ver, k2, l, rfl, z2, z3, z4, by omega, z1⟩
end
end Go.Proofs.YtajppgngoffonaaGreatDoor
