/- Events, as they are read. Plain law of tables: by a table that may be, states and events stay records. -/
import Derived.Test.YtnokekoojmljaaaDoorGDe
import Derived.Test.YtnokekoojmljaaaDoorGIt
namespace Go.Proofs.YtnokekoojmljaaaDoor
open Go.RowKit

structure Evn where
  ty : ByteArray
  ver : Int
  fv : Value
  fs : List Fd

def EvC (w : World) (b o : Nat) (x : Evn) : Prop := w.cell? ⟨b, o, none⟩ = some (.string x.ty) ∧ w.cell? ⟨b, o + 1, none⟩ = some (.int .i64 x.ver) ∧ w.cell? ⟨b, o + 2, none⟩ = some x.fv
def EvAt (w : World) (b o : Nat) (x : Evn) : Prop := EvC w b o x ∧ RecAt w x.fv x.fs
theorem EvAt.keep {w w' : World} (u : Upd [] w w') {b o : Nat} {x : Evn} (h : EvAt w b o x) : EvAt w' b o x :=
  ⟨⟨cell_keep u h.1.1, cell_keep u h.1.2.1, cell_keep u h.1.2.2⟩, h.2.keep u⟩
abbrev EvsAt (w : World) (v : Value) (l : List Evn) : Prop := SlAt 3 EvAt w v l
theorem EvsAt.keep {w w' : World} (u : Upd [] w w') {v : Value} {l : List Evn} (h : EvsAt w v l) : EvsAt w' v l := SlAt.keep (fun _ _ _ hx => EvAt.keep u hx) h

theorem flatV_at (l : List (Evt × Value)) {i f : Nat} (hi : i < l.length) (hf : f < 3) : (flatV l)[i * 3 + f]? = [.string l[i].1.ty, .int .i64 0, l[i].2][f]? := by
  induction l generalizing i with
  | nil => simp at hi
  | cons x l ih =>
    cases i with
    | zero =>
      simp only [flatV, List.flatMap_cons]
      rw [List.getElem?_append_left (by simp; omega)]; simp
    | succ i =>
      simp only [flatV, List.flatMap_cons]
      rw [List.getElem?_append_right (by simp; omega)]
      have := ih (i := i) (by simpa using hi)
      simp only [flatV] at this
      rw [show (i + 1) * 3 + f - [Value.string x.1.ty, Value.int .i64 0, x.2].length = i * 3 + f by simp; omega, this]; simp

def evn (p : Evt × Value) : Evn := ⟨p.1.ty, 0, p.2, p.1.fs⟩

theorem evs_at {w : World} {base : Nat} {v : Value} {evs : List Evt} (h : EvsOwn w base v evs) : ∃ lv : List (Evt × Value), evs = lv.map Prod.fst ∧ EvsAt w v (lv.map evn) ∧ ∀ p ∈ lv, Own w base p.2 p.1.fs := by
  obtain ⟨lv, h1, ⟨h0, h2⟩, h3⟩ := h
  refine ⟨lv, h1, ?_, h3⟩
  rcases h2 with ⟨rfl, hn⟩ | ⟨g, cap, cur, rfl, hg, hh, r1, r2, r3, r4⟩
  · have : lv = [] := List.eq_nil_of_length_eq_zero hn
    subst this
    exact ⟨none, 0, rfl, by simp, by omega, fun i hi => absurd hi (by simp)⟩
  · refine ⟨some ⟨g, 0, none⟩, cap, by rw [List.length_map], by rw [List.length_map]; exact r1, r2, fun i hi => ⟨g, 0, rfl, ?_⟩⟩
    rw [List.length_map] at hi
    have key : ∀ f, f < 3 → w.cell? ⟨g, i * 3 + f, none⟩ = [.string lv[i].1.ty, .int .i64 0, lv[i].2][f]? := fun f hf => by
      rw [cell_blk hh, ← Array.getElem?_toList, ← flatV_at lv hi hf, ← r4, List.getElem?_take_of_lt (by omega)]
    rw [Nat.zero_add, List.getElem_map]
    exact ⟨⟨key 0 (by omega), key 1 (by omega), key 2 (by omega)⟩, Own.recAt (h3 _ (List.getElem_mem hi))⟩
end Go.Proofs.YtnokekoojmljaaaDoor

namespace Go.Proofs.YtnokekoojmljaaaDoor
open Go.RowKit

/-- A value that a record may have. -/
def okV (f : Fd) : Prop := if f.tx = true then f.n = 0 ∧ f.s.size ≤ 200 else f.s.size = 0

theorem fieldE_iff (nm : ByteArray) (f : Fd) : fieldE ⟨nm, f.tx, f.n, f.s⟩ = 0 ↔ nameOk nm = true ∧ okV f := fieldE_zero
theorem okV_of {f : Fd} (h : fieldE f = 0) : okV f := (fieldE_zero.1 h).2
theorem okV_nu (n : Int) : okV (nuF n) := by
  unfold okV nuF
  rw [if_neg (by simp)]
  rfl
theorem okV_tx {s : ByteArray} (h : s.size ≤ 200) : okV (txF s) := by
  unfold okV txF
  rw [if_pos rfl]
  exact ⟨rfl, h⟩

theorem okV_two {kd : Int} {a b f : Fd} (h : twoV kd a b = .ok f) : okV f := by
  unfold twoV at h
  split at h
  · split at h
    · split at h
      · cases h
      · cases h
        rename_i hz
        exact okV_tx (by rw [ByteArray.size_append]; omega)
    · cases h
  · split at h
    · cases h
    · split at h
      · cases h; exact okV_nu _
      · cases h

/-- Where an expression is evaluated: all are records. -/
def GdP (P : Pl) : Prop := P.st.size ≤ 200 ∧ (∀ f ∈ P.state, okV f) ∧ ∀ f ∈ P.given, okV f

theorem okV_field {l : List Fd} {k : ByteArray} {f : Fd} (h : ∀ f ∈ l, okV f) (hf : fieldV l k = .ok f) : okV f := by
  unfold fieldV getF at hf
  split at hf
  · rename_i g hg
    simp only [Except.ok.injEq] at hf
    subst hf
    exact h g (List.mem_of_find?_eq_some hg)
  · cases hf

theorem okV_eval (P : Pl) (hF : FitP P) (hP : GdP P) : ∀ x : Xp, fitX x → shortX x = true → ∀ f, evalX P x = .ok f → okV f := by
  refine Ex.ind fun x ih hx hs f hf => ?_
  unfold evalX at hf
  rw [vals_list] at hf
  have hk := (fit_list _).1 hx.2
  rw [shortX_eq, Bool.and_eq_true, List.all_eq_true] at hs
  unfold evalV at hf
  split at hf
  · cases hf; exact okV_nu _
  split at hf
  · rename_i h2
    cases hf
    have := hs.1
    unfold longN at this
    rw [h2] at this
    simp at this
    exact okV_tx this
  split at hf
  · exact okV_field hP.2.1 hf
  split at hf
  · exact okV_field hP.2.2 hf
  split at hf
  · cases hf; exact okV_tx hP.1
  cases hl : x.kids.list with
  | nil => rw [hl] at hf; cases hf
  | cons y l =>
    rw [hl] at hf ih hk hs
    rw [List.map_cons] at hf
    cases hy : evalX P y with
    | error e => rw [hy] at hf; cases hf
    | ok a =>
      rw [hy] at hf
      have ha := okF_eval P hF y (hk y (by simp)) a hy
      dsimp only at hf
      split at hf
      · split at hf
        · cases hf; exact okV_nu _
        · cases hf
      split at hf
      · split at hf
        · cases hf
        · cases hf
          exact okV_tx (by have := itoa_size a.n ha.2.1 ha.2.2; omega)
      cases l with
      | nil => cases hf
      | cons z l =>
        rw [List.map_cons] at hf
        cases hz : evalX P z with
        | error e => rw [hz] at hf; cases hf
        | ok b => rw [hz] at hf; exact okV_two hf

theorem value_eval {P : Pl} {x : Xp} {f : Fd} (h : valueX P x = .ok f) : evalX P x = .ok f := by
  unfold valueX at h
  split at h
  · cases h
  · split at h
    · exact h
    · cases h

/-- An assignment that may be. -/
def okA (a : Asg) : Prop := FitA a ∧ shortX a.e = true ∧ nameOk a.nm = true

theorem set_field {P : Pl} (hF : FitP P) (hP : GdP P) {a : Asg} (ha : okA a) {f : Fd} (h : valueX P a.e = .ok f) : fieldE ⟨a.nm, f.tx, f.n, f.s⟩ = 0 :=
  (fieldE_iff _ _).2 ⟨ha.2.2, okV_eval P hF hP a.e ha.1.2 ha.2.1 f (value_eval h)⟩

theorem sets_good {P : Pl} (hF : FitP P) (hP : GdP P) : ∀ (l : List Asg) (acc fs : List Fd), (∀ a ∈ l, okA a) → (∀ x ∈ acc, fieldE x = 0) → Srt acc → setsX P l acc = .ok fs →
    (∀ x ∈ fs, fieldE x = 0) ∧ Srt fs ∧ fs.length ≤ acc.length + l.length := by
  intro l
  induction l with
  | nil =>
    intro acc fs _ h1 h2 h
    cases h
    exact ⟨h1, h2, by simp⟩
  | cons a l ih =>
    intro acc fs hl h1 h2 h
    unfold setsX at h
    cases hv : valueX P a.e with
    | error e => rw [hv] at h; cases h
    | ok f =>
      rw [hv] at h
      have hz := set_field hF hP (hl a (by simp)) hv
      obtain ⟨g1, g2, g3⟩ := ih _ fs (fun b hb => hl b (by simp [hb])) (fun y hy => (setF_mem hy).elim (fun e => e ▸ hz) (fun g => h1 y g)) (srt_set h2 _) h
      have := setF_length acc ⟨a.nm, f.tx, f.n, f.s⟩
      exact ⟨g1, g2, by simp; omega⟩

/-- An emit that may be; an event that is a record. -/
def okM (m : Emt) : Prop := nameOk m.ty = true ∧ m.sets.length ≤ 16 ∧ ∀ a ∈ m.sets, okA a
def okE (e : Evt) : Prop := nameOk e.ty = true ∧ Good e.fs

theorem emits_good {P : Pl} (hF : FitP P) (hP : GdP P) : ∀ (l : List Emt) (acc es : List Evt), (∀ m ∈ l, okM m) → (∀ e ∈ acc, okE e) → emitsX P l acc = .ok es → (∀ e ∈ es, okE e) ∧ es.length = acc.length + l.length := by
  intro l
  induction l with
  | nil =>
    intro acc es _ h1 h
    cases h
    exact ⟨h1, by simp⟩
  | cons m l ih =>
    intro acc es hl h1 h
    unfold emitsX at h
    cases hv : setsX P m.sets [] with
    | error e => rw [hv] at h; cases h
    | ok fs =>
      rw [hv] at h
      obtain ⟨n1, n2, n3⟩ := hl m (by simp)
      obtain ⟨g1, g2, g3⟩ := sets_good hF hP m.sets [] fs n3 (by simp) List.Pairwise.nil hv
      obtain ⟨k1, k2⟩ := ih _ es (fun b hb => hl b (by simp [hb])) (fun e he => by
        rcases List.mem_append.1 he with he | he
        · exact h1 e he
        · simp only [List.mem_cons, List.not_mem_nil, or_false] at he
          subst he
          exact ⟨n1, by simp at g3; show fs.length ≤ 16; omega, g1, g2⟩) h
      exact ⟨k1, by rw [k2]; simp; omega⟩

def okK (c : Cse) : Prop := c.emits.length ≤ 16 ∧ ∀ m ∈ c.emits, okM m
def okD : Except Int Dcn → Prop
  | .ok (.events es) => (∀ e ∈ es, okE e) ∧ 0 < es.length ∧ es.length ≤ 16
  | _ => True

theorem cases_good {P : Pl} (hF : FitP P) (hP : GdP P) : ∀ (l : List Cse), (∀ c ∈ l, okK c) → okD (casesX P l) := by
  intro l
  induction l with
  | nil => intro _; trivial
  | cons c l ih =>
    intro hl
    unfold casesX
    cases allX P c.when with
    | error e => trivial
    | ok b =>
      cases b with
      | false => exact ih (fun c hc => hl c (by simp [hc]))
      | true =>
        dsimp only
        split
        · trivial
        · rename_i hz
          obtain ⟨n1, n2⟩ := hl c (by simp)
          cases hv : emitsX P c.emits [] with
          | error e => trivial
          | ok es =>
            obtain ⟨g1, g2⟩ := emits_good hF hP c.emits [] es n2 (by simp) hv
            simp at g2
            exact ⟨g1, by omega, by omega⟩

theorem decide_good {P : Pl} (hF : FitP P) (hP : GdP P) (hs : List Hdl) (cmd : ByteArray) (h : ∀ h ∈ hs, ∀ c ∈ h.cases, okK c) : okD (decideX hs P cmd) := by
  unfold decideX
  split
  · trivial
  · rename_i h0 hf
    split
    · exact cases_good hF hP _ (h _ (List.mem_of_find?_eq_some hf))
    · trivial

/-- What a table that may be grants. -/
theorem twL_names : ∀ (l pre : List ByteArray), twL pre l = false → ∀ s ∈ l, nameOk s = true := by
  intro l
  induction l with
  | nil => intro pre _ s hs; cases hs
  | cons x l ih =>
    intro pre h s hs
    unfold twL at h
    simp only [Bool.or_eq_false_iff] at h
    rcases List.mem_cons.1 hs with rfl | hs
    · have := h.1.1
      simpa using this
    · exact ih _ h.2 s hs

theorem check_zero {hs : List Hdl} {es : List Evo} (h : checkR hs es = 0) : manyR hs es = false ∧ nameR hs es = false ∧ formR hs es = false := by
  unfold checkR at h
  cases h1 : manyR hs es with
  | true => rw [h1] at h; simp at h
  | false =>
    cases h2 : nameR hs es with
    | true => rw [h1, h2] at h; simp at h
    | false =>
      cases h3 : formR hs es with
      | true => rw [h1, h2, h3] at h; simp at h
      | false => exact ⟨rfl, rfl, rfl⟩

theorem any_no {α : Type} {l : List α} {p : α → Bool} (h : l.any p = false) {x : α} (hx : x ∈ l) : p x = false := by
  rw [List.any_eq_false] at h
  simpa using h x hx

theorem short_of {hs : List Hdl} {es : List Evo} (h : formR hs es = false) {x : Xp} (hx : x ∈ tableXs hs es) : shortX x = true := by
  unfold formR at h
  rw [Bool.or_eq_false_iff] at h
  have := any_no h.1 hx
  simp only [Bool.or_eq_false_iff] at this
  simpa using this.2

theorem check_hdl {hs : List Hdl} {es : List Evo} (h : checkR hs es = 0) (hf : FitR hs es) : ∀ h ∈ hs, ∀ c ∈ h.cases, okK c := by
  intro d hd c hc
  obtain ⟨h1, h2, h3⟩ := check_zero h
  unfold manyR at h1
  simp only [Bool.or_eq_false_iff] at h1
  have m1 := any_no h1.1.1.2 hd
  unfold manyH at m1
  simp only [Bool.or_eq_false_iff] at m1
  have m2 := any_no m1.2 hc
  unfold manyC at m2
  simp only [Bool.or_eq_false_iff, decide_eq_false_iff_not] at m2
  unfold nameR at h2
  simp only [Bool.or_eq_false_iff] at h2
  have n1 := any_no h2.1.1.1.1 hd
  unfold nameH at n1
  rw [Bool.or_eq_false_iff] at n1
  have n2 := any_no n1.2 hc
  have hfc := (hf.2.2.1 d hd).2.2.2 c hc
  refine ⟨by omega, fun m hm => ?_⟩
  have m3 := any_no m2.2 hm
  unfold manyS at m3
  rw [decide_eq_false_iff_not] at m3
  have n3 := any_no n2 hm
  unfold nameM at n3
  rw [Bool.or_eq_false_iff] at n3
  refine ⟨by simpa using n3.1, by omega, fun a ha => ⟨(hfc.2.2.2 m hm).2.2 a ha, short_of h3 ?_, twL_names _ _ n3.2 _ (List.mem_map.2 ⟨a, ha, rfl⟩)⟩⟩
  unfold tableXs
  refine List.mem_append.2 (Or.inl (List.mem_flatMap.2 ⟨d, hd, List.mem_flatMap.2 ⟨c, hc, ?_⟩⟩))
  unfold caseXs
  exact List.mem_append.2 (Or.inr (List.mem_flatMap.2 ⟨m, hm, List.mem_map.2 ⟨a, ha, rfl⟩⟩))

theorem check_evo {hs : List Hdl} {es : List Evo} (h : checkR hs es = 0) (hf : FitR hs es) : ∀ e ∈ es, ∀ a ∈ e.sets, okA a := by
  intro e he a ha
  obtain ⟨h1, h2, h3⟩ := check_zero h
  unfold nameR at h2
  simp only [Bool.or_eq_false_iff] at h2
  have n1 := any_no h2.1.1.1.2 he
  unfold nameE at n1
  have n2 := any_no n1 (x := a.nm) (List.mem_append.2 (Or.inl (List.mem_map.2 ⟨a, ha, rfl⟩)))
  refine ⟨(hf.2.2.2 e he).2.2.2.1 a ha, short_of h3 ?_, by simpa using n2⟩
  unfold tableXs
  exact List.mem_append.2 (Or.inr (List.mem_flatMap.2 ⟨e, he, List.mem_map.2 ⟨a, ha, rfl⟩⟩))

/-- A state behind an event. -/
theorem foldSets_good {P : Pl} (hF : FitP P) (hP : GdP P) : ∀ (l : List Asg) (acc : List Fd), (∀ a ∈ l, okA a) → Good acc → Good (foldSets P l acc) := by
  intro l
  induction l with
  | nil => intro acc _ h; exact h
  | cons a l ih =>
    intro acc hl h
    unfold foldSets
    refine ih _ (fun b hb => hl b (by simp [hb])) ?_
    cases hv : valueX P a.e with
    | error e => exact h
    | ok f =>
      dsimp only
      split
      · rename_i h16
        exact good_set h (set_field hF hP (hl a (by simp)) hv) h16
      · exact h

theorem good_drop {l : List Fd} (h : Good l) (k : ByteArray) : Good (dropF l k) :=
  ⟨Nat.le_trans (List.eraseP_sublist).length_le h.1, fun x hx => h.2.1 x ((List.eraseP_sublist).subset hx), srt_drop h.2.2 k⟩

theorem good_drops (l : List ByteArray) : ∀ {r : List Fd}, Good r → Good (l.foldl dropF r) := by
  induction l with
  | nil => intro r h; exact h
  | cons x l ih => intro r h; exact ih (good_drop h x)

theorem fold_good {P : Pl} (hF : FitP P) (hP : GdP P) (es : List Evo) (ty : ByteArray) (h : ∀ e ∈ es, ∀ a ∈ e.sets, okA a) (hg : Good P.state) : Good (foldX es P ty) := by
  unfold foldX
  split
  · exact hg
  · rename_i e he
    exact good_drops _ (foldSets_good hF hP _ _ (h e (List.mem_of_find?_eq_some he)) hg)

/-- Sizes of what is behind an event. -/
def OkN (f : Fd) : Prop := OkF f ∧ f.nm.size ≤ 140737488355328

theorem foldSets_fit {P : Pl} (hF : FitP P) : ∀ (l : List Asg) (acc : List Fd), (∀ a ∈ l, FitA a) → (∀ f ∈ acc, OkN f) → ∀ f ∈ foldSets P l acc, OkN f := by
  intro l
  induction l with
  | nil => intro acc _ h; exact h
  | cons a l ih =>
    intro acc hl h
    unfold foldSets
    refine ih _ (fun b hb => hl b (by simp [hb])) ?_
    cases hv : valueX P a.e with
    | error e => exact h
    | ok f =>
      dsimp only
      split
      · intro y hy
        rcases setF_mem hy with rfl | hy
        · exact ⟨okF_eval P hF a.e (hl a (by simp)).2 f (value_eval hv), (hl a (by simp)).1⟩
        · exact h y hy
      · exact h

theorem drops_fit (l : List ByteArray) : ∀ {r : List Fd}, (∀ f ∈ r, OkN f) → ∀ f ∈ l.foldl dropF r, OkN f := by
  induction l with
  | nil => intro r h; exact h
  | cons x l ih => intro r h; exact ih (fun f hf => h f ((List.eraseP_sublist).subset hf))

theorem fold_fit {P : Pl} (hF : FitP P) {es : List Evo} (hE : ∀ e ∈ es, FitE e) (ty : ByteArray) (h : ∀ f ∈ P.state, OkN f) : ∀ f ∈ foldX es P ty, OkN f := by
  unfold foldX
  split
  · exact h
  · rename_i e he
    exact drops_fit _ (foldSets_fit hF _ _ (hE e (List.mem_of_find?_eq_some he)).2.2.2.1 h)

theorem foldSets_length (P : Pl) : ∀ (l : List Asg) (acc : List Fd), (foldSets P l acc).length ≤ max acc.length 16 := by
  intro l
  induction l with
  | nil => intro acc; exact Nat.le_max_left _ _
  | cons a l ih =>
    intro acc
    unfold foldSets
    refine Nat.le_trans (ih _) ?_
    cases valueX P a.e with
    | error e => exact Nat.le_refl _
    | ok f =>
      dsimp only
      split
      · omega
      · exact Nat.le_refl _

theorem drops_length (l : List ByteArray) : ∀ (r : List Fd), (l.foldl dropF r).length ≤ r.length := by
  induction l with
  | nil => intro r; exact Nat.le_refl _
  | cons x l ih => intro r; exact Nat.le_trans (ih _) (List.eraseP_sublist).length_le

theorem fold_length (P : Pl) (es : List Evo) (ty : ByteArray) : (foldX es P ty).length ≤ max P.state.length 16 := by
  unfold foldX
  split
  · exact Nat.le_max_left _ _
  · exact Nat.le_trans (drops_length _ _) (foldSets_length P _ _)
end Go.Proofs.YtnokekoojmljaaaDoor
