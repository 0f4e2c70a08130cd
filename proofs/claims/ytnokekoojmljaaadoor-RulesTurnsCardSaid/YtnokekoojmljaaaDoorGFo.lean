/- The rules' Fold. -/
import Derived.Test.YtnokekoojmljaaaDoorGHd
import Derived.Test.YtnokekoojmljaaaDoorGLkG
namespace Go.Proofs.YtnokekoojmljaaaDoor
open Go.RowKit

abbrev aggV (ty : ByteArray) (ver : Int) (fv : Value) : Value := .agg #[.string ty, .int .i64 ver, fv]
abbrev boxV (ty : ByteArray) (ver : Int) (fv : Value) : Obj := .cells #[.string ty, .int .i64 ver, fv] 32

theorem find_idx {α : Type} (p : α → Bool) (l : List α) : (idxF p l = -1 ∧ l.find? p = none) ∨ ∃ (i : Nat) (hi : i < l.length), idxF p l = i ∧ l.find? p = some l[i] := by
  rcases idxF_cases p l with ⟨h1, h2⟩ | ⟨i, hi, h1, h2, h3⟩
  · exact .inl ⟨h1, List.find?_eq_none.2 fun x hx => by simp [h2 x hx]⟩
  · exact .inr ⟨i, hi, h1, List.find?_eq_some_iff_getElem.2 ⟨h2, i, hi, rfl, fun j hj => by simp [h3 j hj]⟩⟩

theorem entersFold1 : ∀ args w, (callFunc 38 args).run Tryd.prog w = .ok (.enter 38 args) w := enters_of Tryd.func38 (by kernel_rfl) rfl

set_option maxRecDepth 100000 in
theorem fold1_ok (ty : ByteArray) (ver : Int) (fv : Value) (B : Nat) (x : Evo) (hs : ∃ a n c, x.sv = .slice a n c) (hd : ∃ a n c, x.dv = .slice a n c) (w W : World) (hB : w.heap[B]? = some (boxV ty ver fv)) (u : Upd [] w W) :
    Calls Tryd.prog 38 #[aggE x, .pointer (some ⟨B, 0, none⟩)] W fun e w' => e = .returned (.bool (decide (x.ty = ty))) ∧ Upd [] w w' := by
  obtain ⟨a, n, c, hs⟩ := hs
  obtain ⟨a2, n2, c2, hd⟩ := hd
  obtain ⟨xty, sv, sets, dv, drops⟩ := x
  dsimp only at hs hd
  subst hs hd
  have hB' : W.heap[B]? = some (boxV ty ver fv) := (u.block B (lt_of_blk hB) (by simp)).trans hB
  have hc : W.cell? ⟨B, 0, none⟩ = some (.string ty) := cell_blk hB' 0
  have hlt := lt_of_blk hB'
  have hne : B ≠ W.heap.size := by omega
  have HU := Lib.hid u
  have heq := eqB xty ty
  clear u hB hB'
  go_enter Tryd.func38, Tryd.ntmps38
  go_wp2_with fail
  go_ret
  exact ⟨by first | rfl | rw [← heq]; rfl, HU.out.alloc _⟩

/-- Errors' numbers. -/
def ErrIn {α : Type} (r : Except Int α) : Prop := ∀ c, r = .error c → 132 ≤ c ∧ c ≤ 135
theorem errIn_ok {α : Type} (x : α) : ErrIn (.ok x : Except Int α) := fun c h => by cases h
theorem errIn_of {α : Type} (n : Int) (h1 : 132 ≤ n) (h2 : n ≤ 135) : ErrIn (.error n : Except Int α) := fun c h => by cases h; exact ⟨h1, h2⟩
theorem errIn_two (kd : Int) (a b : Fd) : ErrIn (twoV kd a b) := by
  unfold twoV
  repeat' split
  all_goals first | exact errIn_ok _ | exact errIn_of _ (by omega) (by omega)
theorem errIn_field (l : List Fd) (k : ByteArray) : ErrIn (fieldV l k) := by
  unfold fieldV
  split
  · exact errIn_ok _
  · exact errIn_of _ (by omega) (by omega)
theorem errIn_eval (P : Pl) : ∀ x : Xp, ErrIn (evalX P x) := by
  refine Ex.ind fun x ih => ?_
  unfold evalX
  rw [vals_list]
  have h : ∀ r ∈ x.kids.list.map (evalX P), ErrIn r := by
    intro r hr
    obtain ⟨y, hy, rfl⟩ := List.mem_map.1 hr
    exact ih y hy
  generalize x.kids.list.map (evalX P) = rs at *
  unfold evalV
  split
  · exact errIn_ok _
  split
  · exact errIn_ok _
  split
  · exact errIn_field _ _
  split
  · exact errIn_field _ _
  split
  · exact errIn_ok _
  match rs, h with
  | [], _ => exact errIn_of _ (by omega) (by omega)
  | .error e :: _, h => exact fun c hc => by cases hc; exact h _ (by simp) _ rfl
  | .ok a :: rest, h =>
    dsimp only
    split
    · split
      · exact errIn_ok _
      · exact errIn_of _ (by omega) (by omega)
    split
    · split
      · exact errIn_of _ (by omega) (by omega)
      · exact errIn_ok _
    match rest, h with
    | [], _ => exact errIn_of _ (by omega) (by omega)
    | .error e :: _, h => exact fun c hc => by cases hc; exact h _ (by simp) _ rfl
    | .ok b :: _, _ => exact errIn_two _ _ _
theorem errIn_value (P : Pl) (x : Xp) : ErrIn (valueX P x) := by
  unfold valueX
  split
  · exact errIn_of _ (by omega) (by omega)
  split
  · exact errIn_eval P x
  · exact errIn_of _ (by omega) (by omega)

/-- What an assignment of an event's comes to. -/
def putF (acc : List Fd) (nm : ByteArray) (r : Rs) : List Fd := match r with
  | .error _ => acc
  | .ok f => if (setF acc ⟨nm, f.tx, f.n, f.s⟩).length ≤ 16 then setF acc ⟨nm, f.tx, f.n, f.s⟩ else acc
theorem foldSets_cons (P : Pl) (a : Asg) (l : List Asg) (acc : List Fd) : foldSets P (a :: l) acc = foldSets P l (putF acc a.nm (valueX P a.e)) := by
  simp only [foldSets, putF]
  cases valueX P a.e <;> rfl
theorem putF_len (acc : List Fd) (nm : ByteArray) (r : Rs) : (putF acc nm r).length ≤ max acc.length 16 := by
  unfold putF
  split
  · omega
  · split
    · omega
    · omega
theorem foldSets_drop (P : Pl) (l : List Asg) (j : Nat) (hj : j < l.length) (acc : List Fd) : foldSets P (l.drop j) acc = foldSets P (l.drop (j + 1)) (putF acc l[j].nm (valueX P l[j].e)) := by
  rw [List.drop_eq_getElem_cons hj, foldSets_cons]

theorem dropF_length (l : List Fd) (k : ByteArray) : (dropF l k).length ≤ l.length := by
  unfold dropF
  exact (List.eraseP_sublist).length_le

set_option maxRecDepth 100000 in
set_option maxHeartbeats 4000000 in
theorem fold_ok (P : Pl) (hP : FitP P) (vs vg hv ev : Value) (es : List Evo) (ty : ByteArray) (ver : Int) (w : World) (hT : Tab w) (hp : PlAt w P vs vg) (he : EvosAt w ev es) (hf : ∀ e ∈ es, FitE e) (hhv : ∃ a n c, hv = .slice a n c) (hl : (P.state.length + 1) * 48 ≤ 140737488355328) :
    Calls Tryd.prog 13 #[.agg #[hv, ev], .string P.st, vs, aggV ty ver vg] w (OwnPost (foldX es P ty) w) := by
  obtain ⟨ha, hn, hc, rfl⟩ := hhv
  have HP := Lib.hid hp
  have HE := Lib.hid he
  have HF := Lib.hid hf
  have HT := Lib.hid hT
  have hR : Hid (foldX es P ty = match es.find? (fun h => decide (h.ty = ty)) with
    | none => P.state
    | some h => h.drops.foldl dropF (foldSets P h.sets P.state)) := Lib.hid rfl
  generalize foldX es P ty = R at *
  obtain ⟨ea, ecap, hev, he1, he2⟩ := he.isSlice
  obtain ⟨sa, sc, hvs, -, -⟩ := hp.1.isSlice
  obtain ⟨ga, gc, hvg, -, -⟩ := hp.2.isSlice
  subst hev hvs hvg
  have HX := Lib.hid (fun (nx : Ex → Prop) => hP)
  have HEv := Lib.hid (fun (x : Xp) (hx : fitX x) (W : World) (u : Upd [] w W) (hk : KidsAt w x.av x.kids) => Eval_ok P hP _ _ x hx W (hT.upd u) (hp.keep u) (hk.keep u))
  have hsl : ∀ x ∈ es, (∃ a n c, x.sv = .slice a n c) ∧ ∃ a n c, x.dv = .slice a n c := by
    intro x hx
    obtain ⟨i, hi, rfl⟩ := List.mem_iff_getElem.1 hx
    obtain ⟨a2, cap2, hv2, q1, q2, q3⟩ := he
    obtain ⟨b2, off2, e2, hy2⟩ := q3 i hi
    obtain ⟨a3, c3, h3, -, -⟩ := hy2.2.1.isSlice
    obtain ⟨a4, c4, h4, -, -⟩ := hy2.2.2.isSlice
    exact ⟨⟨_, _, _, h3⟩, _, _, _, h4⟩
  have HSL := Lib.hid hsl
  clear hT hp he hf HX hsl hP
  obtain ⟨st, state, given⟩ := P
  dsimp only at hl HP HEv ⊢
  have hb2 : ((w.alloc (boxR (.slice ha hn hc) (.slice ea es.length ecap))).alloc (boxV ty ver (.slice ga given.length gc))).heap[w.heap.size + 1]? = some (boxV ty ver (.slice ga given.length gc)) := by rw [heap_alloc, if_pos (by simp)]
  have hb1 : ((w.alloc (boxR (.slice ha hn hc) (.slice ea es.length ecap))).alloc (boxV ty ver (.slice ga given.length gc))).heap[w.heap.size]? = some (boxR (.slice ha hn hc) (.slice ea es.length ecap)) := blk_alloc (heap_top _ _)
  have hu0 : Upd [] w ((w.alloc (boxR (.slice ha hn hc) (.slice ea es.length ecap))).alloc (boxV ty ver (.slice ga given.length gc))) := ((Upd.refl [] w).alloc _).alloc _
  have HC := Lib.hid (clone_ok _ state _ (HP.out.1.keep hu0) (by omega))
  have hsz0 : ((w.alloc (boxR (.slice ha hn hc) (.slice ea es.length ecap))).alloc (boxV ty ver (.slice ga given.length gc))).heap.size = w.heap.size + 2 := by simp
  have HB1 := Lib.hid hb1
  have HB2 := Lib.hid hb2
  have HU0 := Lib.hid hu0
  clear hb1 hb2 hu0
  go_enter Tryd.func13, Tryd.ntmps13
  go_wp2_with fail
  refine HC.out.mono ?_
  rintro e w1 ⟨v9, rfl, ho9, hu1⟩
  have hb1 := (hu1.block _ (lt_of_blk HB1.out) (by simp)).trans HB1.out
  have hb2 := (hu1.block _ (lt_of_blk HB2.out) (by simp)).trans HB2.out
  have HU1 : Hid (Upd [] w w1) := Lib.hid (HU0.out.trans hu1)
  have HO1 : Hid (Own w1 (w.heap.size + 2) v9 state) := Lib.hid (by rw [hsz0] at ho9; exact ho9)
  have hsz1 := hu1.size
  have y1 : w1.cell? ⟨w.heap.size, 1, none⟩ = some (.slice ea es.length ecap) := cell_blk hb1 1
  have HI := Lib.hid (idxE_ok 38 #[.pointer (some ⟨w.heap.size + 1, 0, none⟩)] (fun h => decide (h.ty = ty)) entersFold1 _ es w1 (HE.out.keep HU1.out) (fun W x hx u => fold1_ok ty ver _ _ x (HSL.out x hx).1 (HSL.out x hx).2 w1 W hb2 u))
  have HB1 := Lib.hid hb1
  have HB2 := Lib.hid hb2
  clear hb1 hb2 hu1 ho9 HU0 HC HSL hsz0
  go_wp2_with fail
  refine HI.out.mono ?_
  rintro e w2 ⟨rfl, hu2⟩
  have HU2 : Hid (Upd [] w w2) := Lib.hid (HU1.out.trans hu2)
  have HO2 : Hid (Own w2 (w.heap.size + 2) v9 state) := Lib.hid (own_upd HO1.out hu2 (by simp))
  have hb1 := (hu2.block _ (lt_of_blk HB1.out) (by simp)).trans HB1.out
  have hb2 := (hu2.block _ (lt_of_blk HB2.out) (by simp)).trans HB2.out
  have hsz2 : w.heap.size + 2 ≤ w2.heap.size := by have := hu2.size; simp only [World.size_alloc] at hsz1; omega
  clear hu2 HI HO1 HU1 y1 HB1 HB2 hsz1
  have HB1n := Lib.hid hb1
  have HB2n := Lib.hid hb2
  rcases find_idx (fun h : Evo => decide (h.ty = ty)) es with ⟨h1, h2⟩ | ⟨i, hi, h1, h2⟩
  · rw [h2] at hR
    rw [h1]
    clear h1 h2 hb1 hb2
    go_wp2_with fail
    go_ret
    exact ⟨_, rfl, by rw [hR.out]; exact own_mono HO2.out (by omega), HU2.out⟩
  · rw [h2] at hR
    rw [h1]
    dsimp only at hR
    clear h1 h2
    have y1 : w2.cell? ⟨w.heap.size, 1, none⟩ = some (.slice ea es.length ecap) := cell_blk hb1 1
    obtain ⟨a', cap', hv, g1, g2, g3⟩ := HE.out.keep HU2.out
    simp only [Value.slice.injEq] at hv
    obtain ⟨rfl, -, rfl⟩ := hv
    obtain ⟨b, off, rfl, hy⟩ := g3 i hi
    obtain ⟨⟨c0, c1, c2⟩, hn1, hc1⟩ := hy
    obtain ⟨xa, xcap, hxv, -, -⟩ := hn1.isSlice
    obtain ⟨za, zcap, hzv, -, -⟩ := hc1.isSlice
    have hfh := HF.out es[i] (List.getElem_mem hi)
    have hx0 : AsgsAt w es[i].sv es[i].sets ∧ StrsAt w es[i].dv es[i].drops := by
      obtain ⟨a2, cap2, hv2, q1, q2, q3⟩ := HE.out
      obtain ⟨b2, off2, e2, hy2⟩ := q3 i hi
      exact hy2.2
    have HEC : Hid (∀ W, Upd [] w W → W.cell? ⟨b, off + i * 3 + 2, none⟩ = some es[i].dv) := Lib.hid (fun W u => by
      obtain ⟨a2, cap2, hv2, q1, q2, q3⟩ := HE.out.keep u
      obtain ⟨b2, off2, e2, hy2⟩ := q3 i hi
      simp only [Value.slice.injEq, Option.some.injEq, Addr.mk.injEq] at hv2 e2
      obtain ⟨rfl, -, -⟩ := hv2
      simp only [Option.some.injEq, Addr.mk.injEq] at e2
      obtain ⟨rfl, rfl, -⟩ := e2
      exact hy2.1.2.2)
    have hli : (i : Int) < (es.length : Int) := by omega
    clear g3 hn1 hc1 hb1 hb2
    generalize es[i] = y at *
    obtain ⟨yty, sv, sets, dv, drops⟩ := y
    dsimp only at hxv hzv c0 c1 c2 hfh hx0 hR HEC
    subst hxv hzv
    have HX0 := Lib.hid hx0
    have HFH := Lib.hid hfh
    have hsl72 : sets.length * 72 ≤ 140737488355328 := hfh.2.1
    clear hx0 hfh
    have hA0 : Hid (R = drops.foldl dropF (foldSets ⟨st, state, given⟩ (sets.drop 0) state)) := Lib.hid (by rw [hR.out, List.drop_zero])
    clear hR
    go_wp2_with fail
    go_loopg [9, 12, 13, 14, 15, 34] sets.length (fun n t9 _ _ _ _ t34 wr => ∃ (j : Nat) (acc : List Fd), t34 = .int .i64 j ∧ j ≤ sets.length ∧ n = sets.length - j ∧ Hid (Own wr (w.heap.size + 2) t9 acc) ∧ Hid (R = drops.foldl dropF (foldSets ⟨st, state, given⟩ (sets.drop j) acc)) ∧ (acc.length + 1) * 48 ≤ 140737488355328 ∧ Hid (Upd [] w wr) ∧ Hid (wr.heap[w.heap.size]? = some (boxR (.slice ha hn hc) (.slice (some ⟨b, off, none⟩) es.length ecap))) ∧ Hid (wr.heap[w.heap.size + 1]? = some (boxV ty ver (.slice ga given.length gc))) ∧ w.heap.size + 2 ≤ wr.heap.size)
    case atStart => exact ⟨0, _, rfl, by omega, rfl, HO2, hA0, hl, HU2, HB1n, HB2n, hsz2⟩
    case round =>
      obtain ⟨j, acc, rfl, hj, rfl, hO, hA, hla, hU, hB1, hB2, hsz⟩ := hrel
      generalize wr = w3 at *
      by_cases hjl : j < sets.length
      · have hlt : (j : Int) < (sets.length : Int) := by omega
        obtain ⟨a', cap', hv, g1', g2', g3⟩ := HX0.out.1.keep hU.out
        simp only [Value.slice.injEq] at hv
        obtain ⟨rfl, -, rfl⟩ := hv
        obtain ⟨b2, off2, rfl, hy⟩ := g3 j hjl
        obtain ⟨d0, hx⟩ := hy
        obtain ⟨d1, d2, d3, d4⟩ := hx.1
        obtain ⟨ya, yc, hys⟩ := hx.2.isSlice
        have hfa := HFH.out.2.2.2.1 sets[j] (List.getElem_mem hjl)
        have hA2 : Hid (R = drops.foldl dropF (foldSets ⟨st, state, given⟩ (sets.drop (j + 1)) (putF acc sets[j].nm (valueX ⟨st, state, given⟩ sets[j].e)))) := Lib.hid (by rw [hA.out, foldSets_drop _ _ _ hjl])
        have hxk : KidsAt w sets[j].e.av sets[j].e.kids := by
          obtain ⟨a2, cap2, hv2, q1, q2, q3⟩ := HX0.out.1
          obtain ⟨b2, off2, e2, hy2⟩ := q3 j hjl
          exact hy2.2.2
        have hlp := putF_len acc sets[j].nm (valueX ⟨st, state, given⟩ sets[j].e)
        have her := errIn_value ⟨st, state, given⟩ sets[j].e
        have hE := Lib.hid (HEv.out sets[j].e hfa.2 (w3.alloc (boxG sets[j])) (hU.out.alloc _) hxk)
        clear g3 hx hfa hxk hA
        generalize hr : valueX ⟨st, state, given⟩ sets[j].e = r at *
        generalize sets[j] = ag at *
        clear hr
        obtain ⟨anm, ⟨akd, an, as_, aav, akids⟩⟩ := ag
        dsimp only at hys d0 d1 d2 d3 d4 hE hA2 hlp
        subst hys
        have hC1 : Hid ((w3.alloc (boxG ⟨anm, ⟨akd, an, as_, .slice ya akids.list.length yc, akids⟩⟩)).heap[w3.heap.size]? = some (boxG ⟨anm, ⟨akd, an, as_, .slice ya akids.list.length yc, akids⟩⟩)) := Lib.hid (heap_top _ _)
        have hU4 := Lib.hid (hU.out.alloc (boxG ⟨anm, ⟨akd, an, as_, .slice ya akids.list.length yc, akids⟩⟩))
        have hO4 : Hid (Own (w3.alloc (boxG ⟨anm, ⟨akd, an, as_, .slice ya akids.list.length yc, akids⟩⟩)) (w.heap.size + 2) u9 acc) := Lib.hid (own_upd hO.out ((Upd.refl [] w3).alloc _) (by simp))
        have z2 : w3.cell? ⟨w.heap.size + 1, 2, none⟩ = some (.slice ga given.length gc) := cell_blk hB2.out 2
        have hB14 := Lib.hid (blk_alloc (o' := boxG ⟨anm, ⟨akd, an, as_, .slice ya akids.list.length yc, akids⟩⟩) hB1.out)
        have hB24 := Lib.hid (blk_alloc (o' := boxG ⟨anm, ⟨akd, an, as_, .slice ya akids.list.length yc, akids⟩⟩) hB2.out)
        clear hU hO hB1 hB2
        have hC3 : w.heap.size + 1 < w3.heap.size := by omega
        have hC4 : ¬ w.heap.size + 1 = w3.heap.size := by omega
        go_wp2_with fail
        refine hE.out.mono ?_
        rintro e w4 ⟨rfl, hu4⟩
        have HU4 := Lib.hid (hU4.out.trans hu4)
        have HO4 : Hid (Own w4 (w.heap.size + 2) u9 acc) := Lib.hid (own_upd hO4.out hu4 (by simp))
        have HB14 := Lib.hid ((hu4.block _ (lt_of_blk hB14.out) (by simp)).trans hB14.out)
        have HB24 := Lib.hid ((hu4.block _ (lt_of_blk hB24.out) (by simp)).trans hB24.out)
        have hc1 := (hu4.block _ (lt_of_blk hC1.out) (by simp)).trans hC1.out
        have e0 : w4.cell? ⟨w3.heap.size, 0, none⟩ = some (.string anm) := cell_blk hc1 0
        have hlt4 := lt_of_blk hc1
        clear hu4 hU4 hO4 hB14 hB24 hC1 hE z2 d0 d1 d2 d3 d4 hc1
        cases r with
        | error cc =>
          have hcc := her cc rfl
          clear her
          have hc0 : (cc == 0) = false := by simp; omega
          clear hcc
          have HS := Lib.hid (fun W (u : Upd [] w4 W) => set_ok u9 acc ⟨anm, false, 0, eB⟩ W (Own.recAt (own_upd HO4.out u (by simp))) hla)
          dsimp only [evT]
          go_wp2_with fail
          refine (HS.out _ ((Upd.refl [] w4).alloc _)).mono ?_
          rintro e w5 ⟨v5, rfl, ho5, hu5⟩
          obtain ⟨a5, c5, hv5, -, -⟩ := (Own.recAt ho5).isSlice
          subst hv5
          have HU5 : Hid (Upd [] w4 w5) := Lib.hid (((Upd.refl [] w4).alloc _).trans hu5)
          clear hu5 ho5 HS
          go_wp2_with fail
          go_roundg (sets.length - (j + 1))
          case measure => omega
          case rel => exact ⟨j + 1, acc, by go_num, by omega, rfl, Lib.hid (own_upd HO4.out HU5.out (by simp)), hA2, hla, Lib.hid (HU4.out.trans HU5.out), Lib.hid ((HU5.out.block _ (lt_of_blk HB14.out) (by simp)).trans HB14.out), Lib.hid ((HU5.out.block _ (lt_of_blk HB24.out) (by simp)).trans HB24.out), by have := HU5.out.size; omega⟩
        | ok f =>
          obtain ⟨fnm, ftx, fn, fs⟩ := f
          clear her
          have HS := Lib.hid (fun W (u : Upd [] w4 W) => set_ok u9 acc ⟨anm, ftx, fn, fs⟩ W (Own.recAt (own_upd HO4.out u (by simp))) hla)
          have hpf : putF acc anm (.ok ⟨fnm, ftx, fn, fs⟩) = if (setF acc ⟨anm, ftx, fn, fs⟩).length ≤ 16 then setF acc ⟨anm, ftx, fn, fs⟩ else acc := rfl
          generalize putF acc anm (.ok ⟨fnm, ftx, fn, fs⟩) = M at *
          generalize setF acc ⟨anm, ftx, fn, fs⟩ = N at *
          dsimp only [evT]
          go_wp2_with fail
          refine (HS.out _ ((Upd.refl [] w4).alloc _)).mono ?_
          rintro e w5 ⟨v5, rfl, ho5, hu5⟩
          obtain ⟨a5, c5, hv5, -, -⟩ := (Own.recAt ho5).isSlice
          subst hv5
          have HU5 : Hid (Upd [] w4 w5) := Lib.hid (((Upd.refl [] w4).alloc _).trans hu5)
          have HO5 : Hid (Own w5 (w.heap.size + 2) (.slice a5 N.length c5) N) := Lib.hid (own_mono ho5 (by simp; omega))
          clear hu5 ho5 HS
          by_cases h16 : N.length ≤ 16
          · rw [if_pos h16] at hpf
            rw [hpf] at hA2 hlp
            clear hpf
            have hi16 : (N.length : Int) ≤ 16 := by omega
            go_wp2_with fail
            go_roundg (sets.length - (j + 1))
            case measure => omega
            case rel => exact ⟨j + 1, N, by go_num, by omega, rfl, HO5, hA2, by omega, Lib.hid (HU4.out.trans HU5.out), Lib.hid ((HU5.out.block _ (lt_of_blk HB14.out) (by simp)).trans HB14.out), Lib.hid ((HU5.out.block _ (lt_of_blk HB24.out) (by simp)).trans HB24.out), by have := HU5.out.size; omega⟩
          · rw [if_neg h16] at hpf
            rw [hpf] at hA2 hlp
            clear hpf
            have hi16 : ¬ (N.length : Int) ≤ 16 := by omega
            go_wp2_with fail
            go_roundg (sets.length - (j + 1))
            case measure => omega
            case rel => exact ⟨j + 1, acc, by go_num, by omega, rfl, Lib.hid (own_upd HO4.out HU5.out (by simp)), hA2, hla, Lib.hid (HU4.out.trans HU5.out), Lib.hid ((HU5.out.block _ (lt_of_blk HB14.out) (by simp)).trans HB14.out), Lib.hid ((HU5.out.block _ (lt_of_blk HB24.out) (by simp)).trans HB24.out), by have := HU5.out.size; omega⟩
      · have hlt : ¬ (j : Int) < (sets.length : Int) := by omega
        have hj2 : j = sets.length := by omega
        subst hj2
        have hA2 : Hid (R = (drops.drop 0).foldl dropF acc) := Lib.hid (by rw [hA.out, List.drop_eq_nil_of_le (by omega), foldSets, List.drop_zero])
        have y1 : w3.cell? ⟨w.heap.size, 1, none⟩ = some (.slice (some ⟨b, off, none⟩) es.length ecap) := cell_blk hB1.out 1
        have c2 := HEC.out _ hU.out
        have hsl16 : drops.length * 16 ≤ 140737488355328 := HFH.out.2.2.1
        have hla2 : acc.length * 48 ≤ 140737488355328 := by omega
        clear hA hB1 hB2 HB1n HB2n HEC HEv hla c0 c1
        go_wp2_with fail
        go_loopg [9, 17, 70] drops.length (fun n t9 _ t70 wr => ∃ (j : Nat) (acc : List Fd), t70 = .int .i64 j ∧ j ≤ drops.length ∧ n = drops.length - j ∧ Hid (Own wr (w.heap.size + 2) t9 acc) ∧ Hid (R = (drops.drop j).foldl dropF acc) ∧ acc.length * 48 ≤ 140737488355328 ∧ Hid (Upd [] w wr) ∧ w.heap.size + 2 ≤ wr.heap.size)
        case atStart => exact ⟨0, acc, rfl, by omega, rfl, hO, hA2, hla2, hU, hsz⟩
        case round =>
          obtain ⟨m, acc, rfl, hm, rfl, hO, hA, hla, hU, hsz⟩ := hrel
          generalize wr = w4 at *
          by_cases hml : m < drops.length
          · have hlt : (m : Int) < (drops.length : Int) := by omega
            obtain ⟨a', cap', hv, g1', g2', g3⟩ := HX0.out.2.keep hU.out
            simp only [Value.slice.injEq] at hv
            obtain ⟨rfl, -, rfl⟩ := hv
            obtain ⟨b2, off2, rfl, hy⟩ := g3 m hml
            have d0 : w4.cell? ⟨b2, off2 + m * 1, none⟩ = some (.string drops[m]) := hy
            rw [Nat.mul_one] at d0
            have hA3 : Hid (R = (drops.drop (m + 1)).foldl dropF (dropF acc drops[m])) := Lib.hid (by rw [hA.out, List.drop_eq_getElem_cons hml, List.foldl_cons])
            have HD := Lib.hid (drop_ok u9 acc drops[m] w4 (Own.recAt hO.out) hla)
            have hdl := dropF_length acc drops[m]
            clear g3 hy hA
            generalize dropF acc drops[m] = N at *
            generalize drops[m] = nm at *
            go_wp2_with fail
            refine HD.out.mono ?_
            rintro e w5 ⟨v5, rfl, ho5, hu5⟩
            have HU5 : Hid (Upd [] w w5) := Lib.hid (hU.out.trans hu5)
            have HO5 : Hid (Own w5 (w.heap.size + 2) v5 N) := Lib.hid (own_mono ho5 hsz)
            have hs5 := hu5.size
            clear hu5 ho5 HD hU hO d0
            go_wp2_with fail
            go_roundg (drops.length - (m + 1))
            case measure => omega
            case rel => exact ⟨m + 1, N, by go_num, by omega, rfl, HO5, hA3, by omega, HU5, by omega⟩
          · have hlt : ¬ (m : Int) < (drops.length : Int) := by omega
            have hm2 : m = drops.length := by omega
            subst hm2
            have hRe : Hid (R = acc) := Lib.hid (by rw [hA.out, List.drop_eq_nil_of_le (by omega), List.foldl_nil])
            clear hA
            go_wp2_with fail
            go_ret
            exact ⟨_, rfl, by rw [hRe.out]; exact own_mono hO.out (by omega), hU.out⟩
end Go.Proofs.YtnokekoojmljaaaDoor
