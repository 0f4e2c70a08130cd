/- The rules' Decide: its closures. The rules' Decide: rows of events. The rules' Decide: how it is left. -/
import Derived.Deep.DeepAppendWide
import Derived.Test.YtnokekoojmljaaaDoorGMe
namespace Go.Proofs.YtnokekoojmljaaaDoor
open Go.RowKit

abbrev boxD (r : Bool) (s : ByteArray) (v : Value) : Obj := .cells #[.bool r, .string s, v] 41
theorem box_set3 {W : World} {B : Nat} {a0 b0 c0 : Value} {T : TypeId} (h : W.heap[B]? = some (.cells #[a0, b0, c0] T (0, 0))) (a b c : Value) :
    (((W.setCell ⟨B, 0, none⟩ a).setCell ⟨B, 1, none⟩ b).setCell ⟨B, 2, none⟩ c).heap[B]? = some (.cells #[a, b, c] T (0, 0)) := by
  rw [heap_setCell, if_pos rfl, heap_setCell, if_pos rfl, heap_setCell, if_pos rfl, h]
  rfl

theorem entersDec1 : ∀ args w, (callFunc 45 args).run Tryd.prog w = .ok (.enter 45 args) w := enters_of Tryd.func45 (by kernel_rfl) rfl
theorem entersDec3 : ∀ args w, (callFunc 50 args).run Tryd.prog w = .ok (.enter 50 args) w := enters_of Tryd.func50 (by kernel_rfl) rfl

set_option maxRecDepth 100000 in
theorem dec1_ok (cmd : ByteArray) (B : Nat) (x : Hdl) (hs : ∃ a n c, x.nv = .slice a n c) (hd : ∃ a n c, x.cv = .slice a n c) (w W : World) (hB : w.heap[B]? = some (.cells #[.string cmd] 9 (0, 0))) (u : Upd [] w W) :
    Calls Tryd.prog 45 #[aggH x, .pointer (some ⟨B, 0, none⟩)] W fun e w' => e = .returned (.bool (decide (x.cmd = cmd))) ∧ Upd [] w w' := by
  obtain ⟨a, n, c, hs⟩ := hs
  obtain ⟨a2, n2, c2, hd⟩ := hd
  obtain ⟨xc, nv, needs, cv, cases⟩ := x
  dsimp only at hs hd
  subst hs hd
  have hB' := (u.block B (lt_of_blk hB) (by simp)).trans hB
  have hc : W.cell? ⟨B, 0, none⟩ = some (.string cmd) := cell_blk hB' 0
  have hlt := lt_of_blk hB'
  have hne : ¬ B = W.heap.size := by omega
  have HU := Lib.hid u
  have heq := eqB xc cmd
  clear u hB hB'
  go_enter Tryd.func45, Tryd.ntmps45
  go_wp2_with fail
  go_ret
  exact ⟨by first | rfl | rw [← heq]; rfl, HU.out.alloc _⟩

def notE (r : Except Int Bool) : Except Int Bool := match r with
  | .ok b => .ok (!b)
  | .error e => .error e

set_option maxRecDepth 100000 in
set_option maxHeartbeats 1000000 in
theorem dec3_ok (P : Pl) (hP : FitP P) (vs vg : Value) (B : Nat) (c : Cd) (hfa : fitX c.a) (hfb : fitX c.b) (w W : World) (hT : Tab w) (hp : PlAt w P vs vg) (hka : KidsAt w c.a.av c.a.kids) (hkb : KidsAt w c.b.av c.b.kids)
    (hB : w.heap[B]? = some (boxP P vs vg)) (u : Upd [] w W) :
    Calls Tryd.prog 50 #[aggC c, .pointer (some ⟨B, 0, none⟩)] W fun e w' => e = endV .bool (notE (holdsX P c)) ∧ Upd [] w w' := by
  have hu1 := u.alloc (boxC c)
  have HH := Lib.hid (holds_ok P hP vs vg c hfa hfb (W.alloc (boxC c)) (hT.upd hu1) (hp.keep hu1) (hka.keep hu1) (hkb.keep hu1))
  have HU := Lib.hid hu1
  have hB' := (u.block B (lt_of_blk hB) (by simp)).trans hB
  obtain ⟨aa, ac, haa⟩ := hka.isSlice
  obtain ⟨ba, bc, hba⟩ := hkb.isSlice
  obtain ⟨sa, sc, hvs, -, -⟩ := hp.1.isSlice
  obtain ⟨ga, gc, hvg, -, -⟩ := hp.2.isSlice
  have p0 : W.cell? ⟨B, 0, none⟩ = some (.string P.st) := cell_blk hB' 0
  have p1 : W.cell? ⟨B, 1, none⟩ = some vs := cell_blk hB' 1
  have p2 : W.cell? ⟨B, 2, none⟩ = some vg := cell_blk hB' 2
  have hlt := lt_of_blk hB'
  have hne : ¬ B = W.heap.size := by omega
  generalize holdsX P c = R at *
  clear hu1 hB hB' hT hp hka hkb hP hfa hfb u
  subst hvs hvg
  obtain ⟨st, state, given⟩ := P
  obtain ⟨kd, nt, ⟨akd, an, as_, aav, akids⟩, ⟨bkd, bn, bs, bav, bkids⟩⟩ := c
  dsimp only at haa hba p0 p1 p2 HH HU
  subst haa hba
  go_enter Tryd.func50, Tryd.ntmps50
  go_wp2_with fail
  refine HH.out.mono ?_
  rintro e w2 ⟨rfl, hu2⟩
  have HU2 := Lib.hid (HU.out.trans hu2)
  clear hu2 HH
  rcases R with ce | b
  · dsimp only [endV]
    go_wp2_with fail
    exact ⟨rfl, rfl, HU2.out⟩
  · dsimp only [endV]
    go_wp2_with fail
    go_ret
    exact ⟨rfl, HU2.out⟩

set_option maxRecDepth 100000 in
theorem dec2_err (B10 B11 : Nat) (c : Int) (hc : c ≠ 0) (hne : B10 ≠ B11) (r : Bool) (s : ByteArray) (v : Value) (u : FrameMode) (w : World) (hb : w.heap[B11]? = some (boxI c)) (ho : w.heap[B10]? = some (boxD r s v)) :
    CallsD Tryd.prog 47 #[.pointer (some ⟨B11, 0, none⟩), .pointer (some ⟨B10, 0, none⟩)] u w fun e u' w' =>
      u' = u ∧ (e = .returned (.tuple #[]) ∧ w'.heap[B10]? = some (boxD false eB (.slice none 0 0)) ∧ Upd [B10] w w') := by
  have c0 : w.cell? ⟨B11, 0, none⟩ = some (.int .i64 c) := cell_blk hb 0
  have d0 : w.cell? ⟨B10, 0, none⟩ = some (.bool r) := cell_blk ho 0
  have d1 : w.cell? ⟨B10, 1, none⟩ = some (.string s) := cell_blk ho 1
  have d2 : w.cell? ⟨B10, 2, none⟩ = some v := cell_blk ho 2
  have fz := frozen_blk ho
  have hc0 : (c == 0) = false := by simpa using hc
  have hD : Hid ((((w.setCell ⟨B10, 0, none⟩ (.bool false)).setCell ⟨B10, 1, none⟩ (.string eB)).setCell ⟨B10, 2, none⟩ (.slice none 0 0)).heap[B10]? = some (boxD false eB (.slice none 0 0)) ∧ Upd [B10] w (((w.setCell ⟨B10, 0, none⟩ (.bool false)).setCell ⟨B10, 1, none⟩ (.string eB)).setCell ⟨B10, 2, none⟩ (.slice none 0 0))) :=
    Lib.hid ⟨box_set3 ho _ _ _, (((Upd.refl [B10] w).setCell (by simp) 0 _).setCell (by simp) 1 _).setCell (by simp) 2 _⟩
  clear hb ho hc hne
  go_enter_d Tryd.func47, Tryd.ntmps47
  go_wp2_with fail
  go_end0
  exact ⟨rfl, hD.out.1, hD.out.2⟩

set_option maxRecDepth 100000 in
theorem dec2_idle (B10 B11 : Nat) (u : FrameMode) (w : World) (hb : w.heap[B11]? = some (boxI 0)) :
    CallsD Tryd.prog 47 #[.pointer (some ⟨B11, 0, none⟩), .pointer (some ⟨B10, 0, none⟩)] u w fun e u' w' =>
      u' = u ∧ (e = .returned (.tuple #[]) ∧ w' = w) := by
  have c0 : w.cell? ⟨B11, 0, none⟩ = some (.int .i64 0) := cell_blk hb 0
  clear hb
  go_enter_d Tryd.func47, Tryd.ntmps47
  go_wp2_with fail
  go_end0
  exact ⟨rfl, rfl⟩
end Go.Proofs.YtnokekoojmljaaaDoor

namespace Go.Proofs.YtnokekoojmljaaaDoor
open Go.RowKit

theorem infoV : (Tryd.prog.info? 32).map (fun i => (i.zero, i.size, i.bytes)) = some (some (.agg #[.string ByteArray.empty, .int .i64 0, .slice none 0 0]), 3, 48) := by kernel_rfl
theorem info_partsV : ∃ i, Tryd.prog.info? 32 = some i ∧ i.zero = some (.agg #[.string ByteArray.empty, .int .i64 0, .slice none 0 0]) ∧ i.size = 3 ∧ i.bytes = 48 := info_parts infoV

def flatV (l : List (Evt × Value)) : List Value := l.flatMap fun p => [.string p.1.ty, .int .i64 0, p.2]
theorem flatV_len (l : List (Evt × Value)) : (flatV l).length = l.length * 3 := by
  induction l with
  | nil => rfl
  | cons x l ih => simp only [flatV, List.flatMap_cons, List.length_append, List.length_cons, List.length_nil] at ih ⊢; omega
theorem flatV_app (l r : List (Evt × Value)) : flatV (l ++ r) = flatV l ++ flatV r := by simp [flatV]

/-- Events in rows of the call's own. -/
def EvsOwn (w : World) (base : Nat) (v : Value) (evs : List Evt) : Prop :=
  ∃ lv : List (Evt × Value), evs = lv.map Prod.fst ∧ w.ownsRow base 32 3 v lv.length (flatV lv) ∧ ∀ p ∈ lv, Own w base p.2 p.1.fs

theorem evs_nil (w : World) (base : Nat) : EvsOwn w base (.slice none 0 0) [] := ⟨[], rfl, World.ownsRow_nil _ _ _ _, fun p hp => by simp at hp⟩

theorem evs_upd {F : List Nat} {w w' : World} {base : Nat} {v : Value} {evs : List Evt} (h : EvsOwn w base v evs) (u : Upd F w w') (hF : ∀ k ∈ F, k < base) : EvsOwn w' base v evs := by
  obtain ⟨lv, h1, h2, h3⟩ := h
  have hx : ∀ {e : TypeId} {size : Nat} {v : Value} {n : Nat} {xs : List Value} (h : w.ownsRow base e size v n xs), w'.ownsRow base e size v n xs := fun h => own_upd h u (fun k hk q => by have := hF k hk; have := (h.lt k q).1; omega)
  exact ⟨lv, h1, hx h2, fun p hp => hx (h3 p hp)⟩

theorem own_mono' {w : World} {a b : Nat} {e : TypeId} {size : Nat} {v : Value} {n : Nat} {xs : List Value} (h : w.ownsRow a e size v n xs) (hb : b ≤ a) : w.ownsRow b e size v n xs := by
  obtain ⟨h1, h2⟩ := h
  refine ⟨h1, ?_⟩
  rcases h2 with h2 | ⟨g, cap, cur, hv, hg, r⟩
  · exact Or.inl h2
  · exact Or.inr ⟨g, cap, cur, hv, Nat.le_trans hb hg, r⟩
theorem evs_mono {w : World} {a b : Nat} {v : Value} {evs : List Evt} (h : EvsOwn w a v evs) (hb : b ≤ a) : EvsOwn w b v evs := by
  obtain ⟨lv, h1, h2, h3⟩ := h
  exact ⟨lv, h1, own_mono' h2 hb, fun p hp => own_mono' (h3 p hp) hb⟩

/-- Rows of other types are not touched. -/
theorem own_other {w w' : World} {base base' : Nat} {e e' : TypeId} {size size' : Nat} {v v' : Value} {n n' : Nat} {xs xs' : List Value} (h : w.ownsRow base e size v n xs) (h' : w.ownsRow base' e' size' v' n' xs') (hne : e ≠ e') (g : w.grownBy w' v'.ownBlock) : w'.ownsRow base e size v n xs := by
  obtain ⟨h1, h2⟩ := h
  refine ⟨h1, ?_⟩
  rcases h2 with h2 | ⟨k, cap, cur, rfl, hg, hh, r⟩
  · exact .inl h2
  · refine .inr ⟨k, cap, cur, rfl, hg, ?_, r⟩
    refine (g.block k (lt_of_blk hh) (fun q => ?_)).trans hh
    rcases h'.2 with ⟨rfl, -⟩ | ⟨k', cap', cur', rfl, -, hh', -⟩
    · cases q
    · simp only [Value.ownBlock, Option.some.injEq] at q
      subst q
      rw [hh] at hh'
      simp only [Option.some.injEq, Obj.cells.injEq] at hh'
      exact hne hh'.2.1

theorem evs_lt {w : World} {base : Nat} {v : Value} {evs : List Evt} (h : EvsOwn w base v evs) : ∀ k, v.ownBlock = some k → base ≤ k ∧ k < w.heap.size := by
  obtain ⟨lv, -, h2, -⟩ := h
  exact h2.lt

theorem evs_slice {w : World} {base : Nat} {v : Value} {evs : List Evt} (h : EvsOwn w base v evs) : ∃ a c, v = .slice a evs.length c := by
  obtain ⟨lv, rfl, h2, -⟩ := h
  rw [List.length_map]
  rcases h2.2 with ⟨rfl, hn⟩ | ⟨g, cap, cur, rfl, -⟩
  · exact ⟨none, 0, by rw [hn]⟩
  · exact ⟨_, _, rfl⟩

theorem evs_append {w : World} {base : Nat} {v : Value} {evs : List Evt} (h : EvsOwn w base v evs) (ty : ByteArray) (fv : Value) (fs : List Fd) (hf : Own w base fv fs) {B : Nat} (hB : w.heap[B]? = some (.cells #[.string ty, .int .i64 0, fv] 32 (0, 0)))
    (hb : ((evs.length + 1) + (evs.length + 1) / 4 + 192) * 48 ≤ 281474976710656) (hbase : base ≤ w.heap.size) :
    ∃ v' w', (Builtin.append_ #[38, 38] 38 #[v, .slice (some ⟨B, 0, none⟩) 1 1]).run Tryd.prog w = .ok v' w' ∧ EvsOwn w' base v' (evs ++ [⟨ty, fs⟩]) ∧ w.grownBy w' v.ownBlock := by
  obtain ⟨i0, hi0, hz0, hz1, hz2⟩ := info_partsV
  obtain ⟨lv, rfl, h2, h3⟩ := h
  rw [List.length_map] at hb
  obtain ⟨fa, fc, hfv, -, -⟩ := (Own.recAt hf).isSlice
  obtain ⟨v', w', hrun, q2, q3, -⟩ := run_append_own_wide (P := Tryd.prog) w base 38 38 32 i0 _ 3 48 Tryd.underlying38 hi0 hz0 hz1 hz2 rfl (by omega) v lv.length (flatV lv) h2 ⟨B, 0, none⟩ 1 1 [.string ty, .int .i64 0, fv] rfl
    (fun j u hu => by
      match j, hu with
      | 0, hu => cases hu; exact cell_blk hB 0
      | 1, hu => cases hu; exact cell_blk hB 1
      | 2, hu => cases hu; exact cell_blk hB 2)
    (fun u hu => by
      subst hfv
      simp only [List.mem_cons, List.not_mem_nil, or_false] at hu
      rcases hu with rfl | rfl | rfl <;> rfl)
    (by unfold maxLen; omega) hb hbase
  refine ⟨v', w', hrun, ⟨lv ++ [(⟨ty, fs⟩, fv)], by simp, ?_, ?_⟩, q3⟩
  · rw [flatV_app, List.length_append]
    exact q2
  · intro p hp
    rcases List.mem_append.1 hp with hp | hp
    · exact own_other (h3 p hp) h2 (by decide) q3
    · simp only [List.mem_cons, List.not_mem_nil, or_false] at hp
      subst hp
      exact own_other hf h2 (by decide) q3

theorem Own.grownV {w w' : World} {base b2 : Nat} {v fv : Value} {evs : List Evt} {fs : List Fd} (h : Own w b2 fv fs) (he : EvsOwn w base v evs) (g : w.grownBy w' v.ownBlock) : Own w' b2 fv fs := by
  obtain ⟨lv, -, h2, -⟩ := he
  exact own_other h h2 (by decide) g

theorem setF_length (l : List Fd) (x : Fd) : (setF l x).length ≤ l.length + 1 := by
  unfold setF
  split
  · obtain ⟨l1, l2, h1, h2, -⟩ := insF_split l x
    rw [h2, h1]
    simp
    omega
  · rw [List.length_set]; omega

/-- What Decide hands back. -/
def decT (r : Bool) (s : ByteArray) (v : Value) (n : Int) : Value := .tuple #[.agg #[.bool r, .string s, v], .int .i64 n]
def DecPost (r : Except Int Dcn) (w : World) (e : Ending) (w' : World) : Prop := match r with
  | .error c => e = .returned (decT false eB (.slice none 0 0) c) ∧ Upd [] w w'
  | .ok (.refused s) => e = .returned (decT true s (.slice none 0 0) 0) ∧ Upd [] w w'
  | .ok (.events l) => ∃ v, e = .returned (decT false eB v 0) ∧ EvsOwn w' w.heap.size v l ∧ Upd [] w w'

theorem res_dec {fn : Func} {tmps : Array Value} {W : World} {s1 s2 B1 B2 : Nat} {r : Bool} {s : ByteArray} {a : Option Addr} {m c : Nat} {n : Int} (hr : fn.results = #[.cell s1 41, .cell s2 27])
    (h1 : tmps.getD s1 undef = .pointer (some ⟨B1, 0, none⟩)) (h2 : tmps.getD s2 undef = .pointer (some ⟨B2, 0, none⟩)) (hb1 : W.heap[B1]? = some (boxD r s (.slice a m c))) (hb2 : W.heap[B2]? = some (boxI n)) :
    (results fn tmps).run Tryd.prog W = .ok (decT r s (.slice a m c) n) W := by
  have z0 : W.cell? ⟨B1, 0, none⟩ = some (.bool r) := cell_blk hb1 0
  have z1 : W.cell? ⟨B1, 1, none⟩ = some (.string s) := cell_blk hb1 1
  have z2 : W.cell? ⟨B1, 2, none⟩ = some (.slice a m c) := cell_blk hb1 2
  have y0 : W.cell? ⟨B2, 0, none⟩ = some (.int .i64 n) := cell_blk hb2 0
  simp only [Array.getD_eq_getD_getElem?] at h1 h2
  simp [results, hr, h1, h2, go_sem, z0, z1, z2, y0, decT]
end Go.Proofs.YtnokekoojmljaaaDoor

namespace Go.Proofs.YtnokekoojmljaaaDoor
open Go.RowKit

theorem allX_any (P : Pl) : ∀ l : List Cd, allX P l = notE (anyQ (fun c => notE (holdsX P c)) l) := by
  intro l
  induction l with
  | nil => rfl
  | cons c l ih =>
    unfold allX anyQ
    rcases h : holdsX P c with e | b
    · rfl
    · cases b with
      | true => exact ih
      | false => rfl

def evOut (r : Except Int (List Evt)) : Except Int Dcn := match r with
  | .error e => .error e
  | .ok es => .ok (.events es)
def emitOut (P : Pl) (ty : ByteArray) (rest : List Emt) (evs : List Evt) (r : Except Int (List Fd)) : Except Int (List Evt) := match r with
  | .error e => .error e
  | .ok fs => emitsX P rest (evs ++ [⟨ty, fs⟩])
theorem emitsX_cons (P : Pl) (m : Emt) (l : List Emt) (evs : List Evt) : emitsX P (m :: l) evs = emitOut P m.ty l evs (setsX P m.sets []) := by
  simp only [emitsX, emitOut]
  cases setsX P m.sets [] <;> rfl
def setOut (P : Pl) (nm : ByteArray) (rest : List Asg) (acc : List Fd) (r : Rs) : Except Int (List Fd) := match r with
  | .error e => .error e
  | .ok f => setsX P rest (setF acc ⟨nm, f.tx, f.n, f.s⟩)
theorem setsX_cons (P : Pl) (a : Asg) (l : List Asg) (acc : List Fd) : setsX P (a :: l) acc = setOut P a.nm l acc (valueX P a.e) := by
  simp only [setsX, setOut]
  cases valueX P a.e <;> rfl
def caseOut (P : Pl) (c : Cse) (rest : List Cse) (r : Except Int Bool) : Except Int Dcn := match r with
  | .error e => .error e
  | .ok false => casesX P rest
  | .ok true => if c.emits.length = 0 then .ok (.refused c.refuse) else evOut (emitsX P c.emits [])
theorem casesX_cons (P : Pl) (c : Cse) (l : List Cse) : casesX P (c :: l) = caseOut P c l (allX P c.when) := by
  simp only [casesX, caseOut]
  cases allX P c.when with
  | error e => rfl
  | ok b => cases b with
    | false => rfl
    | true =>
      dsimp only
      split
      · rfl
      · unfold evOut
        cases emitsX P c.emits [] <;> rfl

theorem errIn_holds (P : Pl) (c : Cd) : ErrIn (holdsX P c) := by
  unfold holdsX
  split
  · split
    · exact errIn_ok _
    · have ha := errIn_value P c.a
      have hb := errIn_value P c.b
      cases h1 : valueX P c.a with
      | error e => exact fun e' h => by cases h; exact ha _ h1
      | ok a => cases h2 : valueX P c.b with
        | error e => exact fun e' h => by cases h; exact hb _ h2
        | ok b =>
          dsimp only
          split
          · exact errIn_ok _
          split
          · exact errIn_ok _
          · exact errIn_of _ (by omega) (by omega)
  · exact errIn_of _ (by omega) (by omega)
theorem errIn_any (P : Pl) : ∀ l : List Cd, ErrIn (anyQ (fun c => notE (holdsX P c)) l) := by
  intro l
  induction l with
  | nil => exact errIn_ok _
  | cons c l ih =>
    unfold anyQ
    have hh := errIn_holds P c
    rcases h : holdsX P c with e | b
    · exact fun e' h' => by cases h'; exact hh _ h
    · cases b with
      | true => exact ih
      | false => exact errIn_ok _

abbrev dfr (B10 B11 : Nat) : List Deferred := [{ target := .fn (.func 48) #[], args := #[.pointer (some ⟨B11, 0, none⟩)] }, { target := .fn (.func 47) #[.pointer (some ⟨B11, 0, none⟩), .pointer (some ⟨B10, 0, none⟩)], args := #[] }]

theorem leave_ret {tmps : Array Value} {R : Ending → World → Prop} {W : World} {B10 B11 : Nat} {r : Bool} {s : ByteArray} {a : Option Addr} {m c : Nat} (h1 : tmps.getD 10 undef = .pointer (some ⟨B10, 0, none⟩)) (h2 : tmps.getD 11 undef = .pointer (some ⟨B11, 0, none⟩))
    (ho : W.heap[B10]? = some (boxD r s (.slice a m c))) (he : W.heap[B11]? = some (boxI 0)) (hR : ∀ W', Upd [] W W' → R (.returned (decT r s (.slice a m c) 0)) W') :
    Leaves Tryd.prog Tryd.f17 tmps R (dfr B10 B11) .returning W := by
  refine leaves_cons (f := 48) (args := #[.pointer (some ⟨B11, 0, none⟩)]) (by simp) (by simp [go_sem]) ?_
  refine (caught_idle _ _).mono ?_
  rintro e u' w2 ⟨rfl, rfl, hu2⟩
  have ho2 := (hu2.block _ (lt_of_blk ho) (by simp)).trans ho
  have he2 := (hu2.block _ (lt_of_blk he) (by simp)).trans he
  refine leaves_cons (f := 47) (args := #[.pointer (some ⟨B11, 0, none⟩), .pointer (some ⟨B10, 0, none⟩)]) (by simp [settle]) (by simp [go_sem]) ?_
  refine (dec2_idle B10 B11 _ w2 he2).mono ?_
  rintro e u' w3 ⟨rfl, rfl, rfl⟩
  exact ⟨_, res_dec (B1 := B10) (B2 := B11) Tryd.results17 h1 h2 ho2 he2, hR _ hu2⟩

theorem leave_err {tmps : Array Value} {R : Ending → World → Prop} {W : World} {B10 B11 : Nat} {r : Bool} {s : ByteArray} {v : Value} {n cc : Int} (hcc : cc ≠ 0) (hne : B10 ≠ B11) (h1 : tmps.getD 10 undef = .pointer (some ⟨B10, 0, none⟩)) (h2 : tmps.getD 11 undef = .pointer (some ⟨B11, 0, none⟩))
    (ho : W.heap[B10]? = some (boxD r s v)) (he : W.heap[B11]? = some (boxI n)) (hR : ∀ W', Upd [B10, B11] W W' → R (.returned (decT false eB (.slice none 0 0) cc)) W') :
    Leaves Tryd.prog Tryd.f17 tmps R (dfr B10 B11) (.panicking (chn cc)) W := by
  refine leaves_cons (f := 48) (args := #[.pointer (some ⟨B11, 0, none⟩)]) (by simp) (by simp [go_sem]) ?_
  refine (caught_err _ n cc _ he).mono ?_
  rintro e u' w2 ⟨rfl, rfl, hb, hu2⟩
  have ho2 := (hu2.block _ (lt_of_blk ho) (by simpa using hne)).trans ho
  refine leaves_cons (f := 47) (args := #[.pointer (some ⟨B11, 0, none⟩), .pointer (some ⟨B10, 0, none⟩)]) (by simp [settle]) (by simp [go_sem]) ?_
  refine (dec2_err B10 B11 cc hcc hne r s v _ w2 hb ho2).mono ?_
  rintro e u' w3 ⟨rfl, rfl, ho3, hu3⟩
  have he3 := (hu3.block _ (lt_of_blk hb) (by simpa using hne.symm)).trans hb
  refine ⟨_, res_dec (B1 := B10) (B2 := B11) Tryd.results17 h1 h2 ho3 he3, hR _ ?_⟩
  exact (hu2.mono (fun k hk _ => by simp at hk; simp [hk])).trans (hu3.mono (fun k hk _ => by simp at hk; simp [hk]))

/-- What lies ready while cases are gone through. -/
structure DeRun (w : World) (SR PB : Obj) (n p : Nat) (v : Value) (W : World) : Prop where
  r : W.heap[n]? = some SR
  o : W.heap[n + 1 + 1]? = some (boxD false eB v)
  e : W.heap[n + 1 + 1 + 1]? = some (boxI 0)
  pl : W.heap[p]? = some PB
  upd : Upd [] w W
theorem DeRun.next {w : World} {SR PB : Obj} {n p : Nat} {v : Value} {W W' : World} (h : DeRun w SR PB n p v W) (u : Upd [] W W') : DeRun w SR PB n p v W' :=
  ⟨(u.block _ (lt_of_blk h.r) (by simp)).trans h.r, (u.block _ (lt_of_blk h.o) (by simp)).trans h.o, (u.block _ (lt_of_blk h.e) (by simp)).trans h.e, (u.block _ (lt_of_blk h.pl) (by simp)).trans h.pl, h.upd.trans u⟩
theorem DeRun.grown {w : World} {SR PB : Obj} {n p : Nat} {v : Value} {W W' : World} {row : Option Nat} (h : DeRun w SR PB n p v W) (g : W.grownBy W' row) (hr : ∀ k, row = some k → p < k) (hp : n + 1 + 1 + 1 < p) (hw : w.heap.size ≤ n) : DeRun w SR PB n p v W' :=
  ⟨(g.block _ (lt_of_blk h.r) (fun q => by have := hr _ q.symm; omega)).trans h.r, (g.block _ (lt_of_blk h.o) (fun q => by have := hr _ q.symm; omega)).trans h.o, (g.block _ (lt_of_blk h.e) (fun q => by have := hr _ q.symm; omega)).trans h.e, (g.block _ (lt_of_blk h.pl) (fun q => by have := hr _ q.symm; omega)).trans h.pl, h.upd.grown g (fun q hq => by have := hr _ hq; omega)⟩
theorem DeRun.out {w : World} {SR PB : Obj} {n p : Nat} {v : Value} {W : World} (h : DeRun w SR PB n p v W) (hp : n + 1 + 1 + 1 < p) (hw : w.heap.size ≤ n) (v' : Value) : DeRun w SR PB n p v' (W.setCell ⟨n + 1 + 1, 2, none⟩ v') :=
  ⟨by rw [heap_setCell, if_neg (by omega)]; exact h.r, by rw [heap_setCell, if_pos rfl, h.o]; rfl, by rw [heap_setCell, if_neg (by omega)]; exact h.e, by rw [heap_setCell, if_neg (by omega)]; exact h.pl, h.upd.setCellNew (by omega) _ _⟩
end Go.Proofs.YtnokekoojmljaaaDoor
