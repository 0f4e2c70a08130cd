/- The rules' meets. The library's IndexFunc and ContainsFunc over conditions, where the asker may give up. -/
import Derived.Test.YtnokekoojmljaaaDoorGFo
namespace Go.Proofs.YtnokekoojmljaaaDoor
open Go.RowKit

theorem entersMeets1 : ∀ args w, (callFunc 73 args).run Tryd.prog w = .ok (.enter 73 args) w := enters_of Tryd.func73 (by kernel_rfl) rfl

set_option maxRecDepth 100000 in
theorem meets1_ok (given : List Fd) (vg : Value) (B : Nat) (x : Ned) (w W : World) (hg : RecAt w vg given) (hB : w.heap[B]? = some (.cells #[vg] 30 (0, 0))) (u : Upd [] w W) :
    Calls Tryd.prog 73 #[aggN x, .pointer (some ⟨B, 0, none⟩)] W fun e w' => e = .returned (.bool (!needB given x)) ∧ Upd [] w w' := by
  obtain ⟨ga, gc, hvg, -, -⟩ := hg.isSlice
  subst hvg
  have hB' := (u.block B (lt_of_blk hB) (by simp)).trans hB
  have hc : W.cell? ⟨B, 0, none⟩ = some (.slice ga given.length gc) := cell_blk hB' 0
  have hlt := lt_of_blk hB'
  have hne : ¬ B = W.heap.size := by omega
  have HG := Lib.hid (get_ok _ given x.nm (W.alloc (boxN x)) (hg.keep (u.alloc (boxN x))))
  have HU := Lib.hid (u.alloc (boxN x))
  have HR : Hid (needB given x = match getF given x.nm with | some f => f.tx == x.tx | none => false) := Lib.hid rfl
  generalize needB given x = R at *
  generalize getF given x.nm = r at *
  have hbx : Hid ((W.alloc (boxN x)).heap[W.heap.size]? = some (boxN x)) := Lib.hid (heap_top _ _)
  clear u hB hB' hg
  obtain ⟨nm, tx⟩ := x
  dsimp only at HR
  go_enter Tryd.func73, Tryd.ntmps73
  go_wp2_with fail
  refine HG.out.mono ?_
  rintro e w1 ⟨rfl, hu1⟩
  have hb1 := (hu1.block _ (lt_of_blk hbx.out) (by simp)).trans hbx.out
  have c1 : w1.cell? ⟨W.heap.size, 1, none⟩ = some (.bool tx) := cell_blk hb1 1
  have hlt1 := lt_of_blk hb1
  have HU1 : Hid (Upd [] w w1) := Lib.hid (HU.out.trans hu1)
  clear hu1 hbx HG HU hc hne hb1
  have hne1 : ¬ W.heap.size = w1.heap.size := by omega
  cases r with
  | none =>
    dsimp only [Option.getD, Option.isSome]
    go_wp2_with fail
    go_ret
    exact ⟨by rw [HR.out]; rfl, HU1.out.alloc _⟩
  | some f =>
    obtain ⟨fnm, ftx, fn, fs⟩ := f
    dsimp only [Option.getD, Option.isSome]
    go_wp2_with fail
    go_ret
    exact ⟨by rw [HR.out]; cases ftx <;> cases tx <;> rfl, HU1.out.alloc _⟩

set_option maxRecDepth 100000 in
theorem meets_ok (l : List Ned) (given : List Fd) (vn vg : Value) (w : World) (hn : NedsAt w vn l) (hg : RecAt w vg given) :
    Calls Tryd.prog 46 #[vn, vg] w fun e w' => e = .returned (.bool (needsB l given)) ∧ Upd [] w w' := by
  obtain ⟨ga, gc, hvg, -, -⟩ := hg.isSlice
  obtain ⟨na, nc, hvn, -, -⟩ := hn.isSlice
  subst hvg hvn
  have u0 : Upd [] w (w.alloc (.cells #[.slice ga given.length gc] 30)) := (Upd.refl [] w).alloc _
  have HC := Lib.hid (conN_ok 73 #[.pointer (some ⟨w.heap.size, 0, none⟩)] (fun x => !needB given x) entersMeets1 _ l _ (hn.keep u0) (fun W x hx u => meets1_ok given _ _ x _ W (hg.keep u0) (heap_top w (.cells #[.slice ga given.length gc] 30)) u))
  have HR : Hid (needsB l given = (decide ((l.length : Int) = (given.length : Int)) && !(l.any fun x => !needB given x))) := Lib.hid (by
    unfold needsB
    congr 1
    · rw [decide_eq_decide]; omega
    · rw [List.all_eq_not_any_not])
  have HU := Lib.hid u0
  generalize needsB l given = R at *
  generalize (l.any fun x => !needB given x) = q at *
  clear hn hg u0
  go_enter Tryd.func46, Tryd.ntmps46
  by_cases hlen : (l.length : Int) = (given.length : Int)
  · have hq : ((l.length : Int) == (given.length : Int)) = true := by simpa using hlen
    rw [decide_eq_true hlen] at HR
    clear hlen
    go_wp2_with fail
    refine HC.out.mono ?_
    rintro e w1 ⟨rfl, hu1⟩
    have HU1 := Lib.hid (HU.out.trans hu1)
    clear hu1 HC
    go_wp2_with fail
    go_ret
    exact ⟨by rw [HR.out]; rfl, HU1.out⟩
  · have hq : ((l.length : Int) == (given.length : Int)) = false := by simpa using hlen
    rw [decide_eq_false hlen] at HR
    clear hlen
    go_wp2_with fail
    go_ret
    exact ⟨by rw [HR.out]; rfl, HU.out⟩
end Go.Proofs.YtnokekoojmljaaaDoor

namespace Go.Proofs.YtnokekoojmljaaaDoor
open Go.RowKit

/-- The first that is asked for; where it cannot be told, the error. -/
def idxQ (q : Cd → Except Int Bool) : List Cd → Nat → Except Int Int
  | [], _ => .ok (-1)
  | x :: l, j => match q x with
    | .error e => .error e
    | .ok true => .ok j
    | .ok false => idxQ q l (j + 1)
def anyQ (q : Cd → Except Int Bool) : List Cd → Except Int Bool
  | [] => .ok false
  | x :: l => match q x with
    | .error e => .error e
    | .ok true => .ok true
    | .ok false => anyQ q l

theorem idxQ_drop (q : Cd → Except Int Bool) (l : List Cd) (j : Nat) (hj : j < l.length) : idxQ q (l.drop j) j = match q l[j] with
    | .error e => .error e
    | .ok true => .ok j
    | .ok false => idxQ q (l.drop (j + 1)) (j + 1) := by
  rw [List.drop_eq_getElem_cons hj, idxQ]
theorem idxQ_any (q : Cd → Except Int Bool) : ∀ (l : List Cd) (j : Nat), (∃ e, idxQ q l j = .error e ∧ anyQ q l = .error e) ∨ (∃ i : Int, idxQ q l j = .ok i ∧ ((0 ≤ i ∧ anyQ q l = .ok true) ∨ (i = -1 ∧ anyQ q l = .ok false))) := by
  intro l
  induction l with
  | nil => intro j; exact .inr ⟨-1, rfl, .inr ⟨rfl, rfl⟩⟩
  | cons x l ih =>
    intro j
    unfold idxQ anyQ
    rcases h : q x with e | b
    · exact .inl ⟨e, rfl, rfl⟩
    · cases b with
      | true => exact .inr ⟨j, rfl, .inl ⟨by omega, rfl⟩⟩
      | false => exact ih (j + 1)

set_option maxRecDepth 100000 in
set_option maxHeartbeats 1600000 in
theorem idxC_ok (g : Nat) (lb : Array Value) (q : Cd → Except Int Bool) (eg : ∀ args w, (callFunc g args).run Tryd.prog w = .ok (.enter g args) w) (v : Value) (l : List Cd) (w : World) (h : SlAt 10 CdAt w v l)
    (hp : ∀ (W : World) (x : Cd), x ∈ l → KidsAt w x.a.av x.a.kids → KidsAt w x.b.av x.b.kids → Upd [] w W → Calls Tryd.prog g (#[aggC x] ++ lb) W fun e w' => e = endV .bool (q x) ∧ Upd [] w w') :
    Calls Tryd.prog 76 #[v, .func (.func g) #[] lb] w fun e w' => e = endV (.int .i64) (idxQ q l 0) ∧ Upd [] w w' := by
  have HP := Lib.hid hp
  have HL := Lib.hid h
  obtain ⟨a, cap, rfl, h1, h2, -⟩ := h
  have H0 : Hid (idxQ q l 0 = idxQ q (l.drop 0) 0) := Lib.hid (by rw [List.drop_zero])
  generalize idxQ q l 0 = R at *
  clear hp
  unfold maxLen at h2
  go_enter Tryd.func76, Tryd.ntmps76
  go_wp2_with fail
  go_loopg [5, 8] l.length (fun n _ i wr => ∃ j : Nat, i = .int .i64 j ∧ j ≤ l.length ∧ n = l.length - j ∧ Hid (R = idxQ q (l.drop j) j) ∧ Hid (Upd [] w wr))
  case atStart => exact ⟨0, rfl, by omega, rfl, H0, Lib.hid (Upd.refl _ _)⟩
  case round =>
    obtain ⟨j, rfl, hj, rfl, hA, HU⟩ := hrel
    by_cases hjl : j < l.length
    · have hlt : (j : Int) < (l.length : Int) := by omega
      obtain ⟨a', cap', hv, g1, g2, g3⟩ := CdsAt.keep HU.out HL.out
      simp only [Value.slice.injEq] at hv
      obtain ⟨rfl, -, rfl⟩ := hv
      obtain ⟨b, off, rfl, hy⟩ := g3 j hjl
      obtain ⟨⟨c0, c1, ⟨c2, c3, c4, c5⟩, ⟨c6, c7, c8, c9⟩⟩, hka, hkb⟩ := hy
      obtain ⟨aa, ac, haa⟩ := hka.isSlice
      obtain ⟨ba, bc, hba⟩ := hkb.isSlice
      have hxa : KidsAt w l[j].a.av l[j].a.kids ∧ KidsAt w l[j].b.av l[j].b.kids := by
        obtain ⟨a2, cap2, hv2, q1, q2, q3⟩ := HL.out
        obtain ⟨b2, off2, e2, hy2⟩ := q3 j hjl
        exact hy2.2
      have hcall := HP.out wr l[j] (List.getElem_mem hjl) hxa.1 hxa.2 HU.out
      have hA2 := hA.out
      rw [idxQ_drop _ _ _ hjl] at hA2
      clear hka hkb g3 hxa
      generalize hq : q l[j] = r at *
      generalize l[j] = y at *
      clear hq
      obtain ⟨ykd, ynt, ⟨akd, an, as_, aav, akids⟩, ⟨bkd, bn, bs, bav, bkids⟩⟩ := y
      dsimp only at haa hba c0 c1 c2 c3 c4 c5 c6 c7 c8 c9 hcall
      subst haa hba
      have HCl := Lib.hid hcall
      clear hcall
      rcases r with ce | bb
      · have HA2 : Hid (R = .error ce) := Lib.hid hA2
        clear hA2
        go_wp2_with (go_at_fn g; refine HCl.out.mono ?_; rintro e w' ⟨rfl, hu'⟩; dsimp only [endV])
        exact ⟨rfl, by rw [HA2.out]; rfl, hu'⟩
      · cases bb with
        | true =>
          have HA2 : Hid (R = .ok (j : Int)) := Lib.hid hA2
          clear hA2
          go_wp2_with (go_at_fn g; refine HCl.out.mono ?_; rintro e w' ⟨rfl, hu'⟩; dsimp only [endV])
          go_ret
          exact ⟨by rw [HA2.out]; rfl, hu'⟩
        | false =>
          have HA2 : Hid (R = idxQ q (l.drop (j + 1)) (j + 1)) := Lib.hid hA2
          clear hA2
          go_wp2_with (go_at_fn g; refine HCl.out.mono ?_; rintro e w' ⟨rfl, hu'⟩; dsimp only [endV])
          go_roundg (l.length - (j + 1))
          case measure => omega
          case rel => exact ⟨j + 1, by go_num, by omega, rfl, HA2, Lib.hid hu'⟩
    · have hlt : ¬ (j : Int) < (l.length : Int) := by omega
      have hres : Hid (R = .ok (-1)) := Lib.hid (by rw [hA.out, List.drop_eq_nil_of_le (by omega), idxQ])
      go_wp2_with fail
      go_ret
      exact ⟨by rw [hres.out]; rfl, HU.out⟩

set_option maxRecDepth 100000 in
theorem conC_ok (g : Nat) (lb : Array Value) (q : Cd → Except Int Bool) (eg : ∀ args w, (callFunc g args).run Tryd.prog w = .ok (.enter g args) w) (v : Value) (l : List Cd) (w : World) (h : SlAt 10 CdAt w v l)
    (hp : ∀ (W : World) (x : Cd), x ∈ l → KidsAt w x.a.av x.a.kids → KidsAt w x.b.av x.b.kids → Upd [] w W → Calls Tryd.prog g (#[aggC x] ++ lb) W fun e w' => e = endV .bool (q x) ∧ Upd [] w w') :
    Calls Tryd.prog 49 #[v, .func (.func g) #[] lb] w fun e w' => e = endV .bool (anyQ q l) ∧ Upd [] w w' := by
  have HC := Lib.hid (idxC_ok g lb q eg v l w h hp)
  obtain ⟨a, cap, rfl, -, -, -⟩ := h
  clear hp
  rcases idxQ_any q l 0 with ⟨ce, h1, h2⟩ | ⟨i, h1, ⟨h2, h3⟩ | ⟨rfl, h3⟩⟩
  · rw [h2]
    rw [h1] at HC
    clear h1 h2
    go_enter Tryd.func49, Tryd.ntmps49
    go_wp2_with fail
    refine HC.out.mono ?_
    rintro e w' ⟨rfl, hu⟩
    dsimp only [endV]
    go_wp2_with fail
    exact ⟨rfl, rfl, hu⟩
  · rw [h3]
    rw [h1] at HC
    clear h1 h3
    go_enter Tryd.func49, Tryd.ntmps49
    go_wp2_with fail
    refine HC.out.mono ?_
    rintro e w' ⟨rfl, hu⟩
    have HU := Lib.hid hu
    clear hu
    dsimp only [endV]
    go_wp2_with fail
    go_ret
    exact ⟨rfl, HU.out⟩
  · rw [h3]
    rw [h1] at HC
    clear h1 h3
    go_enter Tryd.func49, Tryd.ntmps49
    go_wp2_with fail
    refine HC.out.mono ?_
    rintro e w' ⟨rfl, hu⟩
    have HU := Lib.hid hu
    clear hu
    dsimp only [endV]
    go_wp2_with fail
    go_ret
    exact ⟨rfl, HU.out⟩
end Go.Proofs.YtnokekoojmljaaaDoor
