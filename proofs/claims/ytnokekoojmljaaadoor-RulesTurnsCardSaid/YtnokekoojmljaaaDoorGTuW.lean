/- RulesTurns, walked (printed by gtu.py). -/
import Derived.Test.YtnokekoojmljaaaDoorGHt
import Derived.Test.YtnokekoojmljaaaDoorGAw
import Derived.Test.YtnokekoojmljaaaDoorGTuR
namespace Go.Proofs.YtnokekoojmljaaaDoor
open Go.RowKit

set_option maxRecDepth 100000 in
theorem valueF_ok (f : Fd) (w : World) : Calls Tryd.prog 24 #[aggF f] w fun e w' => e = .returned (aggX (valX f)) ∧ Upd [] w w' := by
  obtain ⟨nm, tx, n, s⟩ := f
  cases tx with
  | true =>
    go_enter Tryd.func24, Tryd.ntmps24
    go_wp2_with fail
    refine bodyPost_ret (by simp [results, Tryd.results24, go_sem]; try rfl) rfl ?_
    exact ⟨rfl, ((Upd.refl _ _).alloc _).alloc _⟩
  | false =>
    go_enter Tryd.func24, Tryd.ntmps24
    go_wp2_with fail
    refine bodyPost_ret (by simp [results, Tryd.results24, go_sem]; try rfl) rfl ?_
    exact ⟨rfl, ((Upd.refl _ _).alloc _).alloc _⟩

theorem valX_facts {f : Fd} (h : OkF f) : ((valX f).av = nilS ∧ (valX f).kids = .nil) ∧ fitX (valX f) := by
  obtain ⟨nm, tx, n, s⟩ := f
  cases tx with
  | true => exact ⟨⟨rfl, rfl⟩, ⟨by show In64 2; unfold In64; decide, by show In64 0; unfold In64; decide, h.1⟩, trivial⟩
  | false => exact ⟨⟨rfl, rfl⟩, ⟨by show In64 1; unfold In64; decide, h.2, by show eB.size ≤ _; decide⟩, trivial⟩

theorem pair_kids {V : World} {sb : Nat} {X Y : Xp} (h : V.heap[sb]? = some (.cells (rowX X Y) 54 (0, 0))) (hx : X.av = nilS ∧ X.kids = .nil) (hy : Y.av = nilS ∧ Y.kids = .nil) (kq : Int) :
    KidsAt V (pairX kq (slV sb 2) X Y).av (pairX kq (slV sb 2) X Y).kids := by
  obtain ⟨xk, xn, xs, xv, xc⟩ := X
  obtain ⟨yk, yn, ys, yv, yc⟩ := Y
  obtain ⟨rfl, rfl⟩ := hx
  obtain ⟨rfl, rfl⟩ := hy
  refine ⟨_, 2, rfl, Nat.le_refl _, by unfold maxLen; omega, ⟨sb, 0, rfl, cell_blk h 0, cell_blk h 1, cell_blk h 2, cell_blk h 3⟩, ⟨none, 0, rfl, Nat.le_refl _, by unfold maxLen; omega, trivial⟩, ⟨sb, 0, rfl, cell_blk h 4, cell_blk h 5, cell_blk h 6, cell_blk h 7⟩, ⟨none, 0, rfl, Nat.le_refl _, by unfold maxLen; omega, trivial⟩, trivial⟩

theorem neg_split {t u : Rs} (h : Neg t u) : ∃ tnm ttx ts qnm qtx qn qs ct, evT t = .tuple #[aggF ⟨tnm, ttx, -qn, ts⟩, .int .i64 ct] ∧ evT u = .tuple #[aggF ⟨qnm, qtx, qn, qs⟩, .int .i64 ct] ∧ (withinB qn = true ∨ qn = 0) := by
  match t, u, h with
  | .ok x, .ok y, h => exact ⟨x.nm, x.tx, x.s, y.nm, y.tx, y.n, y.s, 0, by rw [← h.1]; rfl, rfl, Or.inl h.2⟩
  | .error e, .error f, h =>
    obtain rfl : e = f := h
    exact ⟨eB, false, eB, eB, false, 0, eB, e, rfl, rfl, Or.inr rfl⟩

theorem pair_fit {X Y : Xp} (hx : fitX X) (hy : fitX Y) (kq : Int) (hq : In64 kq) (v : Value) : fitX (pairX kq v X Y) := ⟨⟨hq, by show In64 0; unfold In64; decide, by show eB.size ≤ _; decide⟩, hx.1, hx.2, hy.1, hy.2, trivial⟩

/-- What lies ready: two expressions and a condition. -/
structure TuIn (xa xb : Xp) (c : Cd) (w W : World) : Prop where
  a : W.heap[w.heap.size]? = some (boxX xa)
  b : W.heap[w.heap.size + 1]? = some (boxX xb)
  c : W.heap[w.heap.size + 1 + 1]? = some (boxC c)
  upd : Upd [] w W

theorem TuIn.start (xa xb : Xp) (c : Cd) (w : World) : TuIn xa xb c w (((w.alloc (boxX xa)).alloc (boxX xb)).alloc (boxC c)) :=
  ⟨by rw [heap_alloc, if_neg (by simp; omega), heap_alloc, if_neg (by simp), heap_alloc, if_pos rfl], by rw [heap_alloc, if_neg (by simp), heap_alloc, if_pos (by simp)], by rw [heap_alloc, if_pos (by simp)], (((Upd.refl [] w).alloc _).alloc _).alloc _⟩

theorem TuIn.next {xa xb : Xp} {c : Cd} {w W W' : World} (h : TuIn xa xb c w W) (u : Upd [] W W') : TuIn xa xb c w W' :=
  ⟨(u.block _ (lt_of_blk h.a) (by simp)).trans h.a, (u.block _ (lt_of_blk h.b) (by simp)).trans h.b, (u.block _ (lt_of_blk h.c) (by simp)).trans h.c, h.upd.trans u⟩

theorem valP_ok (f : Fd) (W W' : World) (u : Upd [] W W') : Calls Tryd.prog 24 #[aggF f] W' fun e w' => e = .returned (aggX (valX f)) ∧ Upd [] W w' ∧ ∀ (k : Nat) (o : Obj), W'.heap[k]? = some o → w'.heap[k]? = some o :=
  (valueF_ok f W').mono fun e w' h => ⟨h.1, u.trans h.2, fun k o hk => (h.2.block k (lt_of_blk hk) (by simp)).trans hk⟩

set_option maxRecDepth 100000 in
set_option maxHeartbeats 8000000 in
theorem turns_walk (P : Pl) (hP : FitP P) (vs vg : Value) (xa xb : Xp) (c : Cd) (fa : fitX xa) (fb : fitX xb) (hf : FitC c) (w : World) (hT : Tab w) (hp : PlAt w P vs vg) (ka : KidsAt w xa.av xa.kids) (kb : KidsAt w xb.av xb.kids) (hka : KidsAt w c.a.av c.a.kids) (hkb : KidsAt w c.b.av c.b.kids) :
    Calls Tryd.prog 9 #[aggX xa, aggX xb, aggC c, .string P.st, vs, vg] w fun e w' => e = .returned (.bool true) ∧ Upd [] w w' := by
  have hst := TuIn.start xa xb c w
  have HA := Lib.hid (awake_ok _ (hT.upd hst.upd))
  have HV := Lib.hid (fun W (u : Upd [] w W) (x : Xp) (hx : fitX x) (hk : KidsAt W x.av x.kids) => Eval_ok P hP vs vg x hx W (hT.upd u) (hp.keep u) hk)
  have HVa := Lib.hid (fun W (u : Upd [] w W) => Eval_ok P hP vs vg xa fa W (hT.upd u) (hp.keep u) (ka.keep u))
  have HVb := Lib.hid (fun W (u : Upd [] w W) => Eval_ok P hP vs vg xb fb W (hT.upd u) (hp.keep u) (kb.keep u))
  have HO := Lib.hid (fun W (u : Upd [] w W) => Holds_ok P hP vs vg c hf W (hT.upd u) (hp.keep u) (hka.keep u) (hkb.keep u))
  have HO2 := Lib.hid (fun W (u : Upd [] w W) => Holds_ok P hP vs vg ⟨c.kd, !c.nt, c.a, c.b⟩ hf W (hT.upd u) (hp.keep u) (hka.keep u) (hkb.keep u))
  have hE1 := errIn_value P xa
  have hE2 := errIn_value P xb
  have hN := holds_not P c
  have hNE : ∀ e, holdsX P c = .error e → ¬ e = 0 := fun e h => by have := errIn_holds P c e h; omega
  have HNE := Lib.hid hNE
  clear hNE
  have hoa : ∀ f, valueX P xa = .ok f → OkF f := fun f h => okF_eval P hP xa fa f (value_eval h)
  have hob : ∀ f, valueX P xb = .ok f → OkF f := fun f h => okF_eval P hP xb fb f (value_eval h)
  have hPV := Lib.hid (fun kd (hk : kd = 6 ∨ kd = 7 ∨ kd = 8) v a b => pair_value P kd hk v a b)
  obtain ⟨aa, ac, haa⟩ := ka.isSlice
  obtain ⟨ba, bc, hba⟩ := kb.isSlice
  obtain ⟨ca, cc, hca⟩ := hka.isSlice
  obtain ⟨da, dc, hda⟩ := hkb.isSlice
  obtain ⟨sa, sc, hvs, -, -⟩ := hp.1.isSlice
  obtain ⟨ga, gc, hvg, -, -⟩ := hp.2.isSlice
  clear hT hp ka kb hka hkb hP fa fb hf
  subst hvs hvg
  rw [hN] at HO2
  generalize holdsX P c = rh at *
  generalize valueX P xa = ra at *
  generalize valueX P xb = rb at *
  clear hN
  obtain ⟨⟨fnm, ftx, fn, fs⟩, ce, hev, hce⟩ := evT_split ra hE1
  obtain ⟨⟨gnm, gtx, gn, gs⟩, cf, hev2, hcf⟩ := evT_split rb hE2
  rw [hev] at HVa
  rw [hev2] at HVb
  have HCE := Lib.hid hce
  have HCF := Lib.hid hcf
  have HOA := Lib.hid hoa
  have HOB := Lib.hid hob
  clear hev hev2 hce hcf hE1 hE2 hoa hob
  obtain ⟨st, state, given⟩ := P
  obtain ⟨akd, an, as_, aav, akids⟩ := xa
  obtain ⟨bkd, bn, bs, bav, bkids⟩ := xb
  obtain ⟨kd, nt, ⟨ckd, cn, cs, cav, ckids⟩, ⟨dkd, dn, ds, dav, dkids⟩⟩ := c
  dsimp only at haa hba hca hda HVa HVb HO HO2 hst HV hPV
  subst haa hba hca hda
  have HS := Lib.hid hst
  clear hst
  go_enter Tryd.func9, Tryd.ntmps9
  go_wp2_with fail
  refine HA.out.mono ?_
  rintro e w1 ⟨rfl, hu1⟩
  have hs1 := HS.out.next hu1
  have HS1 := Lib.hid hs1
  have a0 := cell_blk hs1.a 0
  have a1 := cell_blk hs1.a 1
  have a2 := cell_blk hs1.a 2
  have a3 := cell_blk hs1.a 3
  clear hs1 HS hu1 HA
  go_wp2_with fail
  refine (HVa.out _ HS1.out.upd).mono ?_
  rintro e w2 ⟨rfl, hu2⟩
  have hs2 := (HS1.out.next hu2).next ((Upd.refl [] w2).alloc (boxF ⟨fnm, ftx, fn, fs⟩))
  have hs2' := HS1.out.next hu2
  have HS2 := Lib.hid hs2
  have b0 := cell_blk hs2'.b 0
  have b1 := cell_blk hs2'.b 1
  have b2 := cell_blk hs2'.b 2
  have b3 := cell_blk hs2'.b 3
  have hlb := lt_of_blk hs2'.b
  have hnb : ¬ w.heap.size + 1 = w2.heap.size := by omega
  have HF2 := Lib.hid (heap_top w2 (boxF ⟨fnm, ftx, fn, fs⟩))
  clear hs2 hs2' hu2 HS1 a0 a1 a2 a3 HVa
  go_wp2_with fail
  refine (HVb.out _ HS2.out.upd).mono ?_
  rintro e w3 ⟨rfl, hu3⟩
  have hu4 : Upd [] (w2.alloc (boxF ⟨fnm, ftx, fn, fs⟩)) (w3.alloc (boxF ⟨gnm, gtx, gn, gs⟩)) := hu3.alloc _
  have HS3 := Lib.hid (HS2.out.next hu4)
  have HF3 := Lib.hid ((hu4.block _ (lt_of_blk HF2.out) (by simp)).trans HF2.out)
  have HG3 := Lib.hid (heap_top w3 (boxF ⟨gnm, gtx, gn, gs⟩))
  clear hu3 hu4 HS2 HF2 HVb b0 b1 b2 b3 hlb hnb
  generalize w2.heap.size = Bf at *
  go_upto_region 4 with (fail)
  change Code.wp _ _ _ _ (w3.alloc (boxF ⟨gnm, gtx, gn, gs⟩))
  generalize w3.heap.size = Bg at *
  generalize (w3.alloc (boxF ⟨gnm, gtx, gn, gs⟩)) = W at *
  obtain ⟨t59, ht59⟩ : ∃ t : Bool, t = decide (ce = 0 ∧ cf = 0) := ⟨_, rfl⟩
  have HT59 := Lib.hid ht59
  clear ht59
  go_cut [59] (fun s W2 => s = Value.bool t59 ∧ W2 = W)
  case first =>
    by_cases h1 : ce = 0
    · subst h1
      by_cases h2 : cf = 0
      · subst h2
        go_wp2_with fail
        go_meet
        case rel => exact ⟨by rw [HT59.out]; rfl, rfl⟩
      · have e2 : (cf == 0) = false := by simpa using h2
        have e3 : Hid (decide ((0 : Int) = 0 ∧ cf = 0) = false) := Lib.hid (decide_eq_false (fun h => h2 h.2))
        clear h2
        go_wp2_with fail
        go_meet
        case rel => exact ⟨by rw [HT59.out, e3.out], rfl⟩
    · have e1 : (ce == 0) = false := by simpa using h1
      have e3 : Hid (decide (ce = 0 ∧ cf = 0) = false) := Lib.hid (decide_eq_false (fun h => h1 h.1))
      clear h1
      go_wp2_with fail
      go_meet
      case rel => exact ⟨by rw [HT59.out, e3.out], rfl⟩
  case rest =>
  obtain ⟨rfl, rfl⟩ := hcut
  generalize wc = W0 at *
  go_upto_if 59 with (fail)
  go_cut [] (fun W2 => Upd [] W0 W2)
  case first =>
    by_cases hok : ce = 0 ∧ cf = 0
    · have e59 : t59 = true := by rw [HT59.out]; exact decide_eq_true hok
      subst e59
      have hok1 : ra = .ok ⟨fnm, ftx, fn, fs⟩ := by
        rcases HCE.out with ⟨h, -⟩ | ⟨-, h⟩
        · exact h
        · exact absurd hok.1 h
      have hok2 : rb = .ok ⟨gnm, gtx, gn, gs⟩ := by
        rcases HCF.out with ⟨h, -⟩ | ⟨-, h⟩
        · exact h
        · exact absurd hok.2 h
      have HFO := Lib.hid (HOA.out _ hok1)
      have HGO := Lib.hid (HOB.out _ hok2)
      have HW1 : Hid (Upd [] W0 (W0.alloc (.cells #[.int .i64 6, .int .i64 8] 3)) ∧ (W0.alloc (.cells #[.int .i64 6, .int .i64 8] 3)).heap[W0.heap.size]? = some (.cells #[.int .i64 6, .int .i64 8] 3 (0, 0))) := Lib.hid ⟨(Upd.refl [] W0).alloc _, heap_top _ _⟩
      clear hok hok1 hok2 HCE HCF HOA HOB HO HO2 HNE
      go_wp2_with fail
      generalize hKb : W0.heap.size = Kb at *
      have HKB := Lib.hid hKb
      clear hKb
      go_loopg [19] 2 (fun n i wr => ∃ j : Nat, i = .int .i64 j ∧ j ≤ 2 ∧ n = 2 - j ∧ Hid (Upd [] W0 wr) ∧ Hid (wr.heap[Kb]? = some (.cells #[.int .i64 6, .int .i64 8] 3 (0, 0))))
      case atStart => exact ⟨0, rfl, by omega, rfl, Lib.hid HW1.out.1, Lib.hid HW1.out.2⟩
      case round =>
        obtain ⟨j, rfl, hj, rfl, HU, HK⟩ := hrel
        by_cases hjl : j < 2
        · have hlt : (j : Int) < 2 := by omega
          obtain ⟨kq, hkq, k0⟩ : ∃ kq : Int, (kq = 6 ∨ kq = 8) ∧ wr.cell? ⟨Kb, j, none⟩ = some (.int .i64 kq) := by
            have : j = 0 ∨ j = 1 := by omega
            rcases this with rfl | rfl
            · exact ⟨6, Or.inl rfl, cell_blk HK.out 0⟩
            · exact ⟨8, Or.inr rfl, cell_blk HK.out 1⟩
          have HKQ := Lib.hid hkq
          have hbf := (HU.out.block _ (lt_of_blk HF3.out) (by simp)).trans HF3.out
          have hbg := (HU.out.block _ (lt_of_blk HG3.out) (by simp)).trans HG3.out
          have f0 : wr.cell? ⟨Bf, 0, none⟩ = some (.string fnm) := cell_blk hbf 0
          have f1 : wr.cell? ⟨Bf, 1, none⟩ = some (.bool ftx) := cell_blk hbf 1
          have f2 : wr.cell? ⟨Bf, 2, none⟩ = some (.int .i64 fn) := cell_blk hbf 2
          have f3 : wr.cell? ⟨Bf, 3, none⟩ = some (.string fs) := cell_blk hbf 3
          have g0 : wr.cell? ⟨Bg, 0, none⟩ = some (.string gnm) := cell_blk hbg 0
          have g1 : wr.cell? ⟨Bg, 1, none⟩ = some (.bool gtx) := cell_blk hbg 1
          have g2 : wr.cell? ⟨Bg, 2, none⟩ = some (.int .i64 gn) := cell_blk hbg 2
          have g3 : wr.cell? ⟨Bg, 3, none⟩ = some (.string gs) := cell_blk hbg 3
          have hlf := lt_of_blk hbf
          have hlg := lt_of_blk hbg
          have hlk := lt_of_blk HK.out
          have HX := Lib.hid (fun W' (u : Upd [] wr W') => valP_ok ⟨fnm, ftx, fn, fs⟩ wr W' u)
          have HY := Lib.hid (fun W' (u : Upd [] wr W') => valP_ok ⟨gnm, gtx, gn, gs⟩ wr W' u)
          have hxf := valX_facts HFO.out
          have hyf := valX_facts HGO.out
          have hPX := hPV.out kq (by omega)
          have hPX1 := Lib.hid (fun v => hPX v ⟨fnm, ftx, fn, fs⟩ ⟨gnm, gtx, gn, gs⟩)
          have hPX2 := Lib.hid (fun v => (hPX v ⟨gnm, gtx, gn, gs⟩ ⟨fnm, ftx, fn, fs⟩).trans (two_comm kq hkq _ _))
          have hEI := errIn_two kq (vv ⟨fnm, ftx, fn, fs⟩) (vv ⟨gnm, gtx, gn, gs⟩)
          generalize twoV kq (vv ⟨fnm, ftx, fn, fs⟩) (vv ⟨gnm, gtx, gn, gs⟩) = tt at *
          obtain ⟨⟨tnm, ttx, tn, ts⟩, ct, hevt, -⟩ := evT_split tt hEI
          have HEVT := Lib.hid hevt
          have HXF := Lib.hid hxf
          have HYF := Lib.hid hyf
          clear hkq hbf hbg hPX hEI hevt hxf hyf
          have HX0 := Lib.hid (fun W W' (u : Upd [] W W') => valP_ok ⟨fnm, ftx, fn, fs⟩ W W' u)
          have HY0 := Lib.hid (fun W W' (u : Upd [] W W') => valP_ok ⟨gnm, gtx, gn, gs⟩ W W' u)
          generalize valX ⟨fnm, ftx, fn, fs⟩ = X at *
          generalize valX ⟨gnm, gtx, gn, gs⟩ = Y at *
          go_upto_region 9 with (fail)
          go_cut [20] (fun sl W2 => ∃ B sb, sl = Value.pointer (some ⟨B, 0, none⟩) ∧ W2.heap[B]? = some (boxX (pairX kq (slV sb 2) X Y)) ∧ W2.heap[sb]? = some (.cells (rowX X Y) 54 (0, 0)) ∧ Upd [] wr W2)
          case first =>
            rename_i a1 a0
            refine reg9_ok HX HY f0 f1 f2 f3 g0 g1 g2 g3 hlf hlg hlk hjl k0 (fun sl u67 u68 u69 u70 u71 u72 u73 u74 u75 u76 w' h => ?_)
            refine a0 _ _ (Met.intro (a1 _ _ ?_))
            (repeat apply Exists.intro)
            exact ⟨h, rfl⟩
          case rest =>
          obtain ⟨B, sb, rfl, hB, hsb, huc⟩ := hcut
          generalize wc = V at *
          have hB' := Lib.hid (And.intro hB hsb)
          have HV1 := Lib.hid huc
          have f0 := cell_keep huc f0
          have f1 := cell_keep huc f1
          have f2 := cell_keep huc f2
          have f3 := cell_keep huc f3
          have g0 := cell_keep huc g0
          have g1 := cell_keep huc g1
          have g2 := cell_keep huc g2
          have g3 := cell_keep huc g3
          have k0 := cell_keep huc k0
          have HX := Lib.hid (fun W' (u : Upd [] V W') => HX0.out V W' u)
          have HY := Lib.hid (fun W' (u : Upd [] V W') => HY0.out V W' u)
          have hBl := lt_of_blk hB
          have hlf := Nat.lt_of_lt_of_le hlf huc.size
          have hlg := Nat.lt_of_lt_of_le hlg huc.size
          try have hlk := Nat.lt_of_lt_of_le hlk huc.size
          clear hB hsb huc HX0 HY0
          go_upto_region 10 with (fail)
          go_cut [21] (fun sl W2 => ∃ B sb, sl = Value.pointer (some ⟨B, 0, none⟩) ∧ W2.heap[B]? = some (boxX (pairX kq (slV sb 2) Y X)) ∧ W2.heap[sb]? = some (.cells (rowX Y X) 54 (0, 0)) ∧ Upd [] V W2)
          case first =>
            rename_i a1 a0
            refine reg10_ok HY HX g0 g1 g2 g3 f0 f1 f2 f3 hlg hlf hlk hjl k0 (fun sl u77 u78 u79 u80 u81 u82 u83 u84 u85 u86 w' h => ?_)
            refine a0 _ _ (Met.intro (a1 _ _ ?_))
            (repeat apply Exists.intro)
            exact ⟨h, rfl⟩
          case rest =>
          obtain ⟨B2, sb2, rfl, hB2, hsb2, huc⟩ := hcut
          have HV2 : Hid (Upd [] wr wc) := Lib.hid (HV1.out.trans huc)
          have hBn := (huc.block _ (lt_of_blk hB'.out.1) (by simp)).trans hB'.out.1
          have hsn := (huc.block _ (lt_of_blk hB'.out.2) (by simp)).trans hB'.out.2
          have hU := HS3.out.upd.trans (HU.out.trans HV2.out)
          have HEp := Lib.hid (by
            have h := HV.out wc hU (pairX kq (slV sb 2) X Y) (pair_fit HXF.out.2 HYF.out.2 kq (by have := HKQ.out; unfold In64; omega) _) (pair_kids hsn HXF.out.1 HYF.out.1 kq)
            rewrite [hPX1.out, HEVT.out] at h
            exact h)
          have HEq := Lib.hid (fun W (u : Upd [] wc W) => by
            have h := HV.out W (hU.trans u) (pairX kq (slV sb2 2) Y X) (pair_fit HYF.out.2 HXF.out.2 kq (by have := HKQ.out; unfold In64; omega) _) ((pair_kids hsb2 HYF.out.1 HXF.out.1 kq).keep u)
            rewrite [hPX2.out, HEVT.out] at h
            exact h)
          have z0 := cell_blk hBn 0
          have z1 := cell_blk hBn 1
          have z2 := cell_blk hBn 2
          have z3 := cell_blk hBn 3
          have HB2 := Lib.hid hB2
          have HUU := Lib.hid hU
          clear hU hBn hsn hB2 hsb2 huc hB' f0 f1 f2 f3 g0 g1 g2 g3 k0 HX HY
          generalize wc = V2 at *
          go_wp2_with fail
          refine HEp.out.mono ?_
          rintro e w5 ⟨rfl, hu5⟩
          have hb5 := (hu5.block _ (lt_of_blk HB2.out) (by simp)).trans HB2.out
          have hl5 := lt_of_blk hb5
          have hn5 : ¬ B2 = w5.heap.size := by omega
          have z0 := cell_blk hb5 0
          have z1 := cell_blk hb5 1
          have z2 := cell_blk hb5 2
          have z3 := cell_blk hb5 3
          have H5 : Hid (Upd [] V2 (w5.alloc (boxF ⟨tnm, ttx, tn, ts⟩)) ∧ (w5.alloc (boxF ⟨tnm, ttx, tn, ts⟩)).heap[w5.heap.size]? = some (boxF ⟨tnm, ttx, tn, ts⟩)) := Lib.hid ⟨hu5.alloc _, heap_top _ _⟩
          clear hu5 hb5 HEp HB2
          go_wp2_with fail
          refine (HEq.out _ H5.out.1).mono ?_
          rintro e w6 ⟨rfl, hu6⟩
          have hb6 := (hu6.block _ (lt_of_blk H5.out.2) (by simp)).trans H5.out.2
          have H6 : Hid (Upd [] V2 (w6.alloc (boxF ⟨tnm, ttx, tn, ts⟩))) := Lib.hid ((H5.out.1.trans hu6).alloc _)
          generalize w5.heap.size = B5 at *
          have hl6 := lt_of_blk hb6
          have hn6 : ¬ B5 = w6.heap.size := by omega
          have z0 := cell_blk hb6 0
          have z1 := cell_blk hb6 1
          have z2 := cell_blk hb6 2
          have z3 := cell_blk hb6 3
          clear hu6 hb6 H5 HEq
          have hop : ∀ W, (binOp .neq 34 (aggF ⟨tnm, ttx, tn, ts⟩) (aggF ⟨tnm, ttx, tn, ts⟩)).run Tryd.prog W = .ok (.bool false) W := fun W => by
            rw [neq_field]
            simp
          have hcc : (ct != ct) = false := by simp
          have HKF : Hid ((w6.alloc (boxF ⟨tnm, ttx, tn, ts⟩)).heap[Kb]? = some (.cells #[.int .i64 6, .int .i64 8] 3 (0, 0))) := Lib.hid ((H6.out.block _ (lt_of_blk ((HV2.out.block _ (lt_of_blk HK.out) (by simp)).trans HK.out)) (by simp)).trans ((HV2.out.block _ (lt_of_blk HK.out) (by simp)).trans HK.out))
          have HUF : Hid (Upd [] W0 (w6.alloc (boxF ⟨tnm, ttx, tn, ts⟩))) := Lib.hid (HU.out.trans (HV2.out.trans H6.out))
          go_wp2_with fail
          go_roundg (2 - (j + 1))
          case measure => omega
          case rel => exact ⟨j + 1, by go_num, by omega, rfl, HUF, HKF⟩
        · have hlt : ¬ (j : Int) < 2 := by omega
          have hbf := (HU.out.block _ (lt_of_blk HF3.out) (by simp)).trans HF3.out
          have hbg := (HU.out.block _ (lt_of_blk HG3.out) (by simp)).trans HG3.out
          have f0 : wr.cell? ⟨Bf, 0, none⟩ = some (.string fnm) := cell_blk hbf 0
          have f1 : wr.cell? ⟨Bf, 1, none⟩ = some (.bool ftx) := cell_blk hbf 1
          have f2 : wr.cell? ⟨Bf, 2, none⟩ = some (.int .i64 fn) := cell_blk hbf 2
          have f3 : wr.cell? ⟨Bf, 3, none⟩ = some (.string fs) := cell_blk hbf 3
          have g0 : wr.cell? ⟨Bg, 0, none⟩ = some (.string gnm) := cell_blk hbg 0
          have g1 : wr.cell? ⟨Bg, 1, none⟩ = some (.bool gtx) := cell_blk hbg 1
          have g2 : wr.cell? ⟨Bg, 2, none⟩ = some (.int .i64 gn) := cell_blk hbg 2
          have g3 : wr.cell? ⟨Bg, 3, none⟩ = some (.string gs) := cell_blk hbg 3
          have hlf := lt_of_blk hbf
          have hlg := lt_of_blk hbg
          have HX := Lib.hid (fun W' (u : Upd [] wr W') => valP_ok ⟨fnm, ftx, fn, fs⟩ wr W' u)
          have HY := Lib.hid (fun W' (u : Upd [] wr W') => valP_ok ⟨gnm, gtx, gn, gs⟩ wr W' u)
          have hxf := valX_facts HFO.out
          have hyf := valX_facts HGO.out
          have hPX := hPV.out 7 (by omega)
          have hPX1 := Lib.hid (fun v => hPX v ⟨fnm, ftx, fn, fs⟩ ⟨gnm, gtx, gn, gs⟩)
          have hPX2 := Lib.hid (fun v => hPX v ⟨gnm, gtx, gn, gs⟩ ⟨fnm, ftx, fn, fs⟩)
          have hng := two_neg (vv ⟨fnm, ftx, fn, fs⟩) (vv ⟨gnm, gtx, gn, gs⟩)
          generalize twoV 7 (vv ⟨fnm, ftx, fn, fs⟩) (vv ⟨gnm, gtx, gn, gs⟩) = tt at *
          generalize twoV 7 (vv ⟨gnm, gtx, gn, gs⟩) (vv ⟨fnm, ftx, fn, fs⟩) = tu at *
          obtain ⟨tnm, ttx, ts, qnm, qtx, qn, qs, ct, hevt1, hevt2, hng2⟩ := neg_split hng
          have HEVT := Lib.hid hevt1
          have HEVU := Lib.hid hevt2
          have HNG := Lib.hid hng2
          have HXF := Lib.hid hxf
          have HYF := Lib.hid hyf
          clear hbf hbg hPX hng hevt1 hevt2 hng2 hxf hyf
          have HX0 := Lib.hid (fun W W' (u : Upd [] W W') => valP_ok ⟨fnm, ftx, fn, fs⟩ W W' u)
          have HY0 := Lib.hid (fun W W' (u : Upd [] W W') => valP_ok ⟨gnm, gtx, gn, gs⟩ W W' u)
          generalize valX ⟨fnm, ftx, fn, fs⟩ = X at *
          generalize valX ⟨gnm, gtx, gn, gs⟩ = Y at *
          go_upto_region 15 with (fail)
          go_cut [26] (fun sl W2 => ∃ B sb, sl = Value.pointer (some ⟨B, 0, none⟩) ∧ W2.heap[B]? = some (boxX (pairX 7 (slV sb 2) X Y)) ∧ W2.heap[sb]? = some (.cells (rowX X Y) 54 (0, 0)) ∧ Upd [] wr W2)
          case first =>
            rename_i a1 a0
            refine reg15_ok HX HY f0 f1 f2 f3 g0 g1 g2 g3 hlf hlg (fun sl u111 u112 u113 u114 u115 u116 w' h => ?_)
            refine a0 _ _ (Met.intro (a1 _ _ ?_))
            (repeat apply Exists.intro)
            exact ⟨h, rfl⟩
          case rest =>
          obtain ⟨B, sb, rfl, hB, hsb, huc⟩ := hcut
          generalize wc = V at *
          have hB' := Lib.hid (And.intro hB hsb)
          have HV1 := Lib.hid huc
          have f0 := cell_keep huc f0
          have f1 := cell_keep huc f1
          have f2 := cell_keep huc f2
          have f3 := cell_keep huc f3
          have g0 := cell_keep huc g0
          have g1 := cell_keep huc g1
          have g2 := cell_keep huc g2
          have g3 := cell_keep huc g3
          have HX := Lib.hid (fun W' (u : Upd [] V W') => HX0.out V W' u)
          have HY := Lib.hid (fun W' (u : Upd [] V W') => HY0.out V W' u)
          have hBl := lt_of_blk hB
          have hlf := Nat.lt_of_lt_of_le hlf huc.size
          have hlg := Nat.lt_of_lt_of_le hlg huc.size
          try have hlk := Nat.lt_of_lt_of_le hlk huc.size
          clear hB hsb huc HX0 HY0
          go_upto_region 16 with (fail)
          go_cut [27] (fun sl W2 => ∃ B sb, sl = Value.pointer (some ⟨B, 0, none⟩) ∧ W2.heap[B]? = some (boxX (pairX 7 (slV sb 2) Y X)) ∧ W2.heap[sb]? = some (.cells (rowX Y X) 54 (0, 0)) ∧ Upd [] V W2)
          case first =>
            rename_i a1 a0
            refine reg16_ok HY HX g0 g1 g2 g3 f0 f1 f2 f3 hlg hlf (fun sl u117 u118 u119 u120 u121 u122 w' h => ?_)
            refine a0 _ _ (Met.intro (a1 _ _ ?_))
            (repeat apply Exists.intro)
            exact ⟨h, rfl⟩
          case rest =>
          obtain ⟨B2, sb2, rfl, hB2, hsb2, huc⟩ := hcut
          have HV2 : Hid (Upd [] wr wc) := Lib.hid (HV1.out.trans huc)
          have hBn := (huc.block _ (lt_of_blk hB'.out.1) (by simp)).trans hB'.out.1
          have hsn := (huc.block _ (lt_of_blk hB'.out.2) (by simp)).trans hB'.out.2
          have hU := HS3.out.upd.trans (HU.out.trans HV2.out)
          have HEp := Lib.hid (by
            have h := HV.out wc hU (pairX 7 (slV sb 2) X Y) (pair_fit HXF.out.2 HYF.out.2 7 (by unfold In64; omega) _) (pair_kids hsn HXF.out.1 HYF.out.1 7)
            rewrite [hPX1.out, HEVT.out] at h
            exact h)
          have HEq := Lib.hid (fun W (u : Upd [] wc W) => by
            have h := HV.out W (hU.trans u) (pairX 7 (slV sb2 2) Y X) (pair_fit HYF.out.2 HXF.out.2 7 (by unfold In64; omega) _) ((pair_kids hsb2 HYF.out.1 HXF.out.1 7).keep u)
            rewrite [hPX2.out, HEVU.out] at h
            exact h)
          have z0 := cell_blk hBn 0
          have z1 := cell_blk hBn 1
          have z2 := cell_blk hBn 2
          have z3 := cell_blk hBn 3
          have HB2 := Lib.hid hB2
          have HUU := Lib.hid hU
          clear hU hBn hsn hB2 hsb2 huc hB' f0 f1 f2 f3 g0 g1 g2 g3 HX HY
          generalize wc = V2 at *
          go_wp2_with fail
          refine HEp.out.mono ?_
          rintro e w5 ⟨rfl, hu5⟩
          have hb5 := (hu5.block _ (lt_of_blk HB2.out) (by simp)).trans HB2.out
          have hl5 := lt_of_blk hb5
          have hn5 : ¬ B2 = w5.heap.size := by omega
          have z0 := cell_blk hb5 0
          have z1 := cell_blk hb5 1
          have z2 := cell_blk hb5 2
          have z3 := cell_blk hb5 3
          have H5 : Hid (Upd [] V2 (w5.alloc (boxF ⟨tnm, ttx, -qn, ts⟩)) ∧ (w5.alloc (boxF ⟨tnm, ttx, -qn, ts⟩)).heap[w5.heap.size]? = some (boxF ⟨tnm, ttx, -qn, ts⟩)) := Lib.hid ⟨hu5.alloc _, heap_top _ _⟩
          clear hu5 hb5 HEp HB2
          go_wp2_with fail
          refine (HEq.out _ H5.out.1).mono ?_
          rintro e w6 ⟨rfl, hu6⟩
          have hb6 := (hu6.block _ (lt_of_blk H5.out.2) (by simp)).trans H5.out.2
          have H6 : Hid (Upd [] V2 (w6.alloc (boxF ⟨qnm, qtx, qn, qs⟩))) := Lib.hid ((H5.out.1.trans hu6).alloc _)
          generalize w5.heap.size = B5 at *
          have hl6 := lt_of_blk hb6
          have hn6 : ¬ B5 = w6.heap.size := by omega
          have z0 := cell_blk hb6 0
          have z1 := cell_blk hb6 1
          have z2 := cell_blk hb6 2
          have z3 := cell_blk hb6 3
          clear hu6 hb6 H5 HEq
          have hcc : (ct != ct) = false := by simp
          have hnn : wrap64 (-qn) = -qn := by
            have := (withinB_iff qn).1
            rcases HNG.out with h | h
            · have := this h
              exact IntWalk.wrap64_in _ (by omega)
            · rw [h]; exact IntWalk.wrap64_in _ (by omega)
          have hn7 : (-qn != -qn) = false := by simp
          have HUF : Hid (Upd [] W0 (w6.alloc (boxF ⟨qnm, qtx, qn, qs⟩))) := Lib.hid (HU.out.trans (HV2.out.trans H6.out))
          go_wp2_with fail
          go_meet
          case rel => exact HUF.out
    · have e59 : t59 = false := by rw [HT59.out]; exact decide_eq_false hok
      subst e59
      clear hok
      go_wp2_with fail
      go_meet
      case rel => exact Upd.refl _ _
  case rest =>
    have HS4 := Lib.hid (HS3.out.next hcut)
    clear hcut HF3 HG3 HS3 HV hPV HCE HCF HOA HOB
    have q0 := cell_blk HS4.out.c 0
    have q1 := cell_blk HS4.out.c 1
    have q2 := cell_blk HS4.out.c 2
    have q3 := cell_blk HS4.out.c 3
    have q4 := cell_blk HS4.out.c 4
    have q5 := cell_blk HS4.out.c 5
    have q6 := cell_blk HS4.out.c 6
    have q7 := cell_blk HS4.out.c 7
    have q8 := cell_blk HS4.out.c 8
    have q9 := cell_blk HS4.out.c 9
    have hlc := lt_of_blk HS4.out.c
    have H5 : Hid (Upd [] w (wc.alloc (boxC ⟨kd, !nt, ⟨ckd, cn, cs, .slice ca ckids.list.length cc, ckids⟩, ⟨dkd, dn, ds, .slice da dkids.list.length dc, dkids⟩⟩)) ∧ (wc.alloc (boxC ⟨kd, !nt, ⟨ckd, cn, cs, .slice ca ckids.list.length cc, ckids⟩, ⟨dkd, dn, ds, .slice da dkids.list.length dc, dkids⟩⟩)).heap[wc.heap.size]? = some (boxC ⟨kd, !nt, ⟨ckd, cn, cs, .slice ca ckids.list.length cc, ckids⟩, ⟨dkd, dn, ds, .slice da dkids.list.length dc, dkids⟩⟩)) := Lib.hid ⟨HS4.out.upd.alloc _, heap_top _ _⟩
    have hnc : ¬ w.heap.size + 1 + 1 = wc.heap.size := by omega
    go_wp2_with fail
    refine (HO.out _ H5.out.1).mono ?_
    rintro e w6 ⟨rfl, hu6⟩
    have HU6 : Hid (Upd [] w w6) := Lib.hid (H5.out.1.trans hu6)
    have hbd := (hu6.block _ (lt_of_blk H5.out.2) (by simp)).trans H5.out.2
    generalize wc.heap.size = Bd at *
    have r0 := cell_blk hbd 0
    have r1 := cell_blk hbd 1
    have r2 := cell_blk hbd 2
    have r3 := cell_blk hbd 3
    have r4 := cell_blk hbd 4
    have r5 := cell_blk hbd 5
    have r6 := cell_blk hbd 6
    have r7 := cell_blk hbd 7
    have r8 := cell_blk hbd 8
    have r9 := cell_blk hbd 9
    clear hu6 hbd q0 q1 q2 q3 q4 q5 q6 q7 q8 q9 H5 HS4 HO hlc hnc
    rcases rh with eh | bh
    · dsimp only [hbT] at HO2 ⊢
      go_wp2_with fail
      refine (HO2.out _ HU6.out).mono ?_
      rintro e w7 ⟨rfl, hu7⟩
      have HU7 : Hid (Upd [] w w7) := Lib.hid (HU6.out.trans hu7)
      clear hu7 r0 r1 r2 r3 r4 r5 r6 r7 r8 r9
      by_cases he0 : eh = 0
      · exact (HNE.out eh rfl he0).elim
      · have e1 : (eh != 0) = true := by simpa using he0
        have e2 : (eh == eh) = true := by simp
        clear he0
        go_wp2_with fail
        go_ret
        exact ⟨rfl, HU7.out⟩
    · dsimp only [hbT] at HO2 ⊢
      go_wp2_with fail
      refine (HO2.out _ HU6.out).mono ?_
      rintro e w7 ⟨rfl, hu7⟩
      have HU7 : Hid (Upd [] w w7) := Lib.hid (HU6.out.trans hu7)
      have e1 : (bh != !bh) = true := by cases bh <;> rfl
      clear hu7 r0 r1 r2 r3 r4 r5 r6 r7 r8 r9
      go_wp2_with fail
      go_ret
      exact ⟨rfl, HU7.out⟩
end Go.Proofs.YtnokekoojmljaaaDoor
