/- Segment: frames in one go, or one by one: the walk of SegmentGroups. Segment: frames that were appended are there: the walk of SegmentKeeps. Segment: what the laid tables are; opening frames of an argument. SegmentKeeps returns true, whatever the arguments are, in whatever memory in which the listed tables read as they are laid, and leaves all that was there as it was. -/
import Derived.LaidMore
import Derived.Stop.Joined
import Derived.SevenTiedAt
import Derived.Test.YtgpefiacbipfpaaGreatDoorC35
import Derived.Test.YtgpefiacbipfpaaGreatDoorRows
import Derived.Test.YtgpefiacbipfpaaGreatDoorTie
import Derived.Test.YtgpefiacbipfpaaGreatDoorCards
import Derived.Test.YtgpefiacbipfpaaGreatDoorC27
namespace Go.Proofs.YtgpefiacbipfpaaGreatDoor
open Go.RowKit Go.Maps
theorem frs_len {L M : List FrR} (h : L.map FrR.fr = M.map FrR.fr) {k : Nat} (hm : ∀ x ∈ M, x.d.length ≤ k) : ∀ x ∈ L, x.d.length ≤ k := fun x hx => by
 have : x.fr ∈ M.map FrR.fr := by rw [← h]; exact List.mem_map.2 ⟨x, hx, rfl⟩
 obtain ⟨y, hy, e⟩ := List.mem_map.1 this
 have := hm y hy
 rw [show x.d = y.d from congrArg (·.2) e.symm]
 exact this
end Go.Proofs.YtgpefiacbipfpaaGreatDoor

namespace Go.Proofs.YtgpefiacbipfpaaGreatDoor
open Go.RowKit Go.Maps
structure KpS (w wr : World) (v p b lg : Nat) (wv : Value) (WL : List FrR) (bytes : Nat) : Prop where
 ex : ∃ (ds : List Bs) (c : Nat) (fv sv : Value) (L : List FrR) (G : List Nat), LogV w wr v p 264 ds c b lg fv sv L G ∧ L.map FrR.fr = WL.map FrR.fr ∧ Whole ds (L.map FrR.fr) ∧ Full ds ∧ (∀ d ∈ ds, d.length ≤ 8192) ∧ (ds.map List.length).sum ≤ bytes ∧ 20 * L.length ≤ bytes ∧ c ≤ 10 + bytes ∧ ∀ g, wv.ownBlock = some g → g ∈ G ∧ g ∉ lfoot lg fv sv L
 own : OwFr wr w.heap.size wv WL
 dat : ∀ x ∈ WL, Rd w x.dv x.d ∧ x.d.length ≤ 2000
theorem KpS.len {w wr : World} {v p b lg : Nat} {wv : Value} {WL : List FrR} {bytes : Nat} (h : KpS w wr v p b lg wv WL bytes) : 20 * WL.length ≤ bytes := by
 obtain ⟨ds, c, fv, sv, L, G, -, h1, -, -, -, -, h2, -⟩ := h.ex
 have := congrArg List.length h1
 rw [List.length_map, List.length_map] at this
 omega
theorem KpS.upd {w wr : World} {v p b lg : Nat} {wv : Value} {WL : List FrR} {bytes : Nat} (h : KpS w wr v p b lg wv WL bytes) : Upd [] w wr := by
 obtain ⟨ds, c, fv, sv, L, G, h1, -⟩ := h.ex
 exact h1.sg.upd
theorem KpS.keep {w wr w' : World} {v p b lg : Nat} {wv : Value} {WL : List FrR} {bytes : Nat} (h : KpS w wr v p b lg wv WL bytes) (u : Upd [] wr w') : KpS w w' v p b lg wv WL bytes := by
 obtain ⟨ds, c, fv, sv, L, G, h1, h2⟩ := h.ex
 exact ⟨⟨ds, c, fv, sv, L, G, h1.keep u, h2⟩, h.own.upd u (by simp), h.dat⟩
theorem KpS.grow {w wr w' : World} {v p b lg : Nat} {wv wv' : Value} {WL PA : List FrR} {bytes : Nat} {ds : List Bs} {c : Nat} {fv sv : Value} {L : List FrR} {G : List Nat} (h1 : LogV w wr v p 264 ds c b lg fv sv L G) (h2 : L.map FrR.fr = (WL ++ PA).map FrR.fr) (h3 : Whole ds (L.map FrR.fr)) (h4 : Full ds) (h5 : ∀ d ∈ ds, d.length ≤ 8192) (h6 : (ds.map List.length).sum ≤ bytes) (h7 : 20 * L.length ≤ bytes) (h8 : c ≤ 10 + bytes)
  (hw : OwFr wr w.heap.size wv WL) (hwG : ∀ g, wv.ownBlock = some g → g ∈ G ∧ g ∉ lfoot lg fv sv L) (hd : ∀ x ∈ WL ++ PA, Rd w x.dv x.d ∧ x.d.length ≤ 2000) (ho : OwFr w' w.heap.size wv' (WL ++ PA)) (hg : wr.grownBy w' wv.ownBlock) (hn : wv'.ownBlock = wv.ownBlock ∨ ∀ g, wv'.ownBlock = some g → wr.heap.size ≤ g) : KpS w w' v p b lg wv' (WL ++ PA) bytes := by
 have u := Upd.ofGrown hg
 have hwb : ∀ g, wv.ownBlock = some g → w.heap.size ≤ g := fun g hg => (hw.block g hg).1
 refine ⟨⟨ds, c, fv, sv, L, newB wr w' ++ G, ⟨h1.sg.freshF u fun i hi => ⟨(hwG i (by simpa using hi)).1, hwb i (by simpa using hi)⟩, h1.log.upd u fun i hi q => (hwG i (by simpa using q)).2 hi, fun i hi => List.mem_append_right _ (h1.foot i hi), h1.low⟩, h2, h3, h4, h5, h6, h7, h8, fun g hg => ?_⟩, ho, hd⟩
 rcases hn with e | e
 ·have := hwG g (by rw [← e]; exact hg)
  exact ⟨List.mem_append_right _ this.1, this.2⟩
 ·have h := e g hg
  exact ⟨List.mem_append_left _ (mem_newB.2 ⟨h, (ho.block g hg).2⟩), fun q => by have := (h1.log.lt g q).2; omega⟩
structure KpE (w wr : World) (v p b lg : Nat) (wv : Value) (WL : List FrR) : Prop where
 ex : ∃ (ds : List Bs) (c : Nat) (fv sv : Value) (L : List FrR) (G : List Nat), LogV w wr v p 264 ds c b lg fv sv L G ∧ WL.map FrR.fr <+: L.map FrR.fr ∧ Whole ds (L.map FrR.fr) ∧ (∀ d ∈ ds, d.length ≤ 8192) ∧ ds.length ≤ 50 ∧ L.length ≤ 4000 ∧ c ≤ 80000 ∧ (∀ x ∈ L, x.d.length ≤ 2000) ∧ ∀ g, wv.ownBlock = some g → g ∈ G
 own : OwFr wr w.heap.size wv WL
 dat : ∀ x ∈ WL, Rd w x.dv x.d ∧ x.d.length ≤ 2000
theorem KpS.fin {w wr : World} {v p b lg : Nat} {wv : Value} {WL : List FrR} {bytes : Nat} (h : KpS w wr v p b lg wv WL bytes) (hb : bytes ≤ 60000) : KpE w wr v p b lg wv WL := by
 obtain ⟨ds, c, fv, sv, L, G, h1, h2, h3, h4, h5, h6, h7, h8, h9⟩ := h.ex
 have := full_len h4
 exact ⟨⟨ds, c, fv, sv, L, G, h1, by rw [h2]; exact List.prefix_refl _, h3, h5, by omega, by omega, by omega, frs_len h2 fun x hx => (h.dat x hx).2, fun g hg => (h9 g hg).1⟩, h.own, h.dat⟩
theorem RdFs.head {w : World} {a : Option Addr} {n c : Nat} {L : List FrR} (h : RdFs w (.slice a n c) L) {m : Nat} (hm : m ≤ n) : RdFs w (.slice a m c) (L.take m) := by
 obtain ⟨a', c', hv, h1, h2, hcell⟩ := h.row.sl
 have hnl := h.row.nl
 simp only [Value.slice.injEq] at hv
 obtain ⟨rfl, rfl, rfl⟩ := hv
 have hl : (L.take m).length = m := by rw [List.length_take]; omega
 refine ⟨⟨⟨a, c, by rw [hl], by rw [hl]; omega, h2, fun i hi => ?_⟩, fun n c e => ?_⟩, fun x hx => h.dat x (List.mem_of_mem_take hx)⟩
 ·rw [hl] at hi
  obtain ⟨b, off, e, hc⟩ := hcell i (by omega)
  refine ⟨b, off, e, ?_⟩
  rw [List.getElem_take]
  exact hc
 ·injection e with e1 e2 e3
  subst e1 e3
  exact hnl _ _ rfl
def weighF (l : List FrR) : Nat := (l.map fun x => x.d.length + 20).sum
theorem weighF_next {l : List FrR} {j : Nat} {x : FrR} (h : l[j]? = some x) : weighF (l.take (j + 1)) = weighF (l.take j) + (x.d.length + 20) := by
 unfold weighF
 rw [List.take_add_one, h]; simp
theorem weighF_le {l : List FrR} (h : ∀ x ∈ l, x.d.length ≤ 2000) : weighF l ≤ 2020 * l.length ∧ 20 * l.length ≤ weighF l ∧ (encF (l.map FrR.fr)).length ≤ weighF l := by
 have he := encF_le (l := l.map FrR.fr) (fun x hx => by
  obtain ⟨y, hy, rfl⟩ := List.mem_map.1 hx
  exact h y hy)
 have e : (l.map FrR.fr).map (·.2.length) = l.map (·.d.length) := by rw [List.map_map]; rfl
 rw [e, List.length_map] at he
 have : weighF l = (l.map (·.d.length)).sum + 20 * l.length ∧ (l.map (·.d.length)).sum ≤ 2000 * l.length := by
  clear he e
  unfold weighF
  induction l with
  | nil => simp
  | cons x l ih =>
   have := ih fun y hy => h y (List.mem_cons_of_mem _ hy)
   have := h x (by simp)
   simp only [List.map_cons, List.sum_cons, List.length_cons]
   omega
 omega
theorem long_next {l : List FrR} {j : Nat} {x : FrR} (h : l[j]? = some x) {lb : Bool} (hl : lb = true ↔ ∃ y ∈ l.take j, 2000 < y.d.length) : (∃ y ∈ l.take (j + 1), 2000 < y.d.length) ↔ lb = true ∨ 2000 < x.d.length := by
 rw [List.take_add_one, h, hl]
 simp only [List.mem_append, Option.toList_some, List.mem_singleton]
 constructor
 ·rintro ⟨y, hy | rfl, h2⟩
  ·exact .inl ⟨y, hy, h2⟩
  ·exact .inr h2
 ·rintro (⟨y, hy, h2⟩ | h2)
  ·exact ⟨y, .inl hy, h2⟩
  ·exact ⟨x, .inr rfl, h2⟩
set_option maxRecDepth 100000 in
set_option maxHeartbeats 8000000 in
theorem keeps_walk (w : World) {aa : Option Addr} {n ac : Nat} {A : List FrR} (hA : RdFs w (.slice aa n ac) A) (hn : n = A.length) (hAd : ∀ x ∈ A, x.d.length ≤ 140737488351232) (hnl : n ≤ 140737488355328) (gr : Int) (hgr : In64 gr) {qa : Option Addr} {ql qc : Nat} {picks : List Int} (hp : RdZ w (.slice qa ql qc) picks) (hpk : ∀ x ∈ picks, -9223372036854775808 ≤ x ∧ x ≤ 9223372036854775807) (hpo : picks ≠ [] → ∀ b, (Value.slice qa ql qc).ownBlock = some b → b < w.heap.size) :
  Calls Tryz.prog 5 #[.slice aa n ac, .int .i64 gr, .slice qa ql qc] w fun e w' => e = .returned (.bool true) ∧ Upd [] w w' := by
 obtain ⟨a9, c9, hv9, hac, hac2, -⟩ := hA.row.slice
 simp only [Value.slice.injEq] at hv9
 obtain ⟨rfl, -, rfl⟩ := hv9
 rw [← hn] at hac
 have HA := Lib.hid hA
 have HN := Lib.hid (And.intro hn hAd)
 have HP := Lib.hid (And.intro hp (And.intro hpk hpo))
 have HAw := Lib.hid (sawake_ok w)
 have HPk := Lib.hid fun X : World => pick_ok gr 5 X hgr.1 hgr.2 (by omega) (by omega)
 clear hA hn hp hpk hpo hgr hAd
 go_enter Tryz.func5, Tryz.ntmps5
 go_wp2_with fail
 refine HAw.out.mono ?_
 rintro e w1 ⟨rfl, hu1⟩
 have HL1 := Lib.hid (seg_laid w hu1 300 (by omega) (by omega))
 clear hu1
 go_wp2_with fail
 refine HL1.out.mono ?_
 rintro e w2 ⟨p, v, rfl, hs1, hu2⟩
 have HO := Lib.hid (sopen_ok (k := 16) hs1 (by omega) (by omega) (by simp) (by simp) (by omega) (fun _ => by simp))
 clear hs1 hu2 HL1 HAw
 go_wp2_with fail
 refine HO.out.mono ?_
 rintro e w3 ⟨lg, fv, sv, L, G, rfl, hl3, hf3, -, hst3⟩
 obtain rfl : L = [] := by
  have := congrArg List.length hf3
  simpa [openD] using this
 have hk3 : KpS w w3 v p w2.heap.size lg (.slice none 0 0) [] 0 := ⟨⟨[], 2, fv, sv, [], G, hl3, rfl, rfl, full_nil, by simp, by simp, by simp, by omega, by simp [Value.ownBlock]⟩, OwnG.nil _ _, by simp⟩
 have HK3 := Lib.hid hk3
 clear hl3 hf3 hst3 hk3 HO
 go_wp2_with fail
 refine (HPk.out _).mono ?_
 rintro e w4 ⟨⟨r, rfl, hr0, hr5⟩, rfl⟩
 obtain ⟨g, hg⟩ : ∃ g : Nat, (g : Int) = 1 + r := ⟨(1 + r).toNat, by omega⟩
 have hg1 : 1 ≤ g := by omega
 have hg5 : g ≤ 5 := by omega
 go_upto_region 9 with (fail)
 rw [← hg]
 clear hg hr0 hr5
 go_upto_block 0 with (fail)
 go_cut [12, 13, 14, 15, 16, 17, 18] (fun s12 s13 s14 s15 s16 s17 s18 wx => ∃ (a : Option Addr) (m c : Nat) (WL : List FrR), s12 = .slice a m c ∧ Hid (KpE w wx v p w2.heap.size lg (.slice a m c) WL))
 case first =>
  go_wp2_with fail
  go_loopg [12, 13, 14, 15, 16, 17, 18] 60001 (fun gh s12 s13 s14 s15 s16 s17 s18 wr => ∃ (i bytes ab : Nat) (WL : List FrR), s14 = .int .i64 i ∧ s13 = .int .i64 bytes ∧ i ≤ n + 5 ∧ ab ≤ bytes ∧ ab ≤ 60000 ∧ gh = 60001 - bytes ∧ Hid (KpS w wr v p w2.heap.size lg s12 WL ab))
  case atStart => exact ⟨0, 0, 0, [], rfl, rfl, by omega, Nat.le_refl _, by omega, rfl, HK3⟩
  case round =>
   obtain ⟨i, bytes, ab, WL, rfl, rfl, hi5, hab, hab6, rfl, HS⟩ := hrel
   obtain ⟨pa, pc, pm, hpm, rfl⟩ := HS.out.own.sliceM
   have HPM := Lib.hid hpm
   clear hpm
   by_cases hgo : i < n ∧ bytes < 60000
   ·obtain ⟨hin, hb6⟩ := hgo
    have hin' : (i : Int) < (n : Int) := by omega
    have hb6' : (bytes : Int) < 60000 := by omega
    have hnl' : (n : Int) ≤ 140737488355328 := by omega
    have hg5' : (g : Int) ≤ 5 := by omega
    obtain ⟨x0, hx0⟩ : ∃ x, A[i]? = some x := ⟨_, List.getElem?_eq_getElem (by rw [← HN.out.1]; exact hin)⟩
    obtain ⟨b, off, rfl, -, -, -⟩ := HA.out.at hx0
    obtain ⟨hj, hhj⟩ : ∃ hj : Nat, hj = min n (i + g) := ⟨_, rfl⟩
    have hij : i < hj := by omega
    have hjn : hj ≤ n := by omega
    have hjg : hj ≤ i + g := by omega
    have hmin : min (n : Int) ((i : Int) + (g : Int)) = (hj : Int) := by omega
    have hw1 : IntKind.i64.wrap ((i : Int) + (g : Int)) = (i : Int) + (g : Int) := by rw [IntKind.wrap_i64]; omega
    have hjc : (hj : Int) ≤ (ac : Int) := by omega
    have hij' : (i : Int) ≤ (hj : Int) := by omega
    have hci : ¬ ac = i := by omega
    clear hx0 hhj
    go_upto_region 15 with (fail)
    obtain ⟨PA, hPA⟩ : ∃ PA, PA = (A.drop i).take (hj - i) := ⟨_, rfl⟩
    have hpr := HA.out.sub (i := i) (j := hj) (by omega) hjn
    rw [← hPA] at hpr
    have hpd : ∀ x ∈ PA, x.d.length ≤ 140737488351232 := fun x hx => by rw [hPA] at hx; exact HN.out.2 x (List.mem_of_mem_drop (List.mem_of_mem_take hx))
    have hpl : PA.length = hj - i := by rw [hPA, List.length_take, List.length_drop]; have := HN.out.1; omega
    obtain ⟨m, hm⟩ : ∃ m, m = hj - i := ⟨_, rfl⟩
    obtain ⟨cc, hcc⟩ : ∃ cc, cc = ac - i := ⟨_, rfl⟩
    obtain ⟨o2, ho2⟩ : ∃ o2, o2 = off + i * 2 := ⟨_, rfl⟩
    rw [← hm] at hpl hpr ⊢
    rw [← hcc] at hpr ⊢
    rw [← ho2] at hpr ⊢
    have hm1 : 1 ≤ m := by omega
    have hm5 : m ≤ 5 := by omega
    have HPA := Lib.hid (And.intro hpr (And.intro hpd hpl))
    clear hPA hpr hpd hpl hm hcc ho2 hmin hw1 hjc hij' hci hjg hjn hij
    obtain ⟨wv, hwv⟩ : ∃ x, x = wr := ⟨_, rfl⟩
    subst hwv
    go_wp2_with fail
    go_loopg [13, 16, 17] (m + 1) (fun gh s13 s16 s17 wq => wq = wv ∧ ∃ (j bs : Nat) (lb : Bool), s17 = .int .i64 j ∧ s13 = .int .i64 bs ∧ s16 = .bool lb ∧ j ≤ m ∧ bs ≤ 60000 + j * 140737488351252 ∧ gh = m + 1 - j ∧ Hid (bs = bytes + weighF (PA.take j) ∧ (lb = true ↔ ∃ x ∈ PA.take j, 2000 < x.d.length)))
    case atStart => exact ⟨rfl, 0, bytes, false, rfl, rfl, rfl, Nat.zero_le _, by omega, rfl, Lib.hid ⟨by simp [weighF], by simp⟩⟩
    case round =>
     obtain ⟨rfl, j, bs, lb, rfl, rfl, rfl, hjm, hbs, rfl, HB⟩ := hrel
     by_cases hjl : j < m
     ·have hjl' : (j : Int) < (m : Int) := by omega
      obtain ⟨x, hx⟩ : ∃ x, PA[j]? = some x := ⟨_, List.getElem?_eq_getElem (by rw [HPA.out.2.2]; exact hjl)⟩
      obtain ⟨b', off', e, d0, d1, hrd⟩ := HPA.out.1.at hx
      cases e
      have hxm := HPA.out.2.1 x (List.mem_of_getElem? hx)
      obtain ⟨xa, xc, hxd, -⟩ := hrd.slice
      obtain ⟨xm, hxl⟩ : ∃ xm, xm = x.d.length := ⟨_, rfl⟩
      rw [← hxl] at hxd hxm
      rw [hxd] at d1
      have p1 := held1 HS.out.upd d1
      have HX := Lib.hid (And.intro hx hxl)
      have hbs' : (bs : Int) ≤ 703687441816260 := by omega
      have hxm' : (xm : Int) ≤ 140737488351232 := by omega
      have HW : Hid (bs + xm + 20 = bytes + weighF (PA.take (j + 1))) := Lib.hid (by rw [weighF_next HX.out.1, HB.out.1, ← HX.out.2]; omega)
      have HL : Hid ((lb || decide (2000 < xm)) = true ↔ ∃ y ∈ PA.take (j + 1), 2000 < y.d.length) := Lib.hid (by rw [long_next HX.out.1 HB.out.2, Bool.or_eq_true, decide_eq_true_iff, ← HX.out.2])
      have hb2 : bs + xm + 20 ≤ 60000 + (j + 1) * 140737488351252 := by rw [Nat.add_mul, Nat.one_mul]; omega
      clear hx hrd hxd hxl d0 d1 hxm hbs
      by_cases hlong : 2000 < xm
      ·have hlong' : (2000 : Int) < (xm : Int) := by omega
       rw [decide_eq_true hlong, Bool.or_true] at HL
       cases lb
       ·go_wp2_with fail
        go_roundg (m + 1 - (j + 1))
        case measure => omega
        case rel => exact ⟨rfl, j + 1, bs + xm + 20, true, by go_num, by go_num, rfl, by omega, hb2, rfl, Lib.hid ⟨HW.out, by simpa using HL.out⟩⟩
       ·go_wp2_with fail
        go_roundg (m + 1 - (j + 1))
        case measure => omega
        case rel => exact ⟨rfl, j + 1, bs + xm + 20, true, by go_num, by go_num, rfl, by omega, hb2, rfl, Lib.hid ⟨HW.out, by simpa using HL.out⟩⟩
      ·have hlong' : ¬ (2000 : Int) < (xm : Int) := by omega
       rw [decide_eq_false hlong, Bool.or_false] at HL
       cases lb
       ·go_wp2_with fail
        go_roundg (m + 1 - (j + 1))
        case measure => omega
        case rel => exact ⟨rfl, j + 1, bs + xm + 20, false, by go_num, by go_num, rfl, by omega, hb2, rfl, Lib.hid ⟨HW.out, by simpa using HL.out⟩⟩
       ·go_wp2_with fail
        go_roundg (m + 1 - (j + 1))
        case measure => omega
        case rel => exact ⟨rfl, j + 1, bs + xm + 20, true, by go_num, by go_num, rfl, by omega, hb2, rfl, Lib.hid ⟨HW.out, by simpa using HL.out⟩⟩
     ·obtain rfl : j = m := by omega
      have hjl' : ¬ (j : Int) < (j : Int) := Int.lt_irrefl _
      have htk : PA.take j = PA := List.take_of_length_le (by rw [HPA.out.2.2]; exact Nat.le_refl _)
      rw [htk] at HB
      obtain ⟨ds, c, fv', sv', L', G', h1, h2, h3, h4, h5, h6, h7, h8, h9⟩ := HS.out.ex
      have hpr := HPA.out.1.keep HS.out.upd
      have hdl := full_len h4
      have hfew : (∀ x ∈ PA, x.d.length ≤ 2000) → (addsD ds (PA.map FrR.fr)).length ≤ 12 ∧ ((addsD ds (PA.map FrR.fr)).map List.length).sum ≤ ab + weighF PA ∧ weighF PA ≤ 10100 ∧ 20 * PA.length ≤ weighF PA := fun hs => by
       have hw := weighF_le hs
       have hs2 := addsD_sum (PA.map FrR.fr) ds
       have hfu := full_len (addsD_full (l := PA.map FrR.fr) (fun z hz => by
        obtain ⟨t, ht, rfl⟩ := List.mem_map.1 hz
        exact hs t ht) h4)
       have := HPA.out.2.2
       omega
      have hap := sappend_ok (K := (Value.slice pa pm pc).ownBlock.toList) (A := PA) h1 (Nat.le_of_lt (Nat.lt_of_le_of_lt (h1.log.lt lg (mem_lfoot.2 (.inl rfl))).1 (h1.log.lt lg (mem_lfoot.2 (.inl rfl))).2)) (by omega) hpr.row hpr.dat (by rw [HPA.out.2.2]; omega) (by omega) (by omega) h5 (fun hs => by have := hfew hs; omega) (fun k hk => h9 k (by simpa using hk))
      have HAP := Lib.hid hap
      have HE := Lib.hid (And.intro h1 (And.intro h2 (And.intro h3 (And.intro h4 (And.intro h5 (And.intro h6 (And.intro h7 (And.intro h8 h9))))))))
      have HF := Lib.hid hfew
      clear h1 h2 h3 h4 h5 h6 h7 h8 h9 hpr hdl hfew hap htk
      go_upto_region 21 with (fail)
      go_wp2_with fail
      refine HAP.out.mono ?_
      rintro e w5 (⟨hsm, rfl, fv2, sv2, L2, G2, hlv, hL2, hG2, hst, hnew⟩ | ⟨hlg, rfl, hu⟩)
      ·have hlb : lb = false := by
        cases lb with
        | false => rfl
        | true =>
         obtain ⟨x, hx, h2⟩ := HB.out.2.1 rfl
         have := hsm x hx
         omega
       subst hlb
       have hf := HF.out hsm
       have hfr2 : (L' ++ L2).map FrR.fr = (WL ++ PA).map FrR.fr := by rw [List.map_append, List.map_append, HE.out.2.1, hL2]
       have hsmF : ∀ z ∈ PA.map FrR.fr, z.2.length ≤ 2000 := fun z hz => by
        obtain ⟨t, ht, rfl⟩ := List.mem_map.1 hz
        exact hsm t ht
       have hwh : Whole (addsD ds (PA.map FrR.fr)) ((L' ++ L2).map FrR.fr) := by
        rw [List.map_append, hL2]
        exact whole_adds HE.out.2.2.1 hsmF
       have hfu := addsD_full hsmF HE.out.2.2.2.1
       have h8 := addsD_le hsmF HE.out.2.2.2.2.1
       have hll : (L' ++ L2).length = L'.length + PA.length := by
        have := congrArg List.length hL2
        rw [List.length_append]
        simpa using this
       have hdat : ∀ x ∈ WL ++ PA, Rd w x.dv x.d ∧ x.d.length ≤ 2000 := fun x hx => by
        rcases List.mem_append.1 hx with q | q
        ·exact HS.out.dat x q
        ·exact ⟨HPA.out.1.dat x q, hsm x q⟩
       have hown5 : OwFr w5 w.heap.size (.slice pa pm pc) WL := by
        obtain ⟨F, u, hF⟩ := hst
        exact HS.out.own.upd u fun k hk e => hF k (by simp [e]) hk
       have hgd : ∀ g, (Value.slice pa pm pc).ownBlock = some g → g ∈ G2 ∧ g ∉ lfoot lg fv2 sv2 (L' ++ L2) := fun g hg => by
        have h9 := HE.out.2.2.2.2.2.2.2.2 g hg
        refine ⟨hG2 g h9.1, fun q => ?_⟩
        rcases hnew g q with e | e
        ·exact h9.2 e
        ·have := (HS.out.own.block g hg).2; omega
       have hm' : PA.length = j := HPA.out.2.2
       have hbs2 := HB.out.1
       have h6 := HE.out.2.2.2.2.2.1
       have h7 := HE.out.2.2.2.2.2.2.1
       have h8c := HE.out.2.2.2.2.2.2.2.1
       by_cases hb2 : bs < 60000
       ·have hb2' : decide ((60000 : Int) ≤ (bs : Int)) = false := by rw [decide_eq_false_iff_not]; omega
        have HGr := Lib.hid fun (X : World) (wv' : Value) (ho : OwFr X w.heap.size wv' (WL ++ PA)) (hg : w5.grownBy X (Value.slice pa pm pc).ownBlock) (hn : wv'.ownBlock = (Value.slice pa pm pc).ownBlock ∨ ∀ g, wv'.ownBlock = some g → w5.heap.size ≤ g) =>
         KpS.grow (bytes := bs) hlv hfr2 hwh hfu h8 (by omega) (by omega) (by omega) hown5 hgd hdat ho hg hn
        have HPr := Lib.hid (HPA.out.1.keep hlv.sg.upd)
        have HOw := Lib.hid hown5
        have hgt : bytes < bs := by omega
        have hwl : WL.length ≤ 3000 := by have := HS.out.len; omega
        have hws : w.heap.size ≤ w5.heap.size := hlv.sg.upd.size
        have HWl := Lib.hid (And.intro hwl (And.intro hws hm'))
        clear hsm hlv hL2 hG2 hst hnew hf hfr2 hsmF hwh hfu h8 hll hdat hown5 hgd hm' hbs2 h6 h7 h8c hwl hws
        go_wp2_with (first
         | (at_builtin; refine wpList_append_G TFr rfl _ _ rfl (base := w.heap.size) (l := WL) (r := PA) (by rfl) HOw.out (by rw [HWl.out.2.2]; rfl) (SlAt.srcG TFr (fun _ _ _ h => h) HPr.out.row.sl) (oneFr (w := w5) HPr.out.dat) ?c1 ?c2 ?c3 ?_)
         | fail)
        case c1 => have := HWl.out; omega
        case c2 => have := HWl.out; omega
        case c3 => exact HWl.out.2.1
        intro v8 w6 ho8 hg8 hn8
        have H8 := Lib.hid (HGr.out _ _ ho8 hg8 hn8)
        obtain ⟨a8, c8, m8, hm8, rfl⟩ := ho8.sliceM
        clear ho8 hg8 hn8 hm8
        go_wp2_with fail
        go_roundg (60001 - bs)
        case measure => omega
        case rel => exact ⟨i + g, bs, bs, _, by go_num, rfl, by omega, Nat.le_refl _, by omega, rfl, H8⟩
       ·have hb2' : (60000 : Int) ≤ (bs : Int) := by omega
        have hE : KpE w w5 v p w2.heap.size lg (.slice pa pm pc) WL := ⟨⟨_, _, fv2, sv2, _, G2, hlv, by rw [hfr2, List.map_append]; exact List.prefix_append _ _, hwh, h8, by omega, by omega, by omega, frs_len hfr2 fun x hx => (hdat x hx).2, fun g hg => (hgd g hg).1⟩, hown5, HS.out.dat⟩
        have HEnd := Lib.hid hE
        clear hsm hlv hL2 hG2 hst hnew hf hfr2 hsmF hwh hfu h8 hll hdat hown5 hgd hm' hbs2 h6 h7 h8c hE
        go_wp2_with fail
        go_meet
        case rel => exact ⟨pa, pm, pc, WL, rfl, HEnd⟩
      ·have hlb : lb = true := HB.out.2.2 hlg
       subst hlb
       have hgt : bytes < bs := by
        have h1 := HB.out.1
        have h2 : 1 ≤ PA.length := by rw [HPA.out.2.2]; exact hm1
        have h3 : 20 ≤ weighF PA := by
         cases hP : PA with
         | nil => rw [hP] at h2; simp at h2
         | cons x l => unfold weighF; simp; omega
        omega
       have H8 := Lib.hid (HS.out.keep hu)
       clear hlg hu
       go_wp2_with fail
       go_roundg (60001 - bs)
       case measure => omega
       case rel => exact ⟨i + g, bs, ab, WL, by go_num, rfl, by omega, by omega, hab6, rfl, H8⟩
   ·have HEnd := Lib.hid (HS.out.fin hab6)
    rcases Nat.lt_or_ge i n with hin | hin
    ·have hin' : (i : Int) < (n : Int) := by omega
     have hb6 : decide ((bytes : Int) < 60000) = false := by rw [decide_eq_false_iff_not]; omega
     go_wp2_with fail
     go_meet
     case rel => exact ⟨pa, pm, pc, WL, rfl, HEnd⟩
    ·have hin' : ¬ (i : Int) < (n : Int) := by omega
     go_wp2_with fail
     go_meet
     case rel => exact ⟨pa, pm, pc, WL, rfl, HEnd⟩
 case rest =>
  obtain ⟨pa, pm, pc, WL, rfl, HE⟩ := hcut
  obtain ⟨wz, hwz⟩ : ∃ x, x = wc := ⟨_, rfl⟩
  subst hwz
  obtain ⟨ds, c, fv', sv', L', G', h1, h2, h3, h4, h5, h6, h7, h8, h9⟩ := HE.out.ex
  have hdv := h1.sg.dv (by omega)
  have HCr := Lib.hid (hdv.crash (by omega) (HP.out.1.keep TZ h1.sg.upd) HP.out.2.1 (fun q b hb => .inr (HP.out.2.2 q b hb)))
  have hL' := Lib.hid (And.intro h2 (And.intro h3 (And.intro h4 (And.intro h5 (And.intro h6 (And.intro h7 (And.intro h8 h9)))))))
  have hpm : pm = WL.length := (HE.out.own.at TFr).1
  have HPM := Lib.hid hpm
  clear h1 h2 h3 h4 h5 h6 h7 h8 h9 hdv hpm
  go_wp2_with fail
  refine HCr.out.mono ?_
  rintro e w5 ⟨rfl, hcr, hst5⟩
  have HO := Lib.hid (opened_ok (k := 16) w w5 hcr.dv (by have := hL'.out.2.2.2.2.2.1; omega) hL'.out.2.2.2.1 (fun d hd => by have := hL'.out.2.2.1 d hd; omega) (by omega) (fun e => by rw [hL'.out.2.1] at e; cases e))
  have HS5 := Lib.hid hst5
  clear hcr hst5 HCr
  go_wp2_with fail
  refine HO.out.mono ?_
  rintro e w6 ⟨lg3, b3, v3, fv3, sv3, L3, G3, rfl, hl3, hf3, hG3, hst6⟩
  rw [show openD ds = (ds, false, L'.map FrR.fr) from hL'.out.2.1] at hl3 hf3
  dsimp only at hl3 hf3
  have hz3 := frs_len (L := L3) (M := L') hf3 hL'.out.2.2.2.2.2.2.1
  have hn3 : L3.length = L'.length := by
   have := congrArg List.length hf3
   simpa using this
  have hlen3 : L3.length ≤ 4000 := by rw [hn3]; exact hL'.out.2.2.2.2.1
  have hown6 : OwFr w6 w.heap.size (.slice pa pm pc) WL := by
   obtain ⟨F, u, hF⟩ := HS5.out.trans hst6
   exact HE.out.own.upd u fun k hk e => hF k (hL'.out.2.2.2.2.2.2.2 k e) hk
  have hwr : RdFs w6 (.slice pa pm pc) WL := ⟨OwnG.rd TFr hown6, fun x hx => (HE.out.dat x hx).1.keep hl3.sg.upd⟩
  have HF3 := Lib.hid (frames_ok w6 5000 (by omega) hl3.log (by omega) (fun x hx => by have := hz3 x hx; omega))
  have HG3 := Lib.hid fun (X : World) (u : Upd [] w6 X) => segs_ok X (hl3.log.keep u) (by rw [List.length_map]; have := hL'.out.2.2.2.1; omega)
  have H6 := Lib.hid (And.intro hwr (And.intro hf3 (And.intro hlen3 (And.intro hl3.sg.upd hz3))))
  clear hl3 hf3 hG3 hst6 hz3 hn3 hlen3 hown6 hwr HO
  go_wp2_with fail
  refine HF3.out.mono ?_
  rintro e w7 ⟨v7, F7, rfl, hf7, he7, hu7⟩
  have he7' : F7.map FrR.fr = L'.map FrR.fr := by rw [he7, H6.out.2.1, List.take_of_length_le]; rw [← H6.out.2.1, List.length_map]; have := H6.out.2.2.1; omega
  obtain ⟨a7, c7, m7, hm7, rfl⟩ := hf7.s.own.sliceM
  have hle7 : pm ≤ m7 := by
   have h1 := hL'.out.1.length_le
   have h2 := congrArg List.length he7'
   rw [List.length_map, List.length_map] at h1 h2
   have := HPM.out
   omega
  have hrd7 := (hf7.s.rdfs.head (m := pm) (by omega))
  have hc7 : m7 ≤ c7 := (hf7.s.own.at TFr).2.1
  have heq : (F7.take pm).map FrR.fr = WL.map FrR.fr := by
   rw [List.map_take, he7', HPM.out]
   have := List.prefix_iff_eq_take.1 hL'.out.1
   rw [List.length_map] at this
   exact this.symm
  have HSF := Lib.hid fun (X : World) (u : Upd [] w7 X) => same_frames X (hrd7.keep u) (H6.out.1.keep (hu7.trans u)) (fun x hx => by have := frs_len heq (fun y hy => (HE.out.dat y hy).2) x hx; omega) (fun x hx => by have := (HE.out.dat x hx).2; omega)
  rw [heq, decide_eq_true rfl] at HSF
  have H7 := Lib.hid hu7
  clear hf7 he7 he7' hu7 hrd7 heq hm7
  go_wp2_with fail
  refine (HG3.out _ H7.out).mono ?_
  rintro e w8 ⟨v8, rfl, ho8, hu8⟩
  obtain ⟨a8, c8, m8, hm8, rfl⟩ := ho8.sliceM
  have hm50 : m8 ≤ 50 := by rw [hm8, List.length_map]; exact hL'.out.2.2.2.1
  have H8 := Lib.hid (And.intro ho8 (And.intro hu8 hm8))
  clear ho8 hu8 hm8
  go_wp2_with fail
  go_loopg [22] (m8 + 1) (fun gh s22 wq => wq = w8 ∧ ∃ j : Nat, s22 = .int .i64 j ∧ j ≤ m8 ∧ gh = m8 + 1 - j)
  case atStart => exact ⟨rfl, 0, rfl, Nat.zero_le _, rfl⟩
  case round =>
   obtain ⟨rfl, j, rfl, hj, rfl⟩ := hrel
   by_cases hjm : j < m8
   ·have hjm' : (j : Int) < (m8 : Int) := by omega
    obtain ⟨-, -, -, hat⟩ := H8.out.1.at TI
    obtain ⟨g8, rfl, -, -, hca⟩ := hat j (by rw [← H8.out.2.2]; exact hjm)
    obtain ⟨z, hz⟩ : ∃ z, z = (ds.map List.length)[j]'(by rw [← H8.out.2.2]; exact hjm) := ⟨_, rfl⟩
    have hz8 : z ≤ 8192 := by
     rw [hz, List.getElem_map]
     exact hL'.out.2.2.1 _ (List.getElem_mem _)
    have p0 := hca 0 _ rfl
    rw [← hz, Nat.mul_one, Nat.add_zero] at p0
    have hz8' : ¬ (8192 : Int) < (z : Int) := by omega
    clear hat hca hz
    go_wp2_with fail
    go_roundg (m8 + 1 - (j + 1))
    case measure => omega
    case rel => exact ⟨rfl, j + 1, by go_num, by omega, rfl⟩
   ·obtain rfl : j = m8 := by omega
    have hjm' : ¬ (j : Int) < (j : Int) := Int.lt_irrefl _
    have hle7' : ¬ (m7 : Int) < (pm : Int) := by omega
    have hpc7 : (pm : Int) ≤ (c7 : Int) := by omega
    go_wp2_with fail
    refine (HSF.out _ H8.out.2.1).mono ?_
    rintro e w9 ⟨rfl, hu9⟩
    have HU9 := Lib.hid (((H6.out.2.2.2.1.trans H7.out).trans H8.out.2.1).trans hu9)
    clear hu9
    go_wp2_with fail
    go_ret
    exact ⟨rfl, HU9.out⟩
end Go.Proofs.YtgpefiacbipfpaaGreatDoor

namespace Go.Proofs.YtgpefiacbipfpaaGreatDoor
open Go.ChangeShapes Go.WideShapes Go.ChangeAt Go.RowKit Go.Deep
theorem laidOut : laidOutB Tryz.prog = true := by kernel_rfl
theorem own : ownKnob Tryz.prog.godebug = none := by kernel_rfl
abbrev laid3 {H : Type} : List (String × DataW H) := [("math/bits.deBruijn32tab", Rows.laid_math_bits_deBruijn32tab), ("math/bits.deBruijn64tab", Rows.laid_math_bits_deBruijn64tab), ("internal/strconv.uint64pow10", Rows.laid_internal_strconv_uint64pow10)]
theorem door_met (os : Os) (args : Array Value) : laidMetH Tryz.prog laid3 ((World.doorLaid Tryz.prog 4000 os).forCall (fun _ _ => 0) ⟨#[], args, []⟩).memory :=
 laidMetH_of_parts3 (fuel := 8) (laidMet_of_run' 8 (by kernel_rfl) (by kernel_rfl)) (by kernel_rfl) (by kernel_rfl)
theorem cellsFr : Tryz.prog.cellsOf 25 = 2 := by kernel_rfl
theorem bytesFr : Tryz.prog.bytesOf 25 = 32 := by kernel_rfl
theorem len2 {α : Type} {l : List α} (h : l.length = 2) : ∃ a b, l = [a, b] := by
 match l, h with
 | [a, b], _ => exact ⟨a, b, rfl⟩
section
variable {H : Type} {enc : TypeId × Value → H} {w : World} {base : Nat} {spare : Nat → Bool} {held : Bool}
def FrOk (w : World) (x : FrR) : Prop := x.d.length ≤ 140737488351232 ∧ (x.d ≠ [] → ∀ g, x.dv.ownBlock = some g → g < w.heap.size) ∧ Rd w x.dv x.d
theorem open_fr {n : Nat} {cs : List Value} {y : DataW H × List MemPlace} (h : DataW.trod enc Tryz.prog w base spare held n 25 cs = some y) (hw : Wt 25 y.1) :
  ∃ x : FrR, cs = [.int .u8 x.k.toNat, x.dv] ∧ FrOk w x := by
 obtain ⟨ys, n', hn', rfl, hlen, hyl, hf⟩ := DataW.trod_struct Tryz.underlying25 h
 rw [cellsFr] at hlen
 obtain ⟨k0, k1, rfl⟩ := len2 hlen
 obtain ⟨y0, y1, rfl⟩ := len2 (show ys.length = 2 from hyl)
 have g0 : DataW.trod enc Tryz.prog w base spare held n' 5 (List.take (Tryz.prog.cellsOf 5) [k0, k1]) = some y0 := hf 0 _ rfl
 have g1 : DataW.trod enc Tryz.prog w base spare held n' 23 (List.take (Tryz.prog.cellsOf 23) [k1]) = some y1 := hf 1 _ rfl
 have w1 : Wt 23 y1.1 := wt_field Tryz.underlying25 hw (j := 1) rfl rfl
 rw [cells8] at g0
 rw [cellsBs] at g1
 obtain ⟨s, e0, -, z⟩ := DataW.trod_int Tryz.underlying5 g0
 have hz := wf8 z
 obtain ⟨dv, d, e1, hd, hd2, hd3⟩ := open_bs g1 w1
 simp at e0 e1
 subst e0 e1
 have e : ((UInt8.ofNat s.toNat).toNat : Int) = s := by
  rw [UInt8.toNat_ofNat']; omega
 exact ⟨⟨UInt8.ofNat s.toNat, k1, d⟩, by rw [e], hd2, hd3, hd⟩
theorem open_frs {n : Nat} {cs : List Value} {y : DataW H × List MemPlace} (h : DataW.trod enc Tryz.prog w base spare held n 22 cs = some y) (hw : Wt 22 y.1) :
  ∃ v l, cs = [v] ∧ RdFs w v l ∧ (∀ x ∈ l, FrOk w x) ∧ l.length ≤ 140737488355328 := by
 obtain ⟨v, l, e, z0, z1, z2, z3, z4⟩ := open_sl 2 (by omega) (CellsAt cFr) (FrOk w) Tryz.underlying22 cellsFr (fun n _ cs y hy hwy => by
  obtain ⟨x, e, hx⟩ := open_fr hy hwy
  refine ⟨x, fun b o hb j u hj => ?_, hx⟩
  subst e
  match j with
  | 0 => rw [← hj]; exact hb 0 (by simp)
  | 1 => rw [← hj]; exact hb 1 (by simp)
  | j + 2 => cases hj) h hw
 exact ⟨v, l, e, ⟨⟨z0, z3⟩, fun x hx => (z1 x hx).2.2⟩, z1, by rw [bytesFr] at z2; omega⟩
end
end Go.Proofs.YtgpefiacbipfpaaGreatDoor

namespace Go.Proofs.YtgpefiacbipfpaaGreatDoor
open Go.ChangeShapes Go.WideShapes Go.ChangeAt Go.RowKit
namespace segmentKeeps
set_option maxRecDepth 100000 in
theorem lifted (os : Os) (started : os.Started) (H : Type) (enc : TypeId × Value → H) :
  ReturnsInHanded {} Tryz.checked os 5 .any (fun w args => (Rows.segmentKeepsSpec.pre enc Tryz.prog Tryz.f5 [] false w args ∧ laidMetH Tryz.prog laid3 w) ∧ sizedMet enc Tryz.prog Tryz.f5 (OpenSpec.ofChange Rows.segmentKeepsSpec) false w args)
   (Rows.segmentKeepsSpec.post enc Tryz.prog Tryz.f5 false true false false) := by
 refine returnsInHanded_of_change_and (C := Tryz.checked) (X := fun w _ => laidMetH Tryz.prog laid3 w) (fun _ _ _ hh h => h.of_heap hh) own started (by kernel_rfl) Tryz.func5
  (ChangeSpec.witness_shaped (enc := enc) (C := Tryz.checked) (os := os) (X := fun w _ => laidMetH Tryz.prog laid3 w) false (World.doorLaid Tryz.prog 4000 os) #[.slice none 0 0, .int .i64 0, .slice none 0 0] 8 rfl (World.shaped_of_RefB (by kernel_rfl) (by kernel_rfl)) (by kernel_rfl) (by kernel_rfl) (by kernel_rfl) (door_met os _)) ?_
 intro W base args ds gs before hval0 hW _ hsz0 hL _
 have hval : ∀ (j : Nat) t v, Tryz.f5.params[j]? = some t → args[j]? = some v → Value.okWide Tryz.prog W .any base t v := hval0
 have hW' := hW
 obtain ⟨p, q, hA0, hV, rfl, hfz, hnd⟩ := hW
 have hA : DataW.TrodAll enc Tryz.prog W 0 (fun _ => true) true Tryz.f5.params.toList args.toList ds p := hA0
 obtain ⟨rfl, rfl⟩ := trodVars_none hV
 have hsz : (DataW.weightsEach Tryz.prog (Tryz.f5.params.toList ++ []) (ds ++ [])).all (· ≤ reachBytes) = true := hsz0
 rw [Tryz.params5] at hA hval hsz
 obtain ⟨v0, vs0, d0, ds0, p0, q0, hargs, rfl, rfl, h0, r0⟩ := trodAll_cons hA
 obtain ⟨v1, vs1, d1, ds1, p1, q1, rfl, rfl, rfl, h1, r1⟩ := trodAll_cons r0
 obtain ⟨v2, vs2, d2, ds2, p2, q2, rfl, rfl, rfl, h2, r2⟩ := trodAll_cons r1
 obtain ⟨rfl, rfl, rfl⟩ := trodAll_nil r2
 obtain rfl : args = #[v0, v1, v2] := by cases args; simp_all
 obtain ⟨fu0, hf0⟩ := h0
 have w0 : Wt 22 d0 := wt_arg hsz (j := 0) rfl rfl
 obtain ⟨fu1, hf1⟩ := h1
 have w1 : Wt 3 d1 := wt_arg hsz (j := 1) rfl rfl
 obtain ⟨fu2, hf2⟩ := h2
 have w2 : Wt 31 d2 := wt_arg hsz (j := 2) rfl rfl
 obtain ⟨sa0, sl0, sc0, rfl⟩ := okWide_slice Tryz.underlying22 (hval 0 22 v0 rfl rfl)
 obtain ⟨x0, Z, e0, hZ, hoZ, hlZ⟩ := open_frs (cs := [.slice sa0 sl0 sc0]) hf0 w0
 simp only [List.cons.injEq, and_true] at e0
 subst e0
 have hn0 : sl0 = Z.length := by
  obtain ⟨a, c, e, -⟩ := hZ.row.slice
  simp only [Value.slice.injEq] at e
  exact e.2.1
 obtain ⟨gr, rfl, z1⟩ := arg_int (hval 1 3 v1 rfl rfl) ⟨fu1, hf1⟩
 obtain ⟨x2, pk, e2, hpk, -, hkpk, hopk⟩ := open_zs hf2 w2
 obtain rfl := arg_sl Tryz.underlying31 (hval 2 31 v2 rfl rfl) rfl e2
 obtain ⟨sa2, sl2, sc2, rfl⟩ := okWide_slice Tryz.underlying31 (hval 2 31 x2 rfl rfl)
 refine (keeps_walk W hZ hn0 (fun x hx => (hoZ x hx).1) (by omega) gr z1 hpk hkpk hopk).mono fun e W' ⟨he, hu⟩ => ?_
 subst he
 exact ⟨_, rfl, post_true (B := 4) rfl laidOut (by rw [Tryz.params5]; decide +kernel) rfl Tryz.underlying4 hW' hu rfl⟩
theorem row : Rows.segmentKeepsRow.holds Tryz.pinned (OpenSpec.ofChange Rows.segmentKeepsSpec) :=
 OpenClaim.holds_of_wide 5 Tryz.f5 rfl rfl rfl rfl rfl rfl rfl ⟨rfl, rfl, rfl, rfl, rfl⟩ rfl rfl rfl rfl rfl (by kernel_rfl) Tryz.func5 (by kernel_rfl)
  (of_decide_eq_true (by kernel_rfl)) (by unfold Func.isWrapper; first | (rw [if_pos (by decide +kernel)]; kernel_rfl) | (rw [if_neg (by decide +kernel)]; exact ⟨rfl, rfl⟩))
  (fun os started H enc _ => lifted os started H enc)
theorem proved : Rows.SegmentKeepsCardSaid :=
 Claim7.holds_tied_plain_at .later [] [.data, .data, .data] true (true, "2da7ad387085d697f5f199b83c98b63b7c4ce4fbac82fa85d0e8f525b94c14d9") false
  row (fun _ h => by cases h) (by kernel_rfl) (fun _ h => by cases h) segmentKeeps_row_tie rfl ⟨rfl, rfl⟩ (by kernel_rfl) rfl
  (fun f fn hf hfn => by
   obtain rfl : f = 5 := Option.some.inj ((show Tryz.prog.funcNamed "cartulary/cartularylaw09.SegmentKeeps" = some 5 by kernel_rfl).symm.trans hf) |>.symm
   obtain rfl : fn = Tryz.f5 := (Option.some.inj (Tryz.func5.symm.trans hfn)).symm
   exact ⟨by kernel_rfl, fun j t ht => by
    rw [Tryz.params5] at ht
    have hm : t ∈ [22, 3, 31] := by simpa using Array.mem_of_getElem? ht
    have hall : ([22, 3, 31].all fun u => !Tryz.prog.wantsStandIn u) = true := by kernel_rfl
    exact (show Tryz.prog.wantsStandIn t = false by simpa using List.all_eq_true.1 hall t hm)⟩)
  (by kernel_rfl)
#print axioms proved
end segmentKeeps
end Go.Proofs.YtgpefiacbipfpaaGreatDoor
