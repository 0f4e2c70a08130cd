/- The rules' holds, and Holds. -/
import Derived.Test.YtnokekoojmljaaaDoorGHo
import Derived.Test.YtnokekoojmljaaaDoorGEw
namespace Go.Proofs.YtnokekoojmljaaaDoor
open Go.RowKit

set_option maxRecDepth 100000 in
set_option maxHeartbeats 2000000 in
theorem holds_bad (P : Pl) (vs vg : Value) (c : Cd) (hc : hasC c = false) (w : World) (hp : PlAt w P vs vg) (hka : KidsAt w c.a.av c.a.kids) (hkb : KidsAt w c.b.av c.b.kids) :
    Calls Tryd.prog 51 #[aggP P vs vg, aggC c] w fun e w' => e = endV .bool (holdsX P c) ∧ Upd [] w w' := by
  have hst := HoIn.start P vs vg c w
  have HR : Hid (holdsX P c = .error 132) := Lib.hid (by unfold holdsX; rw [hc]; rfl)
  generalize holdsX P c = R at *
  obtain ⟨aa, ac, haa⟩ := hka.isSlice
  obtain ⟨ba, bc, hba⟩ := hkb.isSlice
  obtain ⟨sa, sc, hvs, -, -⟩ := hp.1.isSlice
  obtain ⟨ga, gc, hvg, -, -⟩ := hp.2.isSlice
  clear hp hka hkb
  subst hvs hvg
  obtain ⟨st, state, given⟩ := P
  obtain ⟨kd, nt, ⟨akd, an, as_, aav, akids⟩, ⟨bkd, bn, bs, bav, bkids⟩⟩ := c
  unfold hasC at hc
  dsimp only at haa hba hst hc
  subst haa hba
  have HS := Lib.hid hst
  clear hst
  by_cases h4 : kd = 4
  · subst h4
    rw [if_pos rfl] at hc
    have HA := Lib.hid (fun W => asks_ok ⟨akd, an, as_, .slice aa akids.list.length ac, akids⟩ W)
    dsimp only at HA
    rw [hc] at HA
    clear hc
    go_enter Tryd.func51, Tryd.ntmps51
    go_wp2_with fail
    refine (HA.out _).mono ?_
    rintro e w1 ⟨rfl, hu1⟩
    have HU : Hid (Upd [] w w1) := Lib.hid (HS.out.upd.trans hu1)
    clear hu1
    go_wp2_with fail
    refine (need_no 132 _).mono ?_
    rintro e w5 ⟨rfl, hu5⟩
    go_wp2_with fail
    exact ⟨rfl, by rw [HR.out]; rfl, HU.out.trans hu5⟩
  · rw [if_neg h4] at hc
    have hk : ¬ (kd = 1 ∨ kd = 2 ∨ kd = 3) := by simpa using hc
    have h4' : (kd == 4) = false := by simpa using h4
    clear hc
    by_cases h1 : 1 ≤ kd
    · have h5 : ¬ kd < 4 := by omega
      clear hk h4
      go_enter Tryd.func51, Tryd.ntmps51
      go_wp2_with fail
      refine (need_no 132 _).mono ?_
      rintro e w5 ⟨rfl, hu5⟩
      go_wp2_with fail
      exact ⟨rfl, by rw [HR.out]; rfl, HS.out.upd.trans hu5⟩
    · clear hk h4
      go_enter Tryd.func51, Tryd.ntmps51
      go_wp2_with fail
      refine (need_no 132 _).mono ?_
      rintro e w5 ⟨rfl, hu5⟩
      go_wp2_with fail
      exact ⟨rfl, by rw [HR.out]; rfl, HS.out.upd.trans hu5⟩

set_option maxRecDepth 100000 in
set_option maxHeartbeats 2000000 in
theorem holds_has (P : Pl) (vs vg : Value) (c : Cd) (h4 : c.kd = 4) (hc : asksN c.a.kd = true) (w : World) (hp : PlAt w P vs vg) (hka : KidsAt w c.a.av c.a.kids) (hkb : KidsAt w c.b.av c.b.kids) :
    Calls Tryd.prog 51 #[aggP P vs vg, aggC c] w fun e w' => e = endV .bool (holdsX P c) ∧ Upd [] w w' := by
  have hst := HoIn.start P vs vg c w
  have HR : Hid (holdsX P c = .ok ((getF (if c.a.kd = 4 then P.given else P.state) c.a.s).isSome != c.nt)) := Lib.hid (by unfold holdsX hasC; rw [if_pos h4, hc, if_pos rfl, if_pos h4])
  have HG1 := Lib.hid (fun W (u : Upd [] w W) => get_ok vs P.state c.a.s W (hp.1.keep u))
  have HG2 := Lib.hid (fun W (u : Upd [] w W) => get_ok vg P.given c.a.s W (hp.2.keep u))
  generalize holdsX P c = R at *
  obtain ⟨aa, ac, haa⟩ := hka.isSlice
  obtain ⟨ba, bc, hba⟩ := hkb.isSlice
  obtain ⟨sa, sc, hvs, -, -⟩ := hp.1.isSlice
  obtain ⟨ga, gc, hvg, -, -⟩ := hp.2.isSlice
  clear hp hka hkb
  subst hvs hvg
  obtain ⟨st, state, given⟩ := P
  obtain ⟨kd, nt, ⟨akd, an, as_, aav, akids⟩, ⟨bkd, bn, bs, bav, bkids⟩⟩ := c
  dsimp only at haa hba hst hc h4 HR HG1 HG2
  subst haa hba h4
  have HS := Lib.hid hst
  have HA := Lib.hid (fun W => asks_ok ⟨akd, an, as_, .slice aa akids.list.length ac, akids⟩ W)
  dsimp only at HA
  rw [hc] at HA
  clear hc hst
  go_enter Tryd.func51, Tryd.ntmps51
  go_wp2_with fail
  refine (HA.out _).mono ?_
  rintro e w1 ⟨rfl, hu1⟩
  have HS1 := Lib.hid (HS.out.next hu1)
  clear hu1 HA HS
  go_wp2_with fail
  refine (need_yes 132 _).mono ?_
  rintro e w2 ⟨rfl, hu2⟩
  have hst2 := HS1.out.next hu2
  have p1 : w2.cell? ⟨w.heap.size, 1, none⟩ = some (.slice sa state.length sc) := cell_blk hst2.pl 1
  have p2 : w2.cell? ⟨w.heap.size, 2, none⟩ = some (.slice ga given.length gc) := cell_blk hst2.pl 2
  have c0 : w2.cell? ⟨w.heap.size + 1, 0, none⟩ = some (.int .i64 4) := cell_blk hst2.cd 0
  have c2 : w2.cell? ⟨w.heap.size + 1, 2, none⟩ = some (.int .i64 akd) := cell_blk hst2.cd 2
  have c4 : w2.cell? ⟨w.heap.size + 1, 4, none⟩ = some (.string as_) := cell_blk hst2.cd 4
  have HS2 := Lib.hid hst2
  clear hst2 hu2 HS1
  by_cases hg : akd = 4
  · subst hg
    rw [if_pos rfl] at HR
    generalize getF given as_ = r at *
    go_wp2_with fail
    refine (HG2.out _ HS2.out.upd).mono ?_
    rintro e w3 ⟨rfl, hu3⟩
    have hst3 := HS2.out.next hu3
    have c1 : w3.cell? ⟨w.heap.size + 1, 1, none⟩ = some (.bool nt) := cell_blk hst3.cd 1
    have hne : w.heap.size + 1 < w3.heap.size := lt_of_blk hst3.cd
    have hne2 : ¬ w.heap.size + 1 = w3.heap.size := by omega
    have HU : Hid (Upd [] w w3) := Lib.hid hst3.upd
    clear hst3 hu3 p1 p2 c0 c2 c4
    generalize r.getD noF = g at *
    obtain ⟨gnm, gtx, gn, gs⟩ := g
    generalize r.isSome = ok at *
    go_wp2_with fail
    go_ret
    exact ⟨by rw [HR.out]; rfl, HU.out.alloc _⟩
  · have hgb : (akd == 4) = false := by simpa using hg
    rw [if_neg hg] at HR
    generalize getF state as_ = r at *
    go_wp2_with fail
    refine (HG1.out _ HS2.out.upd).mono ?_
    rintro e w3 ⟨rfl, hu3⟩
    have hst3 := HS2.out.next hu3
    have c1 : w3.cell? ⟨w.heap.size + 1, 1, none⟩ = some (.bool nt) := cell_blk hst3.cd 1
    have hne : w.heap.size + 1 < w3.heap.size := lt_of_blk hst3.cd
    have hne2 : ¬ w.heap.size + 1 = w3.heap.size := by omega
    have HU : Hid (Upd [] w w3) := Lib.hid hst3.upd
    clear hst3 hu3 p1 p2 c0 c2 c4
    generalize r.getD noF = g at *
    obtain ⟨gnm, gtx, gn, gs⟩ := g
    generalize r.isSome = ok at *
    go_wp2_with fail
    go_ret
    exact ⟨by rw [HR.out]; rfl, HU.out.alloc _⟩

theorem holds_ok (P : Pl) (hP : FitP P) (vs vg : Value) (c : Cd) (hfa : fitX c.a) (hfb : fitX c.b) (w : World) (hT : Tab w) (hp : PlAt w P vs vg) (hka : KidsAt w c.a.av c.a.kids) (hkb : KidsAt w c.b.av c.b.kids) :
    Calls Tryd.prog 51 #[aggP P vs vg, aggC c] w fun e w' => e = endV .bool (holdsX P c) ∧ Upd [] w w' := by
  cases hc : hasC c with
  | false => exact holds_bad P vs vg c hc w hp hka hkb
  | true =>
    unfold hasC at hc
    by_cases h4 : c.kd = 4
    · rw [if_pos h4] at hc
      exact holds_has P vs vg c h4 hc w hp hka hkb
    · rw [if_neg h4] at hc
      exact holds_two P hP vs vg c (by simpa using hc) hfa hfb w hT hp hka hkb
end Go.Proofs.YtnokekoojmljaaaDoor
