/- The document: SameEvents, of two lists that are the same. -/
import Derived.Test.YtnokekoojmljaaaGreatDoorGVt
import Derived.Test.YtnokekoojmljaaaGreatDoorGIt
namespace Go.Proofs.YtnokekoojmljaaaGreatDoor
open Go.RowKit

def keyE (e : Evn) : ByteArray × Int × List Fd := (e.ty, e.ver, e.fs)

set_option maxRecDepth 100000 in
set_option maxHeartbeats 2000000 in
theorem sameEvs_ok (va vb : Value) (a b : List Evn) (w : World) (ha : EvsAt w va a) (hb : EvsAt w vb b) (hk : a.map keyE = b.map keyE) :
    Calls Tryz.prog 7 #[va, vb] w fun e w' => e = .returned (.bool true) ∧ Upd [] w w' := by
  have hl : a.length = b.length := by simpa using congrArg List.length hk
  have hat : ∀ j (h1 : j < a.length) (h2 : j < b.length), a[j].ty = b[j].ty ∧ a[j].ver = b[j].ver ∧ a[j].fs = b[j].fs := fun j h1 h2 => by
    have := congrArg (fun l => l[j]?) hk
    simp only [List.getElem?_map, List.getElem?_eq_getElem h1, List.getElem?_eq_getElem h2, Option.map_some, Option.some.injEq, keyE, Prod.mk.injEq] at this
    exact this
  have HAT := Lib.hid hat
  obtain ⟨aa, acap, rfl, a1, a2, a3⟩ := ha
  obtain ⟨ba, bcap, rfl, b1, b2, b3⟩ := hb
  have HA := Lib.hid a3
  have HB := Lib.hid b3
  have HL := Lib.hid hl
  rw [← hl] at b1
  rw [← hl]
  unfold maxLen at a2 b2
  clear hat hk a3 b3 hl
  have hnn : ((a.length : Int) != (a.length : Int)) = false := by simp
  go_enter Tryz.func7, Tryz.ntmps7
  go_wp2_with fail
  go_loopg [5, 6] a.length (fun n i _ wr => ∃ j : Nat, i = .int .i64 j ∧ j ≤ a.length ∧ n = a.length - j ∧ Hid (Upd [] w wr))
  case atStart => exact ⟨0, rfl, by omega, rfl, Lib.hid (Upd.refl _ _)⟩
  case round =>
    obtain ⟨j, rfl, hj, rfl, HU⟩ := hrel
    by_cases hjl : j < a.length
    · have hlt : (j : Int) < (a.length : Int) := by omega
      have hjb : j < b.length := by rw [← HL.out]; exact hjl
      obtain ⟨ab, ao, rfl, ax⟩ := HA.out j hjl
      obtain ⟨bb, bo, rfl, bx⟩ := HB.out j hjb
      obtain ⟨e1, e2, e3⟩ := HAT.out j hjl hjb
      have hax := EvAt.keep HU.out ax
      have hbx := EvAt.keep HU.out bx
      have HX := Lib.hid (fun W (u : Upd [] wr W) => And.intro (EvAt.keep u hax) (EvAt.keep u hbx))
      clear ax bx
      obtain ⟨⟨c0, c1, c2⟩, hra⟩ := hax
      obtain ⟨⟨d0, d1, d2⟩, hrb⟩ := hbx
      have HS := Lib.hid (fun W (u : Upd [] wr W) => same_ok a[j].fv b[j].fv a[j].fs b[j].fs W (hra.keep u) (hrb.keep u))
      generalize a[j] = x at *
      generalize b[j] = y at *
      obtain ⟨xty, xver, xfv, xfs⟩ := x
      obtain ⟨yty, yver, yfv, yfs⟩ := y
      dsimp only at e1 e2 e3 c0 c1 c2 d0 d1 d2 HS hra hrb
      subst e1 e2 e3
      obtain ⟨xa, xc, hxa, -, -⟩ := hra.isSlice
      obtain ⟨ya, yc, hya, -, -⟩ := hrb.isSlice
      subst hxa hya
      clear hra hrb
      go_upto_region 6 with (fail)
      go_region_held3 (fun w' => (w'.cell? ⟨ab, ao + j * 3, none⟩ = some (.string xty) ∧ w'.cell? ⟨ab, ao + j * 3 + 1, none⟩ = some (.int .i64 xver) ∧ w'.cell? ⟨ab, ao + j * 3 + 2, none⟩ = some (.slice xa xfs.length xc)) ∧ (w'.cell? ⟨bb, bo + j * 3, none⟩ = some (.string xty) ∧ w'.cell? ⟨bb, bo + j * 3 + 1, none⟩ = some (.int .i64 xver) ∧ w'.cell? ⟨bb, bo + j * 3 + 2, none⟩ = some (.slice ya xfs.length yc)))
        (first | go_keep | (refine (fun h => ⟨h.1.1, h.2.1⟩) (HX.out _ ?_); exact ⟨hu9.os, hu9.output, hu9.size, hu9.block⟩))
        (first
          | (go_at_call 8; refine (HS.out _ (by exact ⟨rfl, rfl, Nat.le_refl _, fun _ _ _ => rfl⟩)).mono ?_; rintro e w9 ⟨r, rfl, hr, hu9⟩))
      obtain rfl : r = true := hr.2 (by trivial)
      have HU9 : Hid (Upd [] w w9) := Lib.hid (HU.out.trans ⟨hu9.os, hu9.output, hu9.size, hu9.block⟩)
      obtain ⟨⟨⟨c0, c1, c2⟩, -⟩, ⟨⟨d0, d1, d2⟩, -⟩⟩ := HX.out w9 ⟨hu9.os, hu9.output, hu9.size, hu9.block⟩
      have hst : (xty.toList == xty.toList) = true := by simp
      have hvv : (xver != xver) = false := by simp
      clear hr hu9 HX HS HU
      dsimp only at c0 c1 c2 d0 d1 d2
      go_upto_region 7 with (fail)
      go_quiet (fail)
      go_wp2_with fail
      go_roundg (a.length - (j + 1))
      case measure => omega
      case rel => exact ⟨j + 1, by go_num, by omega, rfl, Lib.hid (HU9.out.alike ⟨rfl, rfl, rfl⟩)⟩
    · have hlt : ¬ (j : Int) < (a.length : Int) := by omega
      go_wp2_with fail
      go_ret
      exact ⟨rfl, HU.out⟩
end Go.Proofs.YtnokekoojmljaaaGreatDoor
