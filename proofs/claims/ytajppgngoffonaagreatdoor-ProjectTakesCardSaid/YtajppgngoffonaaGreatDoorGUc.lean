/- The changes: what each does to a record. The changes show and scale. A change, done. -/
import Derived.Lib.LaidTab
import Derived.Lib.ItoaNum
import Derived.Test.YtajppgngoffonaaGreatDoorGUm
import Derived.Test.YtajppgngoffonaaGreatDoorGIt
namespace Go.Proofs.YtajppgngoffonaaGreatDoor.U
open Go.RowKit

/-- The table that strconv reads. -/
def Tab (w : World) : Prop := Lib.TabIs Tryz.prog w "internal/strconv.uint64pow10" .u64 Lib.pow10Tab

theorem Tab.upd {w w' : World} (h : Tab w) (u : Upd [] w w') : Tab w' := by
  unfold Tab Lib.TabIs World.var? at *
  cases hg : Tryz.prog.globalNamed "internal/strconv.uint64pow10" with
  | none => simp [hg] at h
  | some g =>
    simp only [hg, Option.bind_some] at h ⊢
    cases hb : w.heap[g]? with
    | none => simp [hb] at h
    | some o => rw [u.block g (lt_of_blk hb) (by simp)]; rw [hb] at h ⊢; exact h

def itoaB (n : Int) : ByteArray := ⟨(Lib.itoa n).toArray⟩

def withinB (n : Int) : Bool := decide (-1000000000000000 ≤ n ∧ n ≤ 1000000000000000)

set_option maxRecDepth 100000 in
theorem within_ok (n : Int) (w : World) : Calls Tryz.prog 109 #[.int .i64 n] w fun e w' => e = .returned (.bool (withinB n)) ∧ w' = w := by
  unfold withinB
  by_cases h1 : -1000000000000000 ≤ n <;> by_cases h2 : n ≤ 1000000000000000
  all_goals
    simp only [h1, h2, and_self, and_true, and_false, decide_true, decide_false]
    go_enter Tryz.func109, Tryz.ntmps109
    go_wp2_with fail
    go_ret
    exact ⟨rfl, rfl⟩

def boxC (c : Ch) : Obj := .cells #[.int .i64 c.kd, .string c.nm, .string c.to, .string c.f.nm, .bool c.f.tx, .int .i64 c.f.n, .string c.f.s] 66

/-- What a change hands back: a record; it is the one that came, or a new one. -/
def RP (l' : List Fd) (v : Value) (w : World) (e : Ending) (w' : World) : Prop := ∃ v', e = .returned v' ∧ RecAt w' v' l' ∧ (v' = v ∨ Own w' w.heap.size v' l') ∧ Upd [] w w'

theorem RP.of_own {l' : List Fd} {v v' : Value} {w w0 w' : World} (u : Upd [] w w0) (ho : Own w' w0.heap.size v' l') (hu : Upd [] w0 w') : RP l' v w (.returned v') w' :=
  ⟨v', rfl, ho.recAt, Or.inr (own_mono ho u.size), u.trans hu⟩

theorem RP.same {l' : List Fd} {v : Value} {w w' : World} (h : RecAt w v l') (u : Upd [] w w') : RP l' v w (.returned v) w' := ⟨v, rfl, h.keep u, Or.inl rfl, u⟩

set_option maxRecDepth 100000 in
theorem ch1_ok (v : Value) (l : List Fd) (c : Ch) (f : Fd) (w : World) (h : RecAt w v l) (hl : l.length * 48 ≤ 140737488355328) : Calls Tryz.prog 104 #[v, aggC c, aggF f] w (RP (dropF l f.nm) v w) := by
  have u0 : Upd [] w ((w.alloc (boxC c)).alloc (boxF f)) := ((Upd.refl [] w).alloc _).alloc _
  have HC := Lib.hid (drop_ok v l f.nm _ (h.keep u0) hl)
  have HU := Lib.hid u0
  clear u0
  obtain ⟨a, cap, rfl, -, -⟩ := h.isSlice
  clear h
  go_enter Tryz.func104, Tryz.ntmps104
  go_wp2_with fail
  refine HC.out.mono ?_
  rintro e w1 ⟨v1, rfl, ho, hu⟩
  have HF : Hid (RP (dropF l f.nm) (.slice a l.length cap) w (.returned v1) w1) := Lib.hid (RP.of_own HU.out ho hu)
  clear ho hu
  go_wp2_with fail
  go_ret
  exact HF.out

def renF (l : List Fd) (f : Fd) (to : ByteArray) : List Fd := if (getF l to).isSome then l else setF (dropF l f.nm) { f with nm := to }

theorem dropF_length (l : List Fd) (k : ByteArray) : (dropF l k).length ≤ l.length := by
  unfold dropF
  rw [List.length_eraseP]
  split <;> omega

set_option maxRecDepth 100000 in
set_option maxHeartbeats 1000000 in
theorem ch2_ok (v : Value) (l : List Fd) (c : Ch) (f : Fd) (w : World) (h : RecAt w v l) (hl : (l.length + 1) * 48 ≤ 140737488355328) :
    Calls Tryz.prog 106 #[v, aggC c, aggF f] w (RP (renF l f c.to) v w) := by
  have HR := Lib.hid (fun (W : World) (u : Upd [] w W) => h.keep u)
  have HRP := Lib.hid h
  obtain ⟨a, cap, rfl, -, -⟩ := h.isSlice
  clear h
  have u0 : Upd [] w ((w.alloc (boxC c)).alloc (boxF f)) := ((Upd.refl [] w).alloc _).alloc _
  have bc0 : ((w.alloc (boxC c)).alloc (boxF f)).heap[w.heap.size]? = some (boxC c) := by rw [heap_alloc, if_neg (by simp), heap_alloc, if_pos rfl]
  have bf0 : ((w.alloc (boxC c)).alloc (boxF f)).heap[w.heap.size + 1]? = some (boxF f) := by rw [heap_alloc, if_pos (by simp)]
  have HG := Lib.hid (get_ok _ l c.to _ (HR.out _ u0))
  have H0 := Lib.hid (And.intro u0 (And.intro bc0 bf0))
  clear u0 bc0 bf0
  obtain ⟨nm, tx, n, s⟩ := f
  go_enter Tryz.func106, Tryz.ntmps106
  go_wp2_with fail
  refine HG.out.mono ?_
  rintro e w1 ⟨rfl, hu1⟩
  have bc := (hu1.block w.heap.size (lt_of_blk H0.out.2.1) (by simp)).trans H0.out.2.1
  have bf := (hu1.block (w.heap.size + 1) (lt_of_blk H0.out.2.2) (by simp)).trans H0.out.2.2
  have HU1 : Hid (Upd [] w w1) := Lib.hid (H0.out.1.trans hu1)
  have f0 : w1.cell? ⟨w.heap.size + 1, 0, none⟩ = some (.string nm) := cell_blk bf 0
  have hlt := lt_of_blk bf
  have HBC := Lib.hid bc
  have HBF := Lib.hid bf
  clear hu1 H0 HG bc bf
  cases hg : getF l c.to with
  | some x =>
    have HF : Hid (renF l ⟨nm, tx, n, s⟩ c.to = l) := Lib.hid (by unfold renF; rw [hg]; rfl)
    clear hg
    obtain ⟨xn, xt, xi, xs⟩ := x
    go_wp2_with fail
    go_ret
    rw [HF.out]
    exact RP.same HRP.out (HU1.out.alloc _)
  | none =>
    have HF : Hid (renF l ⟨nm, tx, n, s⟩ c.to = setF (dropF l nm) ⟨c.to, tx, n, s⟩) := Lib.hid (by unfold renF; rw [hg]; rfl)
    clear hg
    go_wp2_with fail
    have u2 : Upd [] w (w1.alloc (boxF noF)) := HU1.out.alloc _
    have hD := drop_ok _ l nm _ (HR.out _ u2) (by omega)
    refine hD.mono ?_
    rintro e w2 ⟨v2, rfl, ho2, hu2⟩
    replace ho2 : Own w2 (w1.alloc (boxF noF)).heap.size v2 (dropF l nm) := ho2
    have bc2 := (hu2.block w.heap.size (by simp; omega) (by simp)).trans ((show (w1.alloc (boxF noF)).heap[w.heap.size]? = some (boxC c) by rw [heap_alloc, if_neg (by omega)]; exact HBC.out))
    have bf2 := (hu2.block (w.heap.size + 1) (by simp; omega) (by simp)).trans ((show (w1.alloc (boxF noF)).heap[w.heap.size + 1]? = some (boxF ⟨nm, tx, n, s⟩) by rw [heap_alloc, if_neg (by omega)]; exact HBF.out))
    have HU2 : Hid (Upd [] w w2) := Lib.hid (u2.trans hu2)
    have HO2 : Hid (RecAt w2 v2 (dropF l nm)) := Lib.hid ho2.recAt
    have g2 : w2.cell? ⟨w.heap.size, 2, none⟩ = some (.string c.to) := cell_blk bc2 2
    have y0 : w2.cell? ⟨w.heap.size + 1, 0, none⟩ = some (.string nm) := cell_blk bf2 0
    have y1 : w2.cell? ⟨w.heap.size + 1, 1, none⟩ = some (.bool tx) := cell_blk bf2 1
    have y2 : w2.cell? ⟨w.heap.size + 1, 2, none⟩ = some (.int .i64 n) := cell_blk bf2 2
    have y3 : w2.cell? ⟨w.heap.size + 1, 3, none⟩ = some (.string s) := cell_blk bf2 3
    have fz := frozen_blk bf2
    have hne : ∀ b off n cap, v2 = .slice (some ⟨b, off, none⟩) n cap → b ∉ [w.heap.size + 1] := fun b off n cap e hm => by
      subst e
      simp at hm
      subst hm
      have := (ho2.lt (w.heap.size + 1) rfl).1
      simp at this
      omega
    have HNE := Lib.hid hne
    have HD := Lib.hid (dropF_length l nm)
    obtain ⟨a2, cap2, rfl, -, -⟩ := ho2.recAt.isSlice
    clear hne bc2 bf2 hu2 ho2 hD u2 f0
    generalize (dropF l nm).length = N at *
    go_wp2_with fail
    have u3 : Upd [w.heap.size + 1] w2 (w2.setCell ⟨w.heap.size + 1, 0, none⟩ (.string c.to)) := (Upd.refl _ _).setCell (by simp) _ _
    have hS := set_ok _ (dropF l nm) ⟨c.to, tx, n, s⟩ _ (RecAt.upd HO2.out u3 (fun b off n cap e => HNE.out b off n cap e)) (by have := dropF_length l nm; omega)
    refine hS.mono ?_
    rintro e w4 ⟨v4, rfl, ho4, hu4⟩
    have HF2 : Hid (RP (renF l ⟨nm, tx, n, s⟩ c.to) (.slice a l.length cap) w (.returned v4) w4) := Lib.hid (by
      rw [HF.out]
      exact RP.of_own (HU2.out.setCellNew (by omega) _ _) ho4 hu4)
    clear ho4 hu4 hS u3
    go_wp2_with fail
    go_ret
    exact HF2.out
end Go.Proofs.YtajppgngoffonaaGreatDoor.U

namespace Go.Proofs.YtajppgngoffonaaGreatDoor.U
open Go.RowKit

def FitN (x : Fd) : Prop := -9223372036854775808 ≤ x.n ∧ x.n ≤ 9223372036854775807

def showF (l : List Fd) (f : Fd) : List Fd := if f.tx then l else setF l { nm := f.nm, tx := true, n := 0, s := itoaB f.n }

set_option maxRecDepth 100000 in
set_option maxHeartbeats 1600000 in
theorem ch3_ok (v : Value) (l : List Fd) (c : Ch) (f : Fd) (w : World) (h : RecAt w v l) (hl : (l.length + 1) * 48 ≤ 140737488355328) (hT : Tab w) (hf : FitN f) :
    Calls Tryz.prog 107 #[v, aggC c, aggF f] w (RP (showF l f) v w) := by
  have HR := Lib.hid (fun (W : World) (u : Upd [] w W) => h.keep u)
  have HRP := Lib.hid h
  obtain ⟨a, cap, rfl, -, -⟩ := h.isSlice
  clear h
  obtain ⟨nm, tx, n, s⟩ := f
  cases tx with
  | true =>
    have HF : Hid (showF l ⟨nm, true, n, s⟩ = l) := Lib.hid rfl
    go_enter Tryz.func107, Tryz.ntmps107
    go_wp2_with fail
    go_ret
    rw [HF.out]
    exact RP.same HRP.out (((Upd.refl [] w).alloc _).alloc _)
  | false =>
    have HF : Hid (showF l ⟨nm, false, n, s⟩ = setF l ⟨nm, true, 0, itoaB n⟩) := Lib.hid rfl
    have u0 : Upd [] w ((w.alloc (boxC c)).alloc (boxF ⟨nm, false, n, s⟩)) := ((Upd.refl [] w).alloc _).alloc _
    have HU0 := Lib.hid u0
    have HT := Lib.hid hT
    have HN := Lib.hid hf
    clear u0 hT hf
    go_enter Tryz.func107, Tryz.ntmps107
    go_wp2_with fail
    go_region_held3 (fun w' => w'.cell? ⟨w.heap.size + 1, 0, none⟩ = some (.string nm) ∧ w'.cell? ⟨w.heap.size + 1, 2, none⟩ = some (.int .i64 n))
      (first
        | go_keep
        | (go_split_ands; refine ⟨?_, ?_⟩ <;> (rw [World.cell?_of_block (hu2.block _ (by have := hu1.size; simp at this ⊢; omega) (by simp))]; assumption))
        | (go_split_ands; refine ⟨?_, ?_⟩ <;> (rw [World.cell?_of_block (hu1.block _ (by simp) (by simp))]; simp; done)))
      (first
        | (go_at_call 23; refine (itoa_ok n HN.out.1 HN.out.2 _ (HT.out.upd (by exact HU0.out.drew))).mono ?_; rintro e w1 ⟨rfl, hu1⟩)
        | (go_at_call 61; refine (set_ok _ l ⟨nm, true, 0, itoaB n⟩ _ (HR.out _ (HU0.out.drew.trans hu1)) hl).mono ?_; rintro e w2 ⟨v2, rfl, ho2, hu2⟩))
    all_goals
      have HF2 : Hid (RP (showF l ⟨nm, false, n, s⟩) (.slice a l.length cap) w (.returned v2) w2) := Lib.hid (by
        rw [HF.out]
        exact RP.of_own (HU0.out.drew.trans hu1) ho2 hu2)
      clear ho2 hu2 hu1
      go_wp2_with fail
      go_ret
      exact HF2.out

/-- So many times; none: out of range. -/
def scaleN (a b : Int) : Option Int := if withinB a = true ∧ withinB b = true ∧ withinB (a * b) = true then some (a * b) else none
def scaleF (l : List Fd) (f : Fd) (b : Int) : List Fd := if f.tx then l else match scaleN f.n b with
  | some n => setF l { nm := f.nm, tx := false, n := n, s := ByteArray.empty }
  | none => l

theorem withinB_iff (n : Int) : withinB n = true ↔ -1000000000000000 ≤ n ∧ n ≤ 1000000000000000 := by unfold withinB; simp

/-- Where the product has no room, the quotient tells. -/
theorem quo_tells {a b : Int} (_ha : withinB a = true) (hb : withinB b = true) (hp : withinB (a * b) = false) (hn : withinB (IntKind.i64.wrap (a * b)) = true) : b ≠ 0 ∧ (IntKind.i64.wrap (a * b)).tdiv b ≠ a := by
  rw [withinB_iff] at _ha hb hn
  have hb0 : b ≠ 0 := by
    rintro rfl
    rw [Int.mul_zero] at hp
    exact absurd hp (by decide)
  refine ⟨hb0, fun hq => ?_⟩
  have h1 := Int.tdiv_mul_add_tmod (IntKind.i64.wrap (a * b)) b
  rw [hq] at h1
  have h2 : ((IntKind.i64.wrap (a * b)).tmod b).natAbs < b.natAbs := by
    rw [Int.natAbs_tmod]
    exact Nat.mod_lt _ (by omega)
  have hw : ∃ k : Int, IntKind.i64.wrap (a * b) = a * b + k * 18446744073709551616 := by
    rw [IntKind.wrap_i64]
    generalize a * b = p
    exact ⟨-((p + 9223372036854775808) / 18446744073709551616), by omega⟩
  obtain ⟨k, hk⟩ := hw
  have hr : (IntKind.i64.wrap (a * b)).tmod b = k * 18446744073709551616 := by omega
  rw [hr] at h2
  have hk0 : k = 0 := by omega
  subst hk0
  rw [Int.zero_mul, Int.add_zero] at hk
  rw [hk, ← withinB_iff, hp] at hn
  cases hn

set_option maxRecDepth 100000 in
set_option maxHeartbeats 1600000 in
theorem ch4_ok (v : Value) (l : List Fd) (c : Ch) (f : Fd) (w : World) (h : RecAt w v l) (hl : (l.length + 1) * 48 ≤ 140737488355328) :
    Calls Tryz.prog 108 #[v, aggC c, aggF f] w (RP (scaleF l f c.f.n) v w) := by
  have HR := Lib.hid (fun (W : World) (u : Upd [] w W) => h.keep u)
  have HRP := Lib.hid h
  obtain ⟨a, cap, rfl, -, -⟩ := h.isSlice
  clear h
  obtain ⟨nm, tx, n, s⟩ := f
  obtain ⟨kd, cnm, to, ⟨fnm, ftx, b, fs⟩⟩ := c
  cases tx with
  | true =>
    have HF : Hid (scaleF l ⟨nm, true, n, s⟩ b = l) := Lib.hid rfl
    go_enter Tryz.func108, Tryz.ntmps108
    go_wp2_with fail
    go_ret
    rw [HF.out]
    exact RP.same HRP.out (((Upd.refl [] w).alloc _).alloc _)
  | false =>
    have u0 : Upd [] w ((w.alloc (boxC ⟨kd, cnm, to, ⟨fnm, ftx, b, fs⟩⟩)).alloc (boxF ⟨nm, false, n, s⟩)) := ((Upd.refl [] w).alloc _).alloc _
    have HU0 := Lib.hid u0
    clear u0
    cases hwa : withinB n with
    | false =>
      have HF : Hid (scaleF l ⟨nm, false, n, s⟩ b = l) := Lib.hid (by unfold scaleF scaleN; simp [hwa])
      have HW := Lib.hid hwa
      clear hwa
      go_enter Tryz.func108, Tryz.ntmps108
      go_wp2_with fail
      refine (within_ok n _).mono ?_
      rintro e w1 ⟨rfl, rfl⟩
      rw [HW.out]
      go_wp2_with fail
      go_ret
      rw [HF.out]
      exact RP.same HRP.out HU0.out
    | true =>
      cases hwb : withinB b with
      | false =>
        have HF : Hid (scaleF l ⟨nm, false, n, s⟩ b = l) := Lib.hid (by unfold scaleF scaleN; simp [hwb])
        have HA := Lib.hid hwa
        have HB := Lib.hid hwb
        clear hwa hwb
        go_enter Tryz.func108, Tryz.ntmps108
        go_wp2_with fail
        refine (within_ok n _).mono ?_
        rintro e w1 ⟨rfl, rfl⟩
        rw [HA.out]
        go_wp2_with fail
        refine (within_ok b _).mono ?_
        rintro e w1 ⟨rfl, rfl⟩
        rw [HB.out]
        go_wp2_with fail
        go_ret
        rw [HF.out]
        exact RP.same HRP.out HU0.out
      | true =>
        have HA := Lib.hid hwa
        have HB := Lib.hid hwb
        clear hwa hwb
        go_enter Tryz.func108, Tryz.ntmps108
        go_wp2_with fail
        refine (within_ok n _).mono ?_
        rintro e w1 ⟨rfl, rfl⟩
        rw [HA.out]
        go_wp2_with fail
        refine (within_ok b _).mono ?_
        rintro e w1 ⟨rfl, rfl⟩
        rw [HB.out]
        go_wp2_with fail
        cases hwp : withinB (n * b) with
        | true =>
          have HF : Hid (scaleF l ⟨nm, false, n, s⟩ b = setF l ⟨nm, false, n * b, ByteArray.empty⟩) := Lib.hid (by unfold scaleF scaleN; simp [HA.out, HB.out, hwp])
          have hw2 := (withinB_iff _).1 hwp
          have hw3 := (withinB_iff _).1 HA.out
          have hwr : wrap64 (n * b) = n * b := IntWalk.wrap64_in _ (by omega)
          rw [hwr]
          have hc : ∀ W, Calls Tryz.prog 109 #[.int .i64 (n * b)] W fun e w' => e = .returned (.bool true) ∧ w' = W := fun W => by have := within_ok (n * b) W; rw [hwp] at this; exact this
          have hwn : IntKind.i64.wrap n = n := IntWalk.i64_in _ (by omega)
          generalize hp : n * b = p at *
          have HP := Lib.hid hp
          clear hp
          by_cases hb0 : b = 0
          · have hnb : (b != 0) = false := by simp [hb0]
            clear hb0
            go_quiet (first | (go_at_call 109; refine Calls.quiet_of_same (hc _)))
            go_wp2_with fail
            have hS := fun W (u : Upd [] w W) => set_ok _ l ⟨nm, false, p, ByteArray.empty⟩ W (HR.out W u) hl
            refine (hS _ (by exact HU0.out.alike ⟨rfl, rfl, rfl⟩)).mono ?_
            rintro e w2 ⟨v2, rfl, ho2, hu2⟩
            have HF2 : Hid (RP (scaleF l ⟨nm, false, n, s⟩ b) (.slice a l.length cap) w (.returned v2) w2) := Lib.hid (by
              rw [HF.out]
              exact RP.of_own (by exact HU0.out.alike ⟨rfl, rfl, rfl⟩) ho2 hu2)
            clear ho2 hu2 hS
            go_wp2_with fail
            go_ret
            exact HF2.out
          · have hq : p.tdiv b = n := by rw [← HP.out]; exact Int.mul_tdiv_cancel _ hb0
            have hnb : (b != 0) = true := by simpa using hb0
            go_quiet (first | (go_at_call 109; refine Calls.quiet_of_same (hc _)))
            go_wp2_with fail
            have hS := fun W (u : Upd [] w W) => set_ok _ l ⟨nm, false, p, ByteArray.empty⟩ W (HR.out W u) hl
            refine (hS _ (by exact HU0.out.alike ⟨rfl, rfl, rfl⟩)).mono ?_
            rintro e w2 ⟨v2, rfl, ho2, hu2⟩
            have HF2 : Hid (RP (scaleF l ⟨nm, false, n, s⟩ b) (.slice a l.length cap) w (.returned v2) w2) := Lib.hid (by
              rw [HF.out]
              exact RP.of_own (by exact HU0.out.alike ⟨rfl, rfl, rfl⟩) ho2 hu2)
            clear ho2 hu2 hS
            go_wp2_with fail
            go_ret
            exact HF2.out
        | false =>
          have HF : Hid (scaleF l ⟨nm, false, n, s⟩ b = l) := Lib.hid (by unfold scaleF scaleN; simp [hwp])
          have HQ := Lib.hid (fun h => quo_tells HA.out HB.out hwp h)
          rw [show IntKind.i64.wrap (n * b) = wrap64 (n * b) by rw [IntKind.wrap_i64, wrap64]] at HQ
          clear hwp
          generalize wrap64 (n * b) = p at *
          cases hwp : withinB p with
          | false =>
            have hc : ∀ W, Calls Tryz.prog 109 #[.int .i64 p] W fun e w' => e = .returned (.bool false) ∧ w' = W := fun W => by have := within_ok p W; rw [hwp] at this; exact this
            clear hwp
            go_quiet (first | (go_at_call 109; refine Calls.quiet_of_same (hc _)))
            go_wp2_with fail
            go_ret
            rw [HF.out]
            exact RP.same HRP.out (by exact HU0.out.alike ⟨rfl, rfl, rfl⟩)
          | true =>
            have hc : ∀ W, Calls Tryz.prog 109 #[.int .i64 p] W fun e w' => e = .returned (.bool true) ∧ w' = W := fun W => by have := within_ok p W; rw [hwp] at this; exact this
            have hw2 := (withinB_iff _).1 hwp
            obtain ⟨hb0, hq⟩ := HQ.out hwp
            have hnb : (b != 0) = true := by simpa using hb0
            have hqa : (p.tdiv b).natAbs ≤ p.natAbs := by rw [Int.natAbs_tdiv]; exact Nat.div_le_self _ _
            have hwq : IntKind.i64.wrap (p.tdiv b) = p.tdiv b := IntWalk.i64_in _ (by omega)
            have hqn : (p.tdiv b != n) = true := by simpa using hq
            have hw64 : wrap64 (p.tdiv b) = p.tdiv b := IntWalk.wrap64_in _ (by omega)
            clear hqa hq hwp
            go_quiet (first | (go_at_call 109; refine Calls.quiet_of_same (hc _)))
            go_wp2_with fail
            go_ret
            rw [HF.out]
            exact RP.same HRP.out (by exact HU0.out.alike ⟨rfl, rfl, rfl⟩)
end Go.Proofs.YtajppgngoffonaaGreatDoor.U

namespace Go.Proofs.YtajppgngoffonaaGreatDoor.U
open Go.RowKit

def doneF (l : List Fd) (c : Ch) : List Fd :=
  if c.kd = 1 then (if (getF l c.f.nm).isSome = true ∨ 16 ≤ l.length then l else setF l c.f)
  else match getF l c.nm with
  | none => l
  | some f => if c.kd = 2 then dropF l f.nm else if c.kd = 3 then renF l f c.to else if c.kd = 4 then showF l f else if c.kd = 5 then scaleF l f c.f.n else l

theorem getF_mem {l : List Fd} {k : ByteArray} {f : Fd} (h : getF l k = some f) : f ∈ l ∧ f.nm = k := by
  unfold getF at h
  exact ⟨List.mem_of_find?_eq_some h, by simpa using List.find?_some h⟩

theorem enters48 : ∀ args w, (callFunc 104 args).run Tryz.prog w = .ok (.enter 104 args) w := enters_of Tryz.func104 (by kernel_rfl) rfl
theorem enters50 : ∀ args w, (callFunc 106 args).run Tryz.prog w = .ok (.enter 106 args) w := enters_of Tryz.func106 (by kernel_rfl) rfl
theorem enters51 : ∀ args w, (callFunc 107 args).run Tryz.prog w = .ok (.enter 107 args) w := enters_of Tryz.func107 (by kernel_rfl) rfl
theorem enters52 : ∀ args w, (callFunc 108 args).run Tryz.prog w = .ok (.enter 108 args) w := enters_of Tryz.func108 (by kernel_rfl) rfl

set_option maxRecDepth 100000 in
set_option maxHeartbeats 1600000 in
theorem done_add (v : Value) (l : List Fd) (c : Ch) (w : World) (h : RecAt w v l) (hl : (l.length + 1) * 48 ≤ 140737488355328) (hk : c.kd = 1) :
    Calls Tryz.prog 39 #[v, aggC c] w (RP (doneF l c) v w) := by
  have HR := Lib.hid (fun (W : World) (u : Upd [] w W) => h.keep u)
  have HRP := Lib.hid h
  obtain ⟨a, cap, rfl, -, -⟩ := h.isSlice
  clear h
  obtain ⟨kd, cnm, to, ⟨fnm, ftx, b, fs⟩⟩ := c
  dsimp only at hk
  subst hk
  have u0 : Upd [] w (w.alloc (boxC ⟨1, cnm, to, ⟨fnm, ftx, b, fs⟩⟩)) := (Upd.refl [] w).alloc _
  have bc0 : (w.alloc (boxC ⟨1, cnm, to, ⟨fnm, ftx, b, fs⟩⟩)).heap[w.heap.size]? = some (boxC ⟨1, cnm, to, ⟨fnm, ftx, b, fs⟩⟩) := by rw [heap_alloc, if_pos rfl]
  have HG := Lib.hid (get_ok _ l fnm _ (HR.out _ u0))
  have H0 := Lib.hid (And.intro u0 bc0)
  clear u0 bc0
  go_enter Tryz.func39, Tryz.ntmps39
  go_wp2_with fail
  refine HG.out.mono ?_
  rintro e w1 ⟨rfl, hu1⟩
  have bc := (hu1.block w.heap.size (lt_of_blk H0.out.2) (by simp)).trans H0.out.2
  have HU1 : Hid (Upd [] w w1) := Lib.hid (H0.out.1.trans hu1)
  have hlt := lt_of_blk bc
  have g3 : w1.cell? ⟨w.heap.size, 3, none⟩ = some (.string fnm) := cell_blk bc 3
  have g4 : w1.cell? ⟨w.heap.size, 4, none⟩ = some (.bool ftx) := cell_blk bc 4
  have g5 : w1.cell? ⟨w.heap.size, 5, none⟩ = some (.int .i64 b) := cell_blk bc 5
  have g6 : w1.cell? ⟨w.heap.size, 6, none⟩ = some (.string fs) := cell_blk bc 6
  have hne : w.heap.size ≠ w1.heap.size := by omega
  clear hu1 H0 HG bc
  cases hg : getF l fnm with
  | some x =>
    have HF : Hid (doneF l ⟨1, cnm, to, ⟨fnm, ftx, b, fs⟩⟩ = l) := Lib.hid (by unfold doneF; simp [hg])
    clear hg
    obtain ⟨xn, xt, xi, xs⟩ := x
    go_wp2_with fail
    go_ret
    rw [HF.out]
    exact RP.same HRP.out (HU1.out.alloc _)
  | none =>
    by_cases h16 : 16 ≤ l.length
    · have HF : Hid (doneF l ⟨1, cnm, to, ⟨fnm, ftx, b, fs⟩⟩ = l) := Lib.hid (by unfold doneF; simp [h16])
      have hi16 : (16 : Int) ≤ (l.length : Int) := by omega
      clear hg
      go_wp2_with fail
      go_ret
      rw [HF.out]
      exact RP.same HRP.out (HU1.out.alloc _)
    · have HF : Hid (doneF l ⟨1, cnm, to, ⟨fnm, ftx, b, fs⟩⟩ = setF l ⟨fnm, ftx, b, fs⟩) := Lib.hid (by unfold doneF; simp [hg, h16])
      have hi16 : ¬ (16 : Int) ≤ (l.length : Int) := by omega
      clear hg
      go_wp2_with fail
      have hS := fun W (u : Upd [] w W) => set_ok _ l ⟨fnm, ftx, b, fs⟩ W (HR.out W u) hl
      refine (hS _ (by exact HU1.out.alloc _)).mono ?_
      rintro e w2 ⟨v2, rfl, ho2, hu2⟩
      have HF2 : Hid (RP (doneF l ⟨1, cnm, to, ⟨fnm, ftx, b, fs⟩⟩) (.slice a l.length cap) w (.returned v2) w2) := Lib.hid (by
        rw [HF.out]
        exact RP.of_own (by exact HU1.out.alloc _) ho2 hu2)
      clear ho2 hu2 hS
      go_wp2_with fail
      go_ret
      exact HF2.out

theorem equalIn_func (W : World) (d k : Nat) : (Op.equalIn (d + 1) 120 (.func (.func k) #[] #[]) .nilFunc).run Tryz.prog W = .ok false W := by
  simp [Op.equalIn, run_underlying Tryz.underlying120]

theorem equalIn_nilFunc (W : World) (d : Nat) : (Op.equalIn (d + 1) 120 .nilFunc .nilFunc).run Tryz.prog W = .ok true W := by
  simp [Op.equalIn, run_underlying Tryz.underlying120]

theorem eq_func (W : World) (k : Nat) : (binOp .eql 120 (.func (.func k) #[] #[]) .nilFunc).run Tryz.prog W = .ok (.bool false) W := by
  have h : (Op.equal 120 (.func (.func k) #[] #[]) .nilFunc).run Tryz.prog W = .ok false W := equalIn_func W 9999 k
  simp only [binOp, Sem.run_bind, h, Result.andThen_ok, Sem.run_pure]

theorem eq_nilFunc (W : World) : (binOp .eql 120 .nilFunc .nilFunc).run Tryz.prog W = .ok (.bool true) W := by
  have h : (Op.equal 120 .nilFunc .nilFunc).run Tryz.prog W = .ok true W := equalIn_nilFunc W 9999
  simp only [binOp, Sem.run_bind, h, Result.andThen_ok, Sem.run_pure]

theorem RP.via {l' : List Fd} {v v' : Value} {w w0 w' : World} (u : Upd [] w w0) (hr : RecAt w' v' l') (hv : v' = v ∨ Own w' w0.heap.size v' l') (hu : Upd [] w0 w') : RP l' v w (.returned v') w' :=
  ⟨v', rfl, hr, hv.imp id (fun ho => own_mono ho u.size), u.trans hu⟩

set_option maxRecDepth 100000 in
set_option maxHeartbeats 3200000 in
theorem done_other (v : Value) (l : List Fd) (c : Ch) (w : World) (h : RecAt w v l) (hl : (l.length + 1) * 48 ≤ 140737488355328) (hk : c.kd ≠ 1) (hT : Tab w) (hN : ∀ x ∈ l, FitN x) :
    Calls Tryz.prog 39 #[v, aggC c] w (RP (doneF l c) v w) := by
  have HR := Lib.hid (fun (W : World) (u : Upd [] w W) => h.keep u)
  have HRP := Lib.hid h
  have HT := Lib.hid hT
  have HN := Lib.hid hN
  obtain ⟨a, cap, rfl, -, -⟩ := h.isSlice
  clear h hT hN
  obtain ⟨kd, cnm, to, ⟨fnm, ftx, b, fs⟩⟩ := c
  dsimp only at hk
  have u0 : Upd [] w (w.alloc (boxC ⟨kd, cnm, to, ⟨fnm, ftx, b, fs⟩⟩)) := (Upd.refl [] w).alloc _
  have bc0 : (w.alloc (boxC ⟨kd, cnm, to, ⟨fnm, ftx, b, fs⟩⟩)).heap[w.heap.size]? = some (boxC ⟨kd, cnm, to, ⟨fnm, ftx, b, fs⟩⟩) := by rw [heap_alloc, if_pos rfl]
  have HG := Lib.hid (get_ok _ l cnm _ (HR.out _ u0))
  have H0 := Lib.hid (And.intro u0 bc0)
  clear u0 bc0
  go_enter Tryz.func39, Tryz.ntmps39
  go_wp2_with fail
  refine HG.out.mono ?_
  rintro e w1 ⟨rfl, hu1⟩
  have bc1 := (hu1.block w.heap.size (lt_of_blk H0.out.2) (by simp)).trans H0.out.2
  have HU1 : Hid (Upd [] w w1) := Lib.hid (H0.out.1.trans hu1)
  have hlt1 := lt_of_blk bc1
  have HB1 := Lib.hid bc1
  clear hu1 H0 HG bc1
  generalize hgf : getF l cnm = gf at *
  have HGF := Lib.hid hgf
  clear hgf
  go_wp2_with fail
  have HW0 : Hid (Upd [] w (w1.alloc (boxF (gf.getD noF)))) := Lib.hid (HU1.out.alloc _)
  have bc2 : (w1.alloc (boxF (gf.getD noF))).heap[w.heap.size]? = some (boxC ⟨kd, cnm, to, ⟨fnm, ftx, b, fs⟩⟩) := by rw [heap_alloc, if_neg (by omega)]; exact HB1.out
  have bf2 : (w1.alloc (boxF (gf.getD noF))).heap[w1.heap.size]? = some (boxF (gf.getD noF)) := by rw [heap_alloc, if_pos rfl]
  have hlt2 : w.heap.size < (w1.alloc (boxF (gf.getD noF))).heap.size := lt_of_blk bc2
  have g0 : (w1.alloc (boxF (gf.getD noF))).cell? ⟨w.heap.size, 0, none⟩ = some (.int .i64 kd) := cell_blk bc2 0
  have HB2 := Lib.hid (And.intro bc2 bf2)
  clear bc2 bf2
  change Code.wp Tryz.prog _ _ _ (w1.alloc (boxF (gf.getD noF)))
  generalize w1.alloc (boxF (gf.getD noF)) = w2 at *
  go_region_held3 (fun w' => w'.cell? ⟨w.heap.size, 0, none⟩ = some (.int .i64 kd))
    (first
      | go_keep
      | (rw [World.cell?_of_block (hu3.block _ (by exact hlt2) (by simp))]; assumption))
    (first
      | (go_at_call 62; refine (changes_ok _).mono ?_; rintro e w3 ⟨mb, rfl, hlk, -, -, hu3⟩; have hlk3 := hlk w3 kd rfl))
  all_goals
    have HU3 : Hid (Upd [] w w3) := Lib.hid (HW0.out.drew.trans hu3)
    have bc3 : w3.heap[w.heap.size]? = some (boxC ⟨kd, cnm, to, ⟨fnm, ftx, b, fs⟩⟩) := (hu3.block _ hlt2 (by simp)).trans HB2.out.1
    have bf3 : w3.heap[w1.heap.size]? = some (boxF (gf.getD noF)) := (hu3.block _ (lt_of_blk HB2.out.2) (by simp)).trans HB2.out.2
    have g0 : w3.cell? ⟨w.heap.size, 0, none⟩ = some (.int .i64 kd) := cell_blk bc3 0
    have g1 : w3.cell? ⟨w.heap.size, 1, none⟩ = some (.string cnm) := cell_blk bc3 1
    have g2 : w3.cell? ⟨w.heap.size, 2, none⟩ = some (.string to) := cell_blk bc3 2
    have g3 : w3.cell? ⟨w.heap.size, 3, none⟩ = some (.string fnm) := cell_blk bc3 3
    have g4 : w3.cell? ⟨w.heap.size, 4, none⟩ = some (.bool ftx) := cell_blk bc3 4
    have g5 : w3.cell? ⟨w.heap.size, 5, none⟩ = some (.int .i64 b) := cell_blk bc3 5
    have g6 : w3.cell? ⟨w.heap.size, 6, none⟩ = some (.string fs) := cell_blk bc3 6
    have f0 : w3.cell? ⟨w1.heap.size, 0, none⟩ = some (.string (gf.getD noF).nm) := cell_blk bf3 0
    have f1 : w3.cell? ⟨w1.heap.size, 1, none⟩ = some (.bool (gf.getD noF).tx) := cell_blk bf3 1
    have f2 : w3.cell? ⟨w1.heap.size, 2, none⟩ = some (.int .i64 (gf.getD noF).n) := cell_blk bf3 2
    have f3 : w3.cell? ⟨w1.heap.size, 3, none⟩ = some (.string (gf.getD noF).s) := cell_blk bf3 3
    clear hlk hlk3 hu3 bc3 bf3 HB1 HB2 HW0 HU1
    cases gf with
    | none =>
      have HF : Hid (doneF l ⟨kd, cnm, to, ⟨fnm, ftx, b, fs⟩⟩ = l) := Lib.hid (by unfold doneF; simp [HGF.out, hk])
      generalize fnOf kd = fv at *
      go_wp2_with fail
      go_ret
      rw [HF.out]
      exact RP.same HRP.out HU3.out
    | some f =>
      simp only [Option.getD_some] at f0 f1 f2 f3
      by_cases hk2 : kd = 2
      · subst hk2
        have HF : Hid (doneF l ⟨2, cnm, to, ⟨fnm, ftx, b, fs⟩⟩ = dropF l f.nm) := Lib.hid (by unfold doneF; simp [HGF.out])
        rw [show fnOf 2 = .func (.func 104) #[] #[] from rfl]
        have hop : ∀ W, (binOp .eql 120 (.func (.func 104) #[] #[]) .nilFunc).run Tryz.prog W = .ok (.bool false) W := fun W => eq_func W 104
        obtain ⟨fn_, ft_, fi_, fs_⟩ := f
        go_wp2_with fail
        have hC := ch1_ok _ l ⟨2, cnm, to, ⟨fnm, ftx, b, fs⟩⟩ ⟨fn_, ft_, fi_, fs_⟩ w3 (HR.out _ HU3.out) (by omega)
        refine hC.mono ?_
        rintro e w4 ⟨v4, rfl, hr4, hv4, hu4⟩
        have HF2 : Hid (RP (doneF l ⟨2, cnm, to, ⟨fnm, ftx, b, fs⟩⟩) (.slice a l.length cap) w (.returned v4) w4) := Lib.hid (by
          rw [HF.out]
          exact RP.via HU3.out hr4 hv4 hu4)
        clear hr4 hv4 hu4 hC
        go_wp2_with fail
        go_ret
        exact HF2.out
      by_cases hk3 : kd = 3
      · subst hk3
        have HF : Hid (doneF l ⟨3, cnm, to, ⟨fnm, ftx, b, fs⟩⟩ = renF l f to) := Lib.hid (by unfold doneF; simp [HGF.out])
        rw [show fnOf 3 = .func (.func 106) #[] #[] from rfl]
        have hop : ∀ W, (binOp .eql 120 (.func (.func 106) #[] #[]) .nilFunc).run Tryz.prog W = .ok (.bool false) W := fun W => eq_func W 106
        obtain ⟨fn_, ft_, fi_, fs_⟩ := f
        go_wp2_with fail
        have hC := ch2_ok _ l ⟨3, cnm, to, ⟨fnm, ftx, b, fs⟩⟩ ⟨fn_, ft_, fi_, fs_⟩ w3 (HR.out _ HU3.out) hl
        refine hC.mono ?_
        rintro e w4 ⟨v4, rfl, hr4, hv4, hu4⟩
        have HF2 : Hid (RP (doneF l ⟨3, cnm, to, ⟨fnm, ftx, b, fs⟩⟩) (.slice a l.length cap) w (.returned v4) w4) := Lib.hid (by
          rw [HF.out]
          exact RP.via HU3.out hr4 hv4 hu4)
        clear hr4 hv4 hu4 hC
        go_wp2_with fail
        go_ret
        exact HF2.out
      by_cases hk4 : kd = 4
      · subst hk4
        have HF : Hid (doneF l ⟨4, cnm, to, ⟨fnm, ftx, b, fs⟩⟩ = showF l f) := Lib.hid (by unfold doneF; simp [HGF.out])
        rw [show fnOf 4 = .func (.func 107) #[] #[] from rfl]
        have hop : ∀ W, (binOp .eql 120 (.func (.func 107) #[] #[]) .nilFunc).run Tryz.prog W = .ok (.bool false) W := fun W => eq_func W 107
        obtain ⟨fn_, ft_, fi_, fs_⟩ := f
        go_wp2_with fail
        have hC := ch3_ok _ l ⟨4, cnm, to, ⟨fnm, ftx, b, fs⟩⟩ ⟨fn_, ft_, fi_, fs_⟩ w3 (HR.out _ HU3.out) hl (HT.out.upd HU3.out) (HN.out _ (getF_mem HGF.out).1)
        refine hC.mono ?_
        rintro e w4 ⟨v4, rfl, hr4, hv4, hu4⟩
        have HF2 : Hid (RP (doneF l ⟨4, cnm, to, ⟨fnm, ftx, b, fs⟩⟩) (.slice a l.length cap) w (.returned v4) w4) := Lib.hid (by
          rw [HF.out]
          exact RP.via HU3.out hr4 hv4 hu4)
        clear hr4 hv4 hu4 hC
        go_wp2_with fail
        go_ret
        exact HF2.out
      by_cases hk5 : kd = 5
      · subst hk5
        have HF : Hid (doneF l ⟨5, cnm, to, ⟨fnm, ftx, b, fs⟩⟩ = scaleF l f b) := Lib.hid (by unfold doneF; simp [HGF.out])
        rw [show fnOf 5 = .func (.func 108) #[] #[] from rfl]
        have hop : ∀ W, (binOp .eql 120 (.func (.func 108) #[] #[]) .nilFunc).run Tryz.prog W = .ok (.bool false) W := fun W => eq_func W 108
        obtain ⟨fn_, ft_, fi_, fs_⟩ := f
        go_wp2_with fail
        have hC := ch4_ok _ l ⟨5, cnm, to, ⟨fnm, ftx, b, fs⟩⟩ ⟨fn_, ft_, fi_, fs_⟩ w3 (HR.out _ HU3.out) hl
        refine hC.mono ?_
        rintro e w4 ⟨v4, rfl, hr4, hv4, hu4⟩
        have HF2 : Hid (RP (doneF l ⟨5, cnm, to, ⟨fnm, ftx, b, fs⟩⟩) (.slice a l.length cap) w (.returned v4) w4) := Lib.hid (by
          rw [HF.out]
          exact RP.via HU3.out hr4 hv4 hu4)
        clear hr4 hv4 hu4 hC
        go_wp2_with fail
        go_ret
        exact HF2.out
      have HF : Hid (doneF l ⟨kd, cnm, to, ⟨fnm, ftx, b, fs⟩⟩ = l) := Lib.hid (by unfold doneF; simp [HGF.out, hk, hk2, hk3, hk4, hk5])
      rw [show fnOf kd = .nilFunc by unfold fnOf; rw [if_neg hk2, if_neg hk3, if_neg hk4, if_neg hk5]]
      have hop : ∀ W, (binOp .eql 120 .nilFunc .nilFunc).run Tryz.prog W = .ok (.bool true) W := fun W => eq_nilFunc W
      go_wp2_with fail
      go_ret
      rw [HF.out]
      exact RP.same HRP.out HU3.out

theorem done_ok (v : Value) (l : List Fd) (c : Ch) (w : World) (h : RecAt w v l) (hl : (l.length + 1) * 48 ≤ 140737488355328) (hT : Tab w) (hN : ∀ x ∈ l, FitN x) :
    Calls Tryz.prog 39 #[v, aggC c] w (RP (doneF l c) v w) := by
  by_cases hk : c.kd = 1
  · exact done_add v l c w h hl hk
  · exact done_other v l c w h hl hk hT hN
end Go.Proofs.YtajppgngoffonaaGreatDoor.U
