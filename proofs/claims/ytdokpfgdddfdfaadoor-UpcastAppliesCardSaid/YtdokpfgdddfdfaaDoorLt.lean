/- Upcasters: Latest. -/
import Derived.Test.YtdokpfgdddfdfaaDoorBy
namespace Go.Proofs.YtdokpfgdddfdfaaDoor
open Go.RowKit

/-- Different things of a list are no more than the list is long. -/
theorem pigeon (f : Nat → Int) : ∀ (v : Nat) (l : List Up), (∀ i j, i < v → j < v → f i = f j → i = j) → (∀ j, j < v → ∃ u ∈ l, u.fr = f j) → v ≤ l.length := by
  intro v
  induction v with
  | zero => intro l _ _; omega
  | succ v ih =>
    intro l hf h
    obtain ⟨u, hu, e⟩ := h v (by omega)
    obtain ⟨l1, l2, rfl⟩ := List.append_of_mem hu
    have := ih (l1 ++ l2) (fun i j hi hj => hf i j (by omega) (by omega)) (fun j hj => by
      obtain ⟨x, hx, ex⟩ := h j (by omega)
      refine ⟨x, ?_, ex⟩
      rcases List.mem_append.1 hx with hx | hx
      · exact List.mem_append_left _ hx
      · rcases List.mem_cons.1 hx with rfl | hx
        · have := hf j v (by omega) (by omega) (ex.symm.trans e)
          omega
        · exact List.mem_append_right _ hx)
    simp at this ⊢
    omega

theorem findU_mem {l : List Up} {s : ByteArray} {n : Int} {u : Up} (h : findU l s n = some u) : u ∈ l ∧ u.ty = s ∧ u.fr = n := by
  unfold findU at h
  have h2 := List.find?_some h
  have h3 := List.mem_of_find?_eq_some h
  simp [isU] at h2
  exact ⟨h3, h2.1.symm, h2.2.symm⟩

def runN (p : Nat → Bool) : Nat → Nat → Nat
  | 0, v => v
  | f + 1, v => if p v then runN p f (v + 1) else v

def hasU (l : List Up) (k : ByteArray) (v : Nat) : Bool := (findU l k (v : Int)).isSome
def latestU (l : List Up) (k : ByteArray) : Nat := runN (hasU l k) (l.length + 1) 0

theorem hasU_le {l : List Up} {k : ByteArray} {v : Nat} (h : ∀ j, j < v → hasU l k j = true) : v ≤ l.length :=
  pigeon (fun j => (j : Int)) v l (fun i j _ _ e => by have : (i : Int) = (j : Int) := e; omega) (fun j hj => by
    have := h j hj
    unfold hasU at this
    obtain ⟨u, hu⟩ := Option.isSome_iff_exists.1 this
    obtain ⟨h1, _, h3⟩ := findU_mem hu
    exact ⟨u, h1, h3⟩)

theorem UpsAt.shape {w : World} {v : Value} {us : List Up} (h : UpsAt w v us) : ∀ u ∈ us, ∃ a c, u.cv = .slice a u.ch.length c := by
  obtain ⟨a, cap, -, -, -, h3⟩ := h
  intro u hu
  obtain ⟨i, hi, rfl⟩ := List.mem_iff_getElem.1 hu
  obtain ⟨b, off, -, -, a2, c2, hcv, -⟩ := h3 i hi
  exact ⟨a2, c2, hcv⟩

theorem runN_step (p : Nat → Bool) (f v : Nat) : runN p (f + 1) v = if p v then runN p f (v + 1) else v := rfl

set_option maxRecDepth 100000 in
set_option maxHeartbeats 1000000 in
theorem latest_ok (v : Value) (us : List Up) (k : ByteArray) (w : World) (hu : UpsAt w v us) : Calls Tryd.prog 13 #[v, .string k] w fun e w' => e = .returned (.int .i64 (latestU us k)) ∧ Upd [] w w' := by
  have HB := Lib.hid (byKey_ok v us w hu)
  have HSh := Lib.hid hu.shape
  obtain ⟨a, cap, rfl, h1, h2, -⟩ := hu
  unfold maxLen at h2
  have hlen : us.length ≤ 9223372036854775807 := by omega
  generalize hR : latestU us k = R at *
  have HR : Hid (runN (hasU us k) (us.length + 1) 0 = R) := Lib.hid hR
  clear hR h2
  go_enter Tryd.func13, Tryd.ntmps13
  go_wp2_with fail
  refine HB.out.mono ?_
  rintro e w1 ⟨b, rfl, hb, hm, hup⟩
  have HM := Lib.hid hm
  have HU := Lib.hid hup
  clear hm hup HB
  go_wp2_with fail
  go_loopg [4, 5, 7, 8] us.length (fun n _ i _ _ wr => ∃ j : Nat, i = .int .i64 j ∧ j ≤ us.length ∧ n = us.length - j ∧ Hid (∀ x, x < j → hasU us k x = true) ∧ Hid (runN (hasU us k) (us.length + 1 - j) j = R) ∧ Hid (Upd [] w1 wr))
  case atStart => exact ⟨0, rfl, by omega, rfl, Lib.hid (fun x hx => by omega), Lib.hid HR.out, Lib.hid (Upd.refl _ _)⟩
  case round =>
    obtain ⟨j, rfl, hj, rfl, hA, hRj, hW⟩ := hrel
    have hlk := (HM.out.upd hW.out (by simp)).look k (j : Int)
    have hst : runN (hasU us k) (us.length + 1 - j) j = if hasU us k j then runN (hasU us k) (us.length - j) (j + 1) else j := by
      rw [show us.length + 1 - j = (us.length - j) + 1 by omega]; rfl
    rw [hRj.out] at hst
    cases hf : findU us k (j : Int) with
    | none =>
      rw [hf] at hlk
      have hh : hasU us k j = false := by unfold hasU; rw [hf]; rfl
      rw [hh] at hst
      have hR2 : Hid (R = j) := Lib.hid (by simpa using hst)
      clear hst hh hf hRj
      go_wp2_with fail
      go_ret
      exact ⟨by rw [hR2.out]; rfl, HU.out.trans (hW.out.alloc _)⟩
    | some u =>
      rw [hf] at hlk
      have hh : hasU us k j = true := by unfold hasU; rw [hf]; rfl
      rw [hh, if_pos rfl] at hst
      have hA2 : Hid (∀ x, x < j + 1 → hasU us k x = true) := Lib.hid (fun x hx => by
        rcases Nat.lt_or_ge x j with h | h
        · exact hA.out x h
        · have : x = j := by omega
          subst this; exact hh)
      have hle := hasU_le hA2.out
      have hR2 : Hid (runN (hasU us k) (us.length + 1 - (j + 1)) (j + 1) = R) := Lib.hid (by rw [show us.length + 1 - (j + 1) = us.length - j by omega]; exact hst.symm)
      obtain ⟨a2, c2, hcv⟩ := HSh.out u (findU_mem hf).1
      obtain ⟨ty, fr, cv, ch⟩ := u
      dsimp only at hcv
      subst hcv
      clear hst hh hf hRj
      go_wp2_with fail
      go_roundg (us.length - (j + 1))
      case measure => omega
      case rel => exact ⟨j + 1, by go_num, by omega, rfl, hA2, hR2, Lib.hid (hW.out.alloc _)⟩
end Go.Proofs.YtdokpfgdddfdfaaDoor
