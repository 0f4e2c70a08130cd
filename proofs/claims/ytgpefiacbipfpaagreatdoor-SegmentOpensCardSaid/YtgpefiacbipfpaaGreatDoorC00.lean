/- Short names. -/
import Derived.Lib.Hide
import Derived.WalkKit
namespace Go.Proofs.YtgpefiacbipfpaaGreatDoor
abbrev aA := @Go.Lib.hid
abbrev aC := @_root_.And.intro
abbrev aE := @_root_.if_neg
abbrev aF := @_root_.if_pos
abbrev aJ := @_root_.List.mem_cons
abbrev aM := @_root_.List.mem_singleton
abbrev aQ := @_root_.Nat.le_refl
abbrev aT := @_root_.List.set_cons_succ
abbrev aU := @_root_.List.set_cons_zero
abbrev aW := @_root_.List.setIfInBounds_toArray
abbrev bA := @_root_.List.getElem?_toArray
abbrev bB := @_root_.List.getElem?_cons_zero
abbrev bD := @_root_.List.length_append
abbrev bG := @_root_.Nat.le_trans
abbrev bK := @_root_.List.mem_append
abbrev bL := @_root_.List.getElem?_eq_getElem
abbrev bM := @_root_.congrArg
abbrev bS := @_root_.List.getElem?_cons_succ
abbrev bX := @_root_.List.length_take
abbrev cA := @_root_.List.not_mem_nil
abbrev cG := @_root_.or_false
abbrev cV := @_root_.List.mem_map
abbrev dF := @_root_.List.length_map
abbrev dH := @_root_.Nat.zero_le
abbrev dI := @_root_.List.getD_eq_getElem?_getD
abbrev dN := @_root_.Nat.lt_of_lt_of_le
abbrev dR := @_root_.List.map_cons
abbrev dY := @_root_.List.take_of_length_le
abbrev eD := @_root_.List.length_drop
abbrev eG := @_root_.List.length_cons
abbrev eJ := @_root_.List.append_assoc
abbrev eX := @_root_.List.getElem?_eq_some_iff
abbrev eZ := @_root_.List.map_append
abbrev fC := @_root_.List.mem_of_getElem?
abbrev fF := @Go.IntWalk.i64_in
abbrev fG := @Go.Value.slice.injEq
abbrev fM := @_root_.List.mem_append_right
abbrev fX := @_root_.List.getElem_mem
abbrev fY := @_root_.Option.some.injEq
abbrev gG := @_root_.List.getElem?_eq_none
abbrev gW := @Go.World.size_alloc
abbrev iD := @Go.World.cell?_of_block
abbrev iJ := @_root_.Nat.zero_add
abbrev iK := @_root_.List.take_add_one
abbrev iL := @_root_.List.mem_append_left
abbrev iZ := @_root_.List.mem_cons_of_mem
abbrev jI := @_root_.Nat.mul_one
abbrev jJ := @Go.callsIn_wide
abbrev jT := @_root_.List.flatMap_cons
abbrev kC := @_root_.List.nodup_cons
abbrev kD := @Go.info_parts
abbrev kO := @_root_.List.nodup_append
abbrev kP := @_root_.Nat.lt_or_ge
abbrev kQ := @_root_.List.getElem?_append_left
abbrev kT := @_root_.List.map_nil
abbrev kU := @_root_.Nat.add_zero
abbrev kV := @_root_.List.drop_left
abbrev kW := @_root_.List.take_append_drop
abbrev kX := @Go.World.block_lt_of_cell?
abbrev lI := @_root_.List.size_toArray
abbrev lJ := @_root_.List.length_nil
abbrev lK := @_root_.List.mem_flatMap
abbrev lL := @_root_.List.getElem?_map
abbrev mD := @_root_.Nat.mul_comm
abbrev mO := @_root_.Nat.shiftLeft_eq
abbrev mP := @_root_.Nat.mod_lt
abbrev mQ := @_root_.Option.some.inj
abbrev mR := @_root_.Option.mem_toList
abbrev nT := @_root_.List.eq_nil_of_length_eq_zero
abbrev nU := @Go.IntKind.wrap_u64
abbrev nV := @Go.run_underlying
abbrev oM := @_root_.List.concat_eq_append
abbrev oN := @_root_.List.getElem?_append_right
abbrev oO := @_root_.List.length_pos_iff
abbrev oP := @_root_.Int.toNat_natCast
abbrev pN := @_root_.List.length_replicate
abbrev pO := @_root_.List.eq_nil_or_concat
abbrev pP := @_root_.List.drop_eq_getElem_cons
abbrev pQ := @_root_.List.map_map
abbrev qD := @_root_.UInt8.toNat_ofNat'
abbrev qE := @_root_.List.getElem?_take_of_lt
abbrev qF := @Go.Sem.run_bind
abbrev qG := @Go.Result.andThen_ok
abbrev rL := @_root_.List.take_length
abbrev rM := @_root_.List.mem_of_mem_take
abbrev rN := @_root_.List.drop_drop
abbrev rO := @Go.bodyPost_ret
abbrev sM := @_root_.List.sum_cons
abbrev sN := @_root_.List.append_nil
abbrev sO := @_root_.List.mem_cons_self
abbrev sP := @Go.wpList_plain
abbrev tO := @_root_.Nat.mod_eq_of_lt
abbrev tP := @_root_.Nat.shiftRight_eq_div_pow
abbrev tQ := @_root_.Nat.le_succ
abbrev tR := @_root_.Nat.sub_self
abbrev tS := @_root_.Int.natCast_add
abbrev tT := @_root_.Option.getD_some
abbrev tU := @_root_.List.length_set
abbrev tV := @_root_.Nat.le_of_lt
abbrev tW := @_root_.List.drop_zero
abbrev uY := @_root_.List.foldl_cons
abbrev uZ := @_root_.List.map_congr_left
abbrev vA := @_root_.List.flatMap_append
abbrev vB := @Go.Sem.run_pure
abbrev wH := @_root_.Nat.mul_le_mul_right
abbrev wI := @_root_.Nat.xor_lt_two_pow
abbrev wJ := @_root_.List.replicate_succ
abbrev wK := @_root_.List.ext_getElem?
abbrev wL := @_root_.List.getElem?_take
abbrev wM := @_root_.List.mem_filter
abbrev wN := @_root_.List.filter_eq_self
abbrev wO := @_root_.Array.toList_setIfInBounds
abbrev wP := @_root_.List.pairwise_map
abbrev wQ := @_root_.List.take_zero
abbrev yJ := @_root_.Nat.lt_trans
abbrev yK := @_root_.Nat.add_mul
abbrev yL := @_root_.List.mem_range
abbrev yM := @_root_.List.length_range'
abbrev yN := @_root_.Nat.add_assoc
abbrev yO := @_root_.Nat.or_lt_two_pow
abbrev yP := @_root_.Option.map_some
abbrev yQ := @_root_.List.drop_take
abbrev yR := @_root_.Array.length_toList
abbrev yS := @_root_.Option.none
abbrev yT := @_root_.Nat.mul_add
abbrev yU := @_root_.List.prefix_append
abbrev yV := @_root_.List.take_set
abbrev yW := @_root_.Nat.sub_zero
abbrev yX := @Go.Addr.mk.injEq
abbrev yY := @Go.MapKept.run_getObj_map
abbrev AR := @_root_.Nat.or_comm
abbrev AS := @_root_.Nat.two_pow_add_eq_or_of_lt
abbrev AT := @_root_.List.foldl_append
abbrev AU := @_root_.List.append_eq_nil_iff
abbrev AV := @_root_.List.filter_cons
abbrev AW := @_root_.List.mem_range'_1
abbrev AX := @_root_.List.pairwise_cons
abbrev AY := @_root_.List.length_filter_le
abbrev AZ := @_root_.Array.getElem?_toList
abbrev Ba := @_root_.Int.le_refl
abbrev Bb := @_root_.Nat.eq_zero_or_pos
abbrev Bd := @_root_.Nat.min_eq_left
abbrev Be := @_root_.Nat.lt_irrefl
abbrev Bf := @_root_.List.length_ofFn
abbrev Bg := @Go.IntKind.wrap_i64
abbrev Bh := @Go.setRow_heap
abbrev Bi := @Go.run_slice_lh
abbrev DF := @_root_.Nat.mul_assoc
abbrev DG := @_root_.Nat.lt_succ_self
abbrev DH := @_root_.Nat.xor_assoc
abbrev DI := @_root_.List.range_succ
abbrev DJ := @_root_.List.Pairwise.nil
abbrev DK := @_root_.List.map_toArray
abbrev DL := @_root_.List.take_left
abbrev DM := @_root_.List.getElem?_set
abbrev DN := @_root_.List.drop_length
abbrev DO := @_root_.Array.getD_eq_getD_getElem?
abbrev DP := @_root_.List.map_take
abbrev DR := @_root_.List.length_singleton
abbrev DS := @_root_.List.set_append_right
abbrev DT := @_root_.Array.replicate_succ
abbrev DU := @_root_.Array.replicate_zero
abbrev DV := @_root_.List.push_toArray
abbrev DW := @_root_.List.append_toArray
abbrev DX := @_root_.List.getElem?_drop
abbrev DY := @_root_.ByteArray.ext
abbrev DZ := @_root_.ByteArray.data_append
abbrev Ea := @_root_.List.take_succ_eq_append_getElem
abbrev Eb := @Go.World.size_setCell
abbrev Ec := @Go.World.cell?_setCell_other
abbrev Ed := @Go.IntKind.wrap_u32
abbrev Ee := @Go.Obj.cells.injEq
abbrev Ef := @Go.Value.slice.inj
abbrev JU := @_root_.List.drop_replicate
abbrev JV := @_root_.Nat.and_one_is_mod
abbrev JW := @_root_.List.getElem_cons_succ
abbrev JX := @_root_.List.eq_replicate_iff
abbrev JY := @_root_.List.ne_nil_of_length_pos
abbrev JZ := @_root_.Option.isSome_none
abbrev Ka := @_root_.Option.isSome_some
abbrev Kb := @_root_.List.take_succ_cons
abbrev Kc := @_root_.List.length_eq_zero_iff
abbrev Kd := @_root_.Nat.add_sub_cancel_left
abbrev Ke := @_root_.List.drop_eq_nil_of_le
abbrev Kf := @_root_.List.perm_append_singleton
abbrev Kg := @_root_.List.Perm.eq_of_pairwise
abbrev Kh := @_root_.List.length_erase_of_mem
abbrev Ki := @_root_.List.getElem?_replicate
abbrev Kj := @_root_.Int.tmod_eq_emod_of_nonneg
abbrev Kk := @_root_.Array.size_setIfInBounds
abbrev Kl := @Go.World.frozen?_setCell
abbrev Km := @Go.grownCap_le_maxLen
abbrev Kn := @Go.ChangeMaps.heap_setBlock_same
abbrev Ko := @Go.MapKept.run_setObj_map
abbrev Kq := @Go.ChangeMaps.heap_setBlock_other
abbrev Bs := List UInt8
def aN (n : Nat) : Bs := if h : n < 128 then [UInt8.ofNat n] else UInt8.ofNat (n % 128 + 128) :: aN (n / 128)
 termination_by n
 decreasing_by omega
theorem qH {n : Nat} (h : n < 128) : aN n = [UInt8.ofNat n] := by rw [aN, dif_pos h]
theorem vC {n : Nat} (h : ¬ n < 128) : aN n = UInt8.ofNat (n % 128 + 128) :: aN (n / 128) := by rw [aN, dif_neg h]
theorem mE : ∀ (k n : Nat), n < 128 ^ (k + 1) → (aN n).length ≤ k + 1 := by
 intro k
 induction k with
 | zero => intro n h; rw [qH (by simpa using h)]; simp
 | succ k ih =>
  intro n h
  by_cases hn : n < 128
  ·rw [qH hn]; simp
  rw [vC hn]
  have : n / 128 < 128 ^ (k + 1) := by
   rw [Nat.div_lt_iff_lt_mul (by omega)]
   rw [Nat.pow_succ] at h
   exact h
  have := ih _ this
  simp; omega
theorem sQ (n : Nat) : 1 ≤ (aN n).length := by
 by_cases hn : n < 128
 ·rw [qH hn]; simp
 rw [vC hn]; simp
theorem gX {n : Nat} (h : n < 2 ^ 64) : (aN n).length ≤ 10 := mE 9 n (yJ h (by decide))
def dA : Nat → Nat → Nat → Bs → Nat × Nat × Nat
 | 0, _, _, _ => (0, 0, 11)
 | _ + 1, _, _, [] => (0, 0, 10)
 | k + 1, i, acc, c :: r =>
  let acc' := (acc ||| (c.toNat % 128) <<< (7 * i)) % 2 ^ 64
  if 128 ≤ c.toNat then dA k (i + 1) acc' r
  else if (0 < i ∧ c.toNat = 0) ∨ (i = 9 ∧ 1 < c.toNat) then (0, 0, 11)
  else (acc', i + 1, 0)
def cX (b : Bs) : Nat × Nat × Nat := dA 10 0 0 b
theorem Bj {i acc c : Nat} (h : acc < 2 ^ (7 * i)) : acc ||| c <<< (7 * i) = acc + c * 2 ^ (7 * i) := by
 rw [AR, mO, mD c, ← AS h, Nat.add_comm, mD]
theorem Kr : ∀ (k i acc n : Nat) (rest : Bs), k + i = 10 → acc < 2 ^ (7 * i) → acc + n * 2 ^ (7 * i) < 2 ^ 64 → (i = 0 ∨ 0 < n) →
  dA k i acc (aN n ++ rest) = (acc + n * 2 ^ (7 * i), i + (aN n).length, 0) := by
 intro k
 induction k with
 | zero =>
  intro i acc n rest hk ha hn h0
  obtain rfl : i = 10 := by omega
  exfalso
  rcases h0 with h0 | h0
  ·omega
  have : 1 * 2 ^ (7 * 10) ≤ n * 2 ^ (7 * 10) := wH _ h0
  have : (2 : Nat) ^ 64 < 1 * 2 ^ (7 * 10) := by decide
  omega
 | succ k ih =>
  intro i acc n rest hk ha hn h0
  by_cases hlt : n < 128
  ·rw [qH hlt]
   have e1 : (UInt8.ofNat n).toNat = n := by simp [qD]; omega
   simp only [List.cons_append, List.nil_append, dA, e1]
   rw [aE (by omega), aE, Bj ha, tO hlt, tO hn]
   ·simp
   rintro (⟨h1, h2⟩ | ⟨h1, h2⟩)
   ·omega
   subst h1
   have : 2 * 2 ^ (7 * 9) ≤ n * 2 ^ (7 * 9) := wH _ h2
   have : (2 : Nat) ^ 64 = 2 * 2 ^ (7 * 9) := by decide
   omega
  rw [vC hlt]
  have e1 : (UInt8.ofNat (n % 128 + 128)).toNat = n % 128 + 128 := by simp [qD]; omega
  have e2 : (n % 128 + 128) % 128 = n % 128 := by omega
  have e3 : 2 ^ (7 * (i + 1)) = 128 * 2 ^ (7 * i) := by rw [Nat.mul_succ, Nat.pow_add, mD]
  have e4 : n = 128 * (n / 128) + n % 128 := (Nat.div_add_mod n 128).symm
  have e5 : n * 2 ^ (7 * i) = n / 128 * (128 * 2 ^ (7 * i)) + n % 128 * 2 ^ (7 * i) := by
   conv => lhs; rw [e4]
   rw [yK, mD 128, DF]
  have h7 : n % 128 * 2 ^ (7 * i) ≤ 127 * 2 ^ (7 * i) := wH _ (by omega)
  simp only [List.cons_append, dA, e1, e2]
  rw [aF (by omega), Bj ha, tO (by omega)]
  rw [ih (i + 1) _ (n / 128) rest (by omega) (by rw [e3]; omega) (by rw [e3]; omega) (.inr (by omega)), e3, e5, eG]
  simp only [Prod.mk.injEq, and_true]
  omega
theorem pR {n : Nat} (h : n < 2 ^ 64) (rest : Bs) : cX (aN n ++ rest) = (n, (aN n).length, 0) := by
 have := Kr 10 0 0 n rest rfl (by simp) (by simpa using h) (.inl rfl)
 simpa [cX] using this
theorem sR : ∀ (k i acc : Nat) (b : Bs), acc < 2 ^ 64 → (dA k i acc b).1 < 2 ^ 64 ∧ ((dA k i acc b).2.2 = 0 → i < (dA k i acc b).2.1 ∧ (dA k i acc b).2.1 ≤ i + b.length) ∧ ((dA k i acc b).2.2 ≠ 0 → (dA k i acc b).1 = 0 ∧ (dA k i acc b).2.1 = 0) ∧ ((dA k i acc b).2.2 = 0 ∨ (dA k i acc b).2.2 = 10 ∨ (dA k i acc b).2.2 = 11) := by
 intro k
 induction k with
 | zero => intro i acc b _; simp [dA]
 | succ k ih =>
  intro i acc b ha
  cases b with
  | nil => simp [dA]
  | cons c r =>
   have hm : (acc ||| (c.toNat % 128) <<< (7 * i)) % 2 ^ 64 < 2 ^ 64 := mP _ (by decide)
   have h := ih (i + 1) ((acc ||| (c.toNat % 128) <<< (7 * i)) % 2 ^ 64) r hm
   simp only [dA]
   split
   ·refine ⟨h.1, fun h0 => ?_, h.2.2.1, h.2.2.2⟩
    have h3 := h.2.1 h0
    exact ⟨by omega, by rw [eG]; omega⟩
   split
   ·simp
   exact ⟨hm, fun _ => ⟨DG _, by simp⟩, fun h => absurd rfl h, .inl rfl⟩
theorem Ks (b : Bs) : (cX b).2.1 ≤ b.length := by
 have := sR 10 0 0 b (by decide)
 unfold cX
 by_cases h : (dA 10 0 0 b).2.2 = 0
 ·have := (this.2.1 h).2; omega
 have := (this.2.2.1 h).2; omega
def fN (r : Nat) : Nat := (r >>> 1) ^^^ ((0x82f63b78 * (r &&& 1)) % 2 ^ 32)
def fZ (i : Nat) : Nat := fN (fN (fN (fN i)))
def mF (r : Nat) (c : UInt8) : Nat :=
 let r := r ^^^ c.toNat
 let r := (r >>> 4) ^^^ fZ (r &&& 15)
 (r >>> 4) ^^^ fZ (r &&& 15)
def Kt (b : Bs) : Nat := b.foldl mF 0xffffffff
def jU (b : Bs) : Nat := 0xffffffff ^^^ Kt b
theorem vD {r : Nat} (h : r < 2 ^ 32) : fN r < 2 ^ 32 := by
 unfold fN
 apply wI
 ·rw [tP]; omega
 exact mP _ (by decide)
theorem Eg {r : Nat} (h : r < 2 ^ 32) : fZ r < 2 ^ 32 := vD (vD (vD (vD h)))
theorem Bk (r : Nat) : r &&& 15 < 16 := Nat.lt_of_le_of_lt Nat.and_le_right (by decide)
theorem Bn {r : Nat} (h : r < 2 ^ 32) : (r >>> 4) ^^^ fZ (r &&& 15) < 2 ^ 32 := by
 apply wI
 ·rw [tP]; omega
 exact Eg (yJ (Bk r) (by decide))
theorem Ku {r : Nat} (h : r < 2 ^ 32) (c : UInt8) : mF r c < 2 ^ 32 := by
 unfold mF
 exact Bn (Bn (wI h (yJ c.toNat_lt (by decide))))
theorem Eh : ∀ (b : Bs) (r : Nat), r < 2 ^ 32 → b.foldl mF r < 2 ^ 32
 | [], _, h => h
 | c :: b, _, h => Eh b _ (Ku h c)
theorem yZ (b : Bs) : jU b < 2 ^ 32 := wI (by decide) (Eh b _ (by decide))
def fD (n : Nat) : Bs := [UInt8.ofNat n, UInt8.ofNat (n >>> 8), UInt8.ofNat (n >>> 16), UInt8.ofNat (n >>> 24)]
def lM : Bs → Nat
 | a :: b :: c :: d :: _ => a.toNat ||| b.toNat <<< 8 ||| c.toNat <<< 16 ||| d.toNat <<< 24
 | _ => 0
theorem Kv {n : Nat} (h : n < 2 ^ 32) (r : Bs) : lM (fD n ++ r) = n := by
 simp only [fD, List.cons_append, List.nil_append, lM, qD, tP]
 have e1 : n % 2 ^ 8 ||| (n / 2 ^ 8 % 2 ^ 8) <<< 8 = n % 2 ^ 16 := by
  rw [AR, mO, mD, ← AS (mP _ (by decide))]; omega
 rw [e1]
 have e2 : n % 2 ^ 16 ||| (n / 2 ^ 16 % 2 ^ 8) <<< 16 = n % 2 ^ 24 := by
  rw [AR, mO, mD, ← AS (mP _ (by decide))]; omega
 rw [e2, AR, mO, mD, ← AS (mP _ (by decide))]; omega
def jA (k : UInt8) (d : Bs) : Bs := k :: (aN d.length ++ d)
def cC (k : UInt8) (d : Bs) : Bs := fD (jU (jA k d)) ++ jA k d
def bU (b : Bs) : UInt8 × Bs × Nat × Nat :=
 if b.length < 5 then (0, [], 0, 10)
 else
  let u := cX (b.drop 5)
  if u.2.2 ≠ 0 then (0, [], 0, u.2.2)
  else if 2000 < u.1 then (0, [], 0, 12)
  else if b.length - 5 - u.2.1 < u.1 then (0, [], 0, 10)
  else
   let fin := 5 + u.2.1 + u.1
   if lM b ≠ jU ((b.take fin).drop 4) then (0, [], 0, 11)
   else (b.getD 4 0, (b.take fin).drop (5 + u.2.1), fin, 0)
theorem Ei (k : UInt8) (d r : Bs) (h : d.length ≤ 2000) : bU (cC k d ++ r) = (k, d, (cC k d).length, 0) := by
 have hl : (cC k d ++ r).length = 5 + (aN d.length).length + d.length + r.length := by simp [cC, jA, fD]; omega
 have hd : (cC k d ++ r).drop 5 = aN d.length ++ (d ++ r) := by simp [cC, jA, fD]
 have hu : cX ((cC k d ++ r).drop 5) = (d.length, (aN d.length).length, 0) := by rw [hd]; exact pR (by omega) _
 have hlen : (cC k d).length = 5 + (aN d.length).length + d.length := by simp [cC, jA, fD]; omega
 have ht : (cC k d ++ r).take (5 + (aN d.length).length + d.length) = cC k d := by rw [← hlen, List.take_left']; rfl
 have hr : (cC k d).drop 4 = jA k d := by simp [cC, fD]
 have hs : lM (cC k d ++ r) = jU (jA k d) := by
  unfold cC; rw [eJ]; exact Kv (yZ _) _
 have hg : (cC k d).drop (5 + (aN d.length).length) = d := by
  have : cC k d = (fD (jU (jA k d)) ++ k :: aN d.length) ++ d := by simp [cC, jA]
  rw [this, List.drop_left']
  simp [fD]; omega
 have hk : (cC k d ++ r).getD 4 0 = k := by simp [cC, jA, fD]
 unfold bU
 rw [aE (by rw [hl]; omega)]
 simp only [hu, hl, ht, hr, hs, hg, hk, hlen]
 rw [aE (by simp), aE (by omega), aE (by omega), aE (by simp)]
theorem Ej : (bU (List.replicate 512 0)).2.2.2 = 11 := by
 have e : (List.replicate 512 (0 : UInt8)).drop 5 = aN 0 ++ List.replicate 506 0 := by rw [qH (by omega), JU]; rfl
 have hu : cX ((List.replicate 512 (0 : UInt8)).drop 5) = (0, 1, 0) := by rw [e, pR (by decide), qH (by omega)]; rfl
 have h1 : lM (List.replicate 512 0) = 0 := by
  have : List.replicate 512 (0 : UInt8) = 0 :: 0 :: 0 :: 0 :: List.replicate 508 0 := by rw [← wJ, ← wJ, ← wJ, ← wJ]
  rw [this]; show (0 : UInt8).toNat ||| _ = _; decide
 have h2 : ((List.replicate 512 (0 : UInt8)).take 6).drop 4 = [0, 0] := by rw [List.take_replicate, JU]; rfl
 unfold bU
 simp only [hu, h1, h2, pN]
 rw [aE (by omega), aE (by simp), aE (by omega), aE (by omega), aF (by decide)]
theorem Bo (b : Bs) : (bU b).2.1.length ≤ 2000 := by
 unfold bU
 have hl := Ks (b.drop 5)
 split
 ·simp
 dsimp only
 split
 ·simp
 split
 ·simp
 split
 ·simp
 split
 ·simp
 simp; omega
abbrev eE := UInt8 × Bs
theorem Bp (k : UInt8) (d : Bs) : (cC k d).length = 5 + (aN d.length).length + d.length := by simp [cC, jA, fD]; omega
theorem Ek {k : UInt8} {d : Bs} (h : d.length ≤ 2000) : 6 ≤ (cC k d).length ∧ (cC k d).length ≤ d.length + 7 := by
 rw [Bp]
 have h1 := sQ d.length
 have h2 := mE 1 d.length (by omega)
 omega
theorem mS {b : Bs} (h : (bU b).2.2.2 = 0) : 5 < (bU b).2.2.1 ∧ (bU b).2.2.1 ≤ b.length := by
 have hb := sR 10 0 0 (b.drop 5) (by decide)
 have hl : (b.drop 5).length = b.length - 5 := eD
 unfold bU cX at *
 generalize dA 10 0 0 (b.drop 5) = g at *
 dsimp only at *
 by_cases h1 : b.length < 5
 ·rw [aF h1] at h; cases h
 rw [aE h1] at h ⊢
 by_cases h2 : g.2.2 ≠ 0
 ·rw [aF h2] at h; exact absurd h h2
 rw [aE h2] at h ⊢
 have h3 := hb.2.1 (by simpa using h2)
 by_cases h4 : 2000 < g.1
 ·rw [aF h4] at h; cases h
 rw [aE h4] at h ⊢
 by_cases h5 : b.length - 5 - g.2.1 < g.1
 ·rw [aF h5] at h; cases h
 rw [aE h5] at h ⊢
 split at h
 ·cases h
 rename_i h6
 rw [aE h6]
 dsimp only
 omega
def oQ : Nat → Bs → List eE × Nat
 | 0, _ => ([], 0)
 | k + 1, b => if (bU b).2.2.2 ≠ 0 then ([], 0) else (((bU b).1, (bU b).2.1) :: (oQ k (b.drop (bU b).2.2.1)).1, (bU b).2.2.1 + (oQ k (b.drop (bU b).2.2.1)).2)
theorem Kw (k : Nat) (b : Bs) : oQ (k + 1) b = if (bU b).2.2.2 ≠ 0 then ([], 0) else (((bU b).1, (bU b).2.1) :: (oQ k (b.drop (bU b).2.2.1)).1, (bU b).2.2.1 + (oQ k (b.drop (bU b).2.2.1)).2) := rfl
def cM (b : Bs) : List eE × Nat := oQ b.length b
theorem Kx : ∀ (k j : Nat) (b : Bs), b.length ≤ k → b.length ≤ j → oQ k b = oQ j b := by
 intro k
 induction k with
 | zero =>
  intro j b h1 h2
  cases j with
  | zero => rfl
  | succ j =>
   unfold oQ
   rw [aF fun e => by have := mS e; omega]
 | succ k ih =>
  intro j b h1 h2
  cases j with
  | zero =>
   unfold oQ
   rw [aF fun e => by have := mS e; omega]
  | succ j =>
   unfold oQ
   by_cases he : (bU b).2.2.2 ≠ 0
   ·rw [aF he, aF he]
   rw [aE he, aE he]
   have := mS (by simpa using he)
   rw [ih j (b.drop (bU b).2.2.1) (by rw [eD]; omega) (by rw [eD]; omega)]
theorem qI {b : Bs} (h : (bU b).2.2.2 ≠ 0) : cM b = ([], 0) := by
 unfold cM
 cases hl : b.length with
 | zero => rfl
 | succ k => unfold oQ; rw [aF h]
theorem tX {b : Bs} (h : (bU b).2.2.2 = 0) : cM b = (((bU b).1, (bU b).2.1) :: (cM (b.drop (bU b).2.2.1)).1, (bU b).2.2.1 + (cM (b.drop (bU b).2.2.1)).2) := by
 have hp := mS h
 unfold cM
 cases hl : b.length with
 | zero => omega
 | succ k =>
  have hd : (b.drop (bU b).2.2.1).length ≤ k := by rw [eD]; omega
  rw [Kw, aE (by simpa using h), Kx k _ _ hd (aQ _)]
theorem rP (b : Bs) : (cM b).2 ≤ b.length := by
 suffices ∀ (n : Nat) (b : Bs), b.length ≤ n → (cM b).2 ≤ b.length from this _ b (aQ _)
 intro n
 induction n with
 | zero => intro b h; rw [qI fun e => by have := mS e; omega]; omega
 | succ n ih =>
  intro b h
  by_cases he : (bU b).2.2.2 = 0
  ·rw [tX he]
   have hp := mS he
   have := ih (b.drop (bU b).2.2.1) (by rw [eD]; omega)
   rw [eD] at this
   dsimp only
   omega
  rw [qI he]; omega
theorem El (b : Bs) : ∀ x ∈ (cM b).1, x.2.length ≤ 2000 := by
 suffices ∀ (n : Nat) (b : Bs), b.length ≤ n → ∀ x ∈ (cM b).1, x.2.length ≤ 2000 from this _ b (aQ _)
 intro n
 induction n with
 | zero => intro b h x hx; rw [qI fun e => by have := mS e; omega] at hx; simp at hx
 | succ n ih =>
  intro b h x hx
  by_cases he : (bU b).2.2.2 = 0
  ·rw [tX he] at hx
   have hp := mS he
   rcases aJ.1 hx with rfl | hx
   ·exact Bo b
   exact ih (b.drop (bU b).2.2.1) (by rw [eD]; omega) x hx
  rw [qI he] at hx; simp at hx
theorem vE (b : Bs) : 6 * (cM b).1.length ≤ (cM b).2 := by
 suffices ∀ (n : Nat) (b : Bs), b.length ≤ n → 6 * (cM b).1.length ≤ (cM b).2 from this _ b (aQ _)
 intro n
 induction n with
 | zero => intro b h; rw [qI fun e => by have := mS e; omega]; simp
 | succ n ih =>
  intro b h
  by_cases he : (bU b).2.2.2 = 0
  ·rw [tX he]
   have hp := mS he
   have := ih (b.drop (bU b).2.2.1) (by rw [eD]; omega)
   dsimp only
   rw [eG]
   omega
  rw [qI he]; simp
def bW (n : Nat) : Bs := [115, 101, 103, 46] ++ (if n < 10 then [UInt8.ofNat (48 + n)] else [UInt8.ofNat (48 + n / 10), UInt8.ofNat (48 + n % 10)])
theorem wR (n : Nat) : 1 ≤ (bW n).length ∧ (bW n).length ≤ 6 := by unfold bW; split <;> simp
theorem Bq {a b : Nat} (ha : a < 100) (hb : b < 100) (h : bW a = bW b) : a = b := by
 unfold bW at h
 rw [List.append_cancel_left_eq] at h
 split at h <;> split at h
 ·have := bM UInt8.toNat (List.cons.inj h).1
  simp [qD] at this; omega
 ·cases (List.cons.inj h).2
 ·cases (List.cons.inj h).2
 have h1 := bM UInt8.toNat (List.cons.inj h).1
 have h2 := bM UInt8.toNat (List.cons.inj (List.cons.inj h).2).1
 simp [qD] at h1 h2; omega
def eK (i : Nat) : ByteArray := ⟨(bW i).toArray⟩
theorem jV (i : Nat) : (eK i).data.toList = bW i := rfl
theorem rQ (i : Nat) : (eK i).size ≤ maxLen := by
 have := (wR i).2
 show (bW i).toArray.size ≤ maxLen
 rw [lI]
 unfold maxLen
 omega
theorem Ky (a b : Nat) : fN (a ^^^ b) = fN a ^^^ fN b := by
 have h : ∀ p q : Nat, p < 2 → q < 2 → (0x82f63b78 * (p ^^^ q)) % 2 ^ 32 = ((0x82f63b78 * p) % 2 ^ 32) ^^^ ((0x82f63b78 * q) % 2 ^ 32) := by
  intro p q hp hq
  have h1 : p = 0 ∨ p = 1 := by omega
  have h2 : q = 0 ∨ q = 1 := by omega
  rcases h1 with rfl | rfl <;> rcases h2 with rfl | rfl <;> decide
 have l : ∀ x : Nat, x &&& 1 < 2 := fun x => by rw [JV]; omega
 unfold fN
 rw [Nat.shiftRight_xor_distrib, Nat.and_xor_distrib_right, h _ _ (l a) (l b)]
 generalize (2197175160 * (a &&& 1)) % 2 ^ 32 = p
 generalize (2197175160 * (b &&& 1)) % 2 ^ 32 = q
 rw [DH, DH, ← DH (b >>> 1) p q, Nat.xor_comm (b >>> 1) p, DH]
theorem Kz (y : Nat) : fN (y <<< 1) = y := by
 have h : (y <<< 1) &&& 1 = 0 := by rw [JV, mO]; omega
 unfold fN
 rw [h, Nat.shiftLeft_shiftRight]
 simp
theorem KA (x : Nat) : x = ((((x >>> 4) <<< 1) <<< 1) <<< 1) <<< 1 ^^^ (x &&& 15) := by
 have e : ((((x >>> 4) <<< 1) <<< 1) <<< 1) <<< 1 = (x >>> 4) <<< 4 := by simp only [← Nat.shiftLeft_add]
 rw [e]
 apply Nat.eq_of_testBit_eq
 intro i
 rw [show (15 : Nat) = 2 ^ 4 - 1 from rfl, Nat.testBit_xor, Nat.testBit_shiftLeft, Nat.testBit_shiftRight, Nat.testBit_and, Nat.testBit_two_pow_sub_one]
 by_cases h : i < 4
 ·have : ¬ 4 ≤ i := by omega
  simp [h, this]
 have h2 : 4 ≤ i := by omega
 simp [h, h2]
theorem Em (x : Nat) : fN (fN (fN (fN x))) = (x >>> 4) ^^^ fZ (x &&& 15) := by
 conv => lhs; rw [KA x]
 simp only [Ky, Kz]
 rfl
theorem KB (r : Nat) (c : UInt8) : mF r c = fN (fN (fN (fN (fN (fN (fN (fN (r ^^^ c.toNat)))))))) := by
 rw [Em, Em]; rfl
def wS : Nat → Nat → Nat
 | 0, x => x
 | k + 1, x => fN (wS k x)
theorem KC (r : Nat) (c : UInt8) : mF r c = wS 8 (r ^^^ c.toNat) := KB r c
theorem KD {r : Nat} (h : r < 2 ^ 32) : fN r = if r % 2 = 1 then (r / 2) ^^^ 0x82f63b78 else r / 2 := by
 unfold fN
 rw [JV, tP, Nat.pow_one]
 by_cases h1 : r % 2 = 1
 ·rw [aF h1, h1]
 have h0 : r % 2 = 0 := by omega
 rw [aE h1, h0]
 simp
end Go.Proofs.YtgpefiacbipfpaaGreatDoor
