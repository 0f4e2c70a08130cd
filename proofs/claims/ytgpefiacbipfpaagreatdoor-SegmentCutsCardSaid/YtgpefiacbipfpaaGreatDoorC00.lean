/- The codec in plain words: numbers of seven bits a byte, sums, frames; what is put is what is read. No program in sight. Segment, in plain words: frames as bytes, one behind the other, what is read of bytes, the name of a segment. The document's codec in plain words: a sum bit by bit. The device in plain words: blocks that are safe, and what was written behind that; operations one behind the other; what a crash may leave. No program in sight. -/
import Derived.WalkKit
namespace Go.Proofs.YtgpefiacbipfpaaGreatDoor
abbrev Bs := List UInt8
def putU (n : Nat) : Bs := if h : n < 128 then [UInt8.ofNat n] else UInt8.ofNat (n % 128 + 128) :: putU (n / 128)
 termination_by n
 decreasing_by omega
theorem putU_lt {n : Nat} (h : n < 128) : putU n = [UInt8.ofNat n] := by rw [putU, dif_pos h]
theorem putU_ge {n : Nat} (h : ¬ n < 128) : putU n = UInt8.ofNat (n % 128 + 128) :: putU (n / 128) := by rw [putU, dif_neg h]
theorem putU_len : ∀ (k n : Nat), n < 128 ^ (k + 1) → (putU n).length ≤ k + 1 := by
 intro k
 induction k with
 | zero => intro n h; rw [putU_lt (by simpa using h)]; simp
 | succ k ih =>
  intro n h
  by_cases hn : n < 128
  ·rw [putU_lt hn]; simp
  ·rw [putU_ge hn]
   have : n / 128 < 128 ^ (k + 1) := by
    rw [Nat.div_lt_iff_lt_mul (by omega)]
    rw [Nat.pow_succ] at h
    exact h
   have := ih _ this
   simp; omega
theorem putU_pos (n : Nat) : 1 ≤ (putU n).length := by
 by_cases hn : n < 128
 ·rw [putU_lt hn]; simp
 ·rw [putU_ge hn]; simp
theorem putU_len64 {n : Nat} (h : n < 2 ^ 64) : (putU n).length ≤ 10 := putU_len 9 n (Nat.lt_trans h (by decide))
def getU : Nat → Nat → Nat → Bs → Nat × Nat × Nat
 | 0, _, _, _ => (0, 0, 11)
 | _ + 1, _, _, [] => (0, 0, 10)
 | k + 1, i, acc, c :: r =>
  let acc' := (acc ||| (c.toNat % 128) <<< (7 * i)) % 2 ^ 64
  if 128 ≤ c.toNat then getU k (i + 1) acc' r
  else if (0 < i ∧ c.toNat = 0) ∨ (i = 9 ∧ 1 < c.toNat) then (0, 0, 11)
  else (acc', i + 1, 0)
def getUint (b : Bs) : Nat × Nat × Nat := getU 10 0 0 b
theorem or_add {i acc c : Nat} (h : acc < 2 ^ (7 * i)) : acc ||| c <<< (7 * i) = acc + c * 2 ^ (7 * i) := by
 rw [Nat.or_comm, Nat.shiftLeft_eq, Nat.mul_comm c, ← Nat.two_pow_add_eq_or_of_lt h, Nat.add_comm, Nat.mul_comm]
theorem getU_putU : ∀ (k i acc n : Nat) (rest : Bs), k + i = 10 → acc < 2 ^ (7 * i) → acc + n * 2 ^ (7 * i) < 2 ^ 64 → (i = 0 ∨ 0 < n) →
  getU k i acc (putU n ++ rest) = (acc + n * 2 ^ (7 * i), i + (putU n).length, 0) := by
 intro k
 induction k with
 | zero =>
  intro i acc n rest hk ha hn h0
  obtain rfl : i = 10 := by omega
  exfalso
  rcases h0 with h0 | h0
  ·omega
  ·have : 1 * 2 ^ (7 * 10) ≤ n * 2 ^ (7 * 10) := Nat.mul_le_mul_right _ h0
   have : (2 : Nat) ^ 64 < 1 * 2 ^ (7 * 10) := by decide
   omega
 | succ k ih =>
  intro i acc n rest hk ha hn h0
  by_cases hlt : n < 128
  ·rw [putU_lt hlt]
   have e1 : (UInt8.ofNat n).toNat = n := by simp [UInt8.toNat_ofNat']; omega
   simp only [List.cons_append, List.nil_append, getU, e1]
   rw [if_neg (by omega), if_neg, or_add ha, Nat.mod_eq_of_lt hlt, Nat.mod_eq_of_lt hn]
   ·simp
   ·rintro (⟨h1, h2⟩ | ⟨h1, h2⟩)
    ·omega
    ·subst h1
     have : 2 * 2 ^ (7 * 9) ≤ n * 2 ^ (7 * 9) := Nat.mul_le_mul_right _ h2
     have : (2 : Nat) ^ 64 = 2 * 2 ^ (7 * 9) := by decide
     omega
  ·rw [putU_ge hlt]
   have e1 : (UInt8.ofNat (n % 128 + 128)).toNat = n % 128 + 128 := by simp [UInt8.toNat_ofNat']; omega
   have e2 : (n % 128 + 128) % 128 = n % 128 := by omega
   have e3 : 2 ^ (7 * (i + 1)) = 128 * 2 ^ (7 * i) := by rw [Nat.mul_succ, Nat.pow_add, Nat.mul_comm]
   have e4 : n = 128 * (n / 128) + n % 128 := (Nat.div_add_mod n 128).symm
   have e5 : n * 2 ^ (7 * i) = n / 128 * (128 * 2 ^ (7 * i)) + n % 128 * 2 ^ (7 * i) := by
    conv => lhs; rw [e4]
    rw [Nat.add_mul, Nat.mul_comm 128, Nat.mul_assoc]
   have h7 : n % 128 * 2 ^ (7 * i) ≤ 127 * 2 ^ (7 * i) := Nat.mul_le_mul_right _ (by omega)
   simp only [List.cons_append, getU, e1, e2]
   rw [if_pos (by omega), or_add ha, Nat.mod_eq_of_lt (by omega)]
   rw [ih (i + 1) _ (n / 128) rest (by omega) (by rw [e3]; omega) (by rw [e3]; omega) (.inr (by omega)), e3, e5, List.length_cons]
   simp only [Prod.mk.injEq, and_true]
   omega
theorem getUint_putU {n : Nat} (h : n < 2 ^ 64) (rest : Bs) : getUint (putU n ++ rest) = (n, (putU n).length, 0) := by
 have := getU_putU 10 0 0 n rest rfl (by simp) (by simpa using h) (.inl rfl)
 simpa [getUint] using this
theorem getU_bounds : ∀ (k i acc : Nat) (b : Bs), acc < 2 ^ 64 → (getU k i acc b).1 < 2 ^ 64 ∧ ((getU k i acc b).2.2 = 0 → i < (getU k i acc b).2.1 ∧ (getU k i acc b).2.1 ≤ i + b.length) ∧ ((getU k i acc b).2.2 ≠ 0 → (getU k i acc b).1 = 0 ∧ (getU k i acc b).2.1 = 0) ∧ ((getU k i acc b).2.2 = 0 ∨ (getU k i acc b).2.2 = 10 ∨ (getU k i acc b).2.2 = 11) := by
 intro k
 induction k with
 | zero => intro i acc b _; simp [getU]
 | succ k ih =>
  intro i acc b ha
  cases b with
  | nil => simp [getU]
  | cons c r =>
   have hm : (acc ||| (c.toNat % 128) <<< (7 * i)) % 2 ^ 64 < 2 ^ 64 := Nat.mod_lt _ (by decide)
   have h := ih (i + 1) ((acc ||| (c.toNat % 128) <<< (7 * i)) % 2 ^ 64) r hm
   simp only [getU]
   split
   ·refine ⟨h.1, fun h0 => ?_, h.2.2.1, h.2.2.2⟩
    have h3 := h.2.1 h0
    exact ⟨by omega, by rw [List.length_cons]; omega⟩
   ·split
    ·simp
    ·exact ⟨hm, fun _ => ⟨Nat.lt_succ_self _, by simp⟩, fun h => absurd rfl h, .inl rfl⟩
theorem getUint_le (b : Bs) : (getUint b).2.1 ≤ b.length := by
 have := getU_bounds 10 0 0 b (by decide)
 unfold getUint
 by_cases h : (getU 10 0 0 b).2.2 = 0
 ·have := (this.2.1 h).2; omega
 ·have := (this.2.2.1 h).2; omega
def crcStep (r : Nat) : Nat := (r >>> 1) ^^^ ((0x82f63b78 * (r &&& 1)) % 2 ^ 32)
def crcTab (i : Nat) : Nat := crcStep (crcStep (crcStep (crcStep i)))
def crcByte (r : Nat) (c : UInt8) : Nat :=
 let r := r ^^^ c.toNat
 let r := (r >>> 4) ^^^ crcTab (r &&& 15)
 (r >>> 4) ^^^ crcTab (r &&& 15)
def crcAll (b : Bs) : Nat := b.foldl crcByte 0xffffffff
def sumB (b : Bs) : Nat := 0xffffffff ^^^ crcAll b
theorem crcStep_lt {r : Nat} (h : r < 2 ^ 32) : crcStep r < 2 ^ 32 := by
 unfold crcStep
 apply Nat.xor_lt_two_pow
 ·rw [Nat.shiftRight_eq_div_pow]; omega
 ·exact Nat.mod_lt _ (by decide)
theorem crcTab_lt {r : Nat} (h : r < 2 ^ 32) : crcTab r < 2 ^ 32 := crcStep_lt (crcStep_lt (crcStep_lt (crcStep_lt h)))
theorem and15_lt (r : Nat) : r &&& 15 < 16 := Nat.lt_of_le_of_lt Nat.and_le_right (by decide)
theorem crcHalf_lt {r : Nat} (h : r < 2 ^ 32) : (r >>> 4) ^^^ crcTab (r &&& 15) < 2 ^ 32 := by
 apply Nat.xor_lt_two_pow
 ·rw [Nat.shiftRight_eq_div_pow]; omega
 ·exact crcTab_lt (Nat.lt_trans (and15_lt r) (by decide))
theorem crcByte_lt {r : Nat} (h : r < 2 ^ 32) (c : UInt8) : crcByte r c < 2 ^ 32 := by
 unfold crcByte
 exact crcHalf_lt (crcHalf_lt (Nat.xor_lt_two_pow h (Nat.lt_trans c.toNat_lt (by decide))))
theorem crcFold_lt : ∀ (b : Bs) (r : Nat), r < 2 ^ 32 → b.foldl crcByte r < 2 ^ 32
 | [], _, h => h
 | c :: b, _, h => crcFold_lt b _ (crcByte_lt h c)
theorem sumB_lt (b : Bs) : sumB b < 2 ^ 32 := Nat.xor_lt_two_pow (by decide) (crcFold_lt b _ (by decide))
def put32 (n : Nat) : Bs := [UInt8.ofNat n, UInt8.ofNat (n >>> 8), UInt8.ofNat (n >>> 16), UInt8.ofNat (n >>> 24)]
def get32 : Bs → Nat
 | a :: b :: c :: d :: _ => a.toNat ||| b.toNat <<< 8 ||| c.toNat <<< 16 ||| d.toNat <<< 24
 | _ => 0
theorem get32_put32 {n : Nat} (h : n < 2 ^ 32) (r : Bs) : get32 (put32 n ++ r) = n := by
 simp only [put32, List.cons_append, List.nil_append, get32, UInt8.toNat_ofNat', Nat.shiftRight_eq_div_pow]
 have e1 : n % 2 ^ 8 ||| (n / 2 ^ 8 % 2 ^ 8) <<< 8 = n % 2 ^ 16 := by
  rw [Nat.or_comm, Nat.shiftLeft_eq, Nat.mul_comm, ← Nat.two_pow_add_eq_or_of_lt (Nat.mod_lt _ (by decide))]; omega
 rw [e1]
 have e2 : n % 2 ^ 16 ||| (n / 2 ^ 16 % 2 ^ 8) <<< 16 = n % 2 ^ 24 := by
  rw [Nat.or_comm, Nat.shiftLeft_eq, Nat.mul_comm, ← Nat.two_pow_add_eq_or_of_lt (Nat.mod_lt _ (by decide))]; omega
 rw [e2, Nat.or_comm, Nat.shiftLeft_eq, Nat.mul_comm, ← Nat.two_pow_add_eq_or_of_lt (Nat.mod_lt _ (by decide))]; omega
def frameRest (k : UInt8) (d : Bs) : Bs := k :: (putU d.length ++ d)
def putFrame (k : UInt8) (d : Bs) : Bs := put32 (sumB (frameRest k d)) ++ frameRest k d
def getFrame (b : Bs) : UInt8 × Bs × Nat × Nat :=
 if b.length < 5 then (0, [], 0, 10)
 else
  let u := getUint (b.drop 5)
  if u.2.2 ≠ 0 then (0, [], 0, u.2.2)
  else if 2000 < u.1 then (0, [], 0, 12)
  else if b.length - 5 - u.2.1 < u.1 then (0, [], 0, 10)
  else
   let fin := 5 + u.2.1 + u.1
   if get32 b ≠ sumB ((b.take fin).drop 4) then (0, [], 0, 11)
   else (b.getD 4 0, (b.take fin).drop (5 + u.2.1), fin, 0)
theorem getFrame_putFrame (k : UInt8) (d r : Bs) (h : d.length ≤ 2000) : getFrame (putFrame k d ++ r) = (k, d, (putFrame k d).length, 0) := by
 have hl : (putFrame k d ++ r).length = 5 + (putU d.length).length + d.length + r.length := by simp [putFrame, frameRest, put32]; omega
 have hd : (putFrame k d ++ r).drop 5 = putU d.length ++ (d ++ r) := by simp [putFrame, frameRest, put32]
 have hu : getUint ((putFrame k d ++ r).drop 5) = (d.length, (putU d.length).length, 0) := by rw [hd]; exact getUint_putU (by omega) _
 have hlen : (putFrame k d).length = 5 + (putU d.length).length + d.length := by simp [putFrame, frameRest, put32]; omega
 have ht : (putFrame k d ++ r).take (5 + (putU d.length).length + d.length) = putFrame k d := by rw [← hlen, List.take_left']; rfl
 have hr : (putFrame k d).drop 4 = frameRest k d := by simp [putFrame, put32]
 have hs : get32 (putFrame k d ++ r) = sumB (frameRest k d) := by
  unfold putFrame; rw [List.append_assoc]; exact get32_put32 (sumB_lt _) _
 have hg : (putFrame k d).drop (5 + (putU d.length).length) = d := by
  have : putFrame k d = (put32 (sumB (frameRest k d)) ++ k :: putU d.length) ++ d := by simp [putFrame, frameRest]
  rw [this, List.drop_left']
  simp [put32]; omega
 have hk : (putFrame k d ++ r).getD 4 0 = k := by simp [putFrame, frameRest, put32]
 unfold getFrame
 rw [if_neg (by rw [hl]; omega)]
 simp only [hu, hl, ht, hr, hs, hg, hk, hlen]
 rw [if_neg (by simp), if_neg (by omega), if_neg (by omega), if_neg (by simp)]
theorem getFrame_noughts : (getFrame (List.replicate 512 0)).2.2.2 = 11 := by
 have e : (List.replicate 512 (0 : UInt8)).drop 5 = putU 0 ++ List.replicate 506 0 := by rw [putU_lt (by omega), List.drop_replicate]; rfl
 have hu : getUint ((List.replicate 512 (0 : UInt8)).drop 5) = (0, 1, 0) := by rw [e, getUint_putU (by decide), putU_lt (by omega)]; rfl
 have h1 : get32 (List.replicate 512 0) = 0 := by
  have : List.replicate 512 (0 : UInt8) = 0 :: 0 :: 0 :: 0 :: List.replicate 508 0 := by rw [← List.replicate_succ, ← List.replicate_succ, ← List.replicate_succ, ← List.replicate_succ]
  rw [this]; show (0 : UInt8).toNat ||| _ = _; decide
 have h2 : ((List.replicate 512 (0 : UInt8)).take 6).drop 4 = [0, 0] := by rw [List.take_replicate, List.drop_replicate]; rfl
 unfold getFrame
 simp only [hu, h1, h2, List.length_replicate]
 rw [if_neg (by omega), if_neg (by simp), if_neg (by omega), if_neg (by omega), if_pos (by decide)]
theorem getFrame_le (b : Bs) : (getFrame b).2.1.length ≤ 2000 := by
 unfold getFrame
 have hl := getUint_le (b.drop 5)
 split
 ·simp
 ·dsimp only
  split
  ·simp
  ·split
   ·simp
   ·split
    ·simp
    ·split
     ·simp
     ·simp; omega
end Go.Proofs.YtgpefiacbipfpaaGreatDoor

namespace Go.Proofs.YtgpefiacbipfpaaGreatDoor
abbrev Frm := UInt8 × Bs
def encF (l : List Frm) : Bs := l.flatMap fun x => putFrame x.1 x.2
theorem encF_nil : encF [] = [] := rfl
theorem encF_cons (x : Frm) (l : List Frm) : encF (x :: l) = putFrame x.1 x.2 ++ encF l := rfl
theorem encF_app (l r : List Frm) : encF (l ++ r) = encF l ++ encF r := by unfold encF; rw [List.flatMap_append]
theorem encF_one (x : Frm) : encF [x] = putFrame x.1 x.2 := by rw [encF_cons, encF_nil, List.append_nil]
theorem putFrame_len (k : UInt8) (d : Bs) : (putFrame k d).length = 5 + (putU d.length).length + d.length := by simp [putFrame, frameRest, put32]; omega
theorem putFrame_le {k : UInt8} {d : Bs} (h : d.length ≤ 2000) : 6 ≤ (putFrame k d).length ∧ (putFrame k d).length ≤ d.length + 7 := by
 rw [putFrame_len]
 have h1 := putU_pos d.length
 have h2 := putU_len 1 d.length (by omega)
 omega
theorem getFrame_pos {b : Bs} (h : (getFrame b).2.2.2 = 0) : 5 < (getFrame b).2.2.1 ∧ (getFrame b).2.2.1 ≤ b.length := by
 have hb := getU_bounds 10 0 0 (b.drop 5) (by decide)
 have hl : (b.drop 5).length = b.length - 5 := List.length_drop
 unfold getFrame getUint at *
 generalize getU 10 0 0 (b.drop 5) = g at *
 dsimp only at *
 by_cases h1 : b.length < 5
 ·rw [if_pos h1] at h; cases h
 ·rw [if_neg h1] at h ⊢
  by_cases h2 : g.2.2 ≠ 0
  ·rw [if_pos h2] at h; exact absurd h h2
  ·rw [if_neg h2] at h ⊢
   have h3 := hb.2.1 (by simpa using h2)
   by_cases h4 : 2000 < g.1
   ·rw [if_pos h4] at h; cases h
   ·rw [if_neg h4] at h ⊢
    by_cases h5 : b.length - 5 - g.2.1 < g.1
    ·rw [if_pos h5] at h; cases h
    ·rw [if_neg h5] at h ⊢
     split at h
     ·cases h
     ·rename_i h6
      rw [if_neg h6]
      dsimp only
      omega
def scanN : Nat → Bs → List Frm × Nat
 | 0, _ => ([], 0)
 | k + 1, b => if (getFrame b).2.2.2 ≠ 0 then ([], 0) else (((getFrame b).1, (getFrame b).2.1) :: (scanN k (b.drop (getFrame b).2.2.1)).1, (getFrame b).2.2.1 + (scanN k (b.drop (getFrame b).2.2.1)).2)
theorem scanN_succ (k : Nat) (b : Bs) : scanN (k + 1) b = if (getFrame b).2.2.2 ≠ 0 then ([], 0) else (((getFrame b).1, (getFrame b).2.1) :: (scanN k (b.drop (getFrame b).2.2.1)).1, (getFrame b).2.2.1 + (scanN k (b.drop (getFrame b).2.2.1)).2) := rfl
def scanB (b : Bs) : List Frm × Nat := scanN b.length b
theorem scanN_same : ∀ (k j : Nat) (b : Bs), b.length ≤ k → b.length ≤ j → scanN k b = scanN j b := by
 intro k
 induction k with
 | zero =>
  intro j b h1 h2
  cases j with
  | zero => rfl
  | succ j =>
   unfold scanN
   rw [if_pos fun e => by have := getFrame_pos e; omega]
 | succ k ih =>
  intro j b h1 h2
  cases j with
  | zero =>
   unfold scanN
   rw [if_pos fun e => by have := getFrame_pos e; omega]
  | succ j =>
   unfold scanN
   by_cases he : (getFrame b).2.2.2 ≠ 0
   ·rw [if_pos he, if_pos he]
   ·rw [if_neg he, if_neg he]
    have := getFrame_pos (by simpa using he)
    rw [ih j (b.drop (getFrame b).2.2.1) (by rw [List.length_drop]; omega) (by rw [List.length_drop]; omega)]
theorem scanB_stop {b : Bs} (h : (getFrame b).2.2.2 ≠ 0) : scanB b = ([], 0) := by
 unfold scanB
 cases hl : b.length with
 | zero => rfl
 | succ k => unfold scanN; rw [if_pos h]
theorem scanB_step {b : Bs} (h : (getFrame b).2.2.2 = 0) : scanB b = (((getFrame b).1, (getFrame b).2.1) :: (scanB (b.drop (getFrame b).2.2.1)).1, (getFrame b).2.2.1 + (scanB (b.drop (getFrame b).2.2.1)).2) := by
 have hp := getFrame_pos h
 unfold scanB
 cases hl : b.length with
 | zero => omega
 | succ k =>
  have hd : (b.drop (getFrame b).2.2.1).length ≤ k := by rw [List.length_drop]; omega
  rw [scanN_succ, if_neg (by simpa using h), scanN_same k _ _ hd (Nat.le_refl _)]
theorem scanB_le (b : Bs) : (scanB b).2 ≤ b.length := by
 suffices ∀ (n : Nat) (b : Bs), b.length ≤ n → (scanB b).2 ≤ b.length from this _ b (Nat.le_refl _)
 intro n
 induction n with
 | zero => intro b h; rw [scanB_stop fun e => by have := getFrame_pos e; omega]; omega
 | succ n ih =>
  intro b h
  by_cases he : (getFrame b).2.2.2 = 0
  ·rw [scanB_step he]
   have hp := getFrame_pos he
   have := ih (b.drop (getFrame b).2.2.1) (by rw [List.length_drop]; omega)
   rw [List.length_drop] at this
   dsimp only
   omega
  ·rw [scanB_stop he]; omega
theorem scanB_few (b : Bs) : 6 * (scanB b).1.length ≤ (scanB b).2 := by
 suffices ∀ (n : Nat) (b : Bs), b.length ≤ n → 6 * (scanB b).1.length ≤ (scanB b).2 from this _ b (Nat.le_refl _)
 intro n
 induction n with
 | zero => intro b h; rw [scanB_stop fun e => by have := getFrame_pos e; omega]; simp
 | succ n ih =>
  intro b h
  by_cases he : (getFrame b).2.2.2 = 0
  ·rw [scanB_step he]
   have hp := getFrame_pos he
   have := ih (b.drop (getFrame b).2.2.1) (by rw [List.length_drop]; omega)
   dsimp only
   rw [List.length_cons]
   omega
  ·rw [scanB_stop he]; simp
theorem getU_cut : ∀ (k i acc n j : Nat), j < (putU n).length → (getU k i acc ((putU n).take j)).2.2 ≠ 0 := by
 intro k
 induction k with
 | zero => intro i acc n j _; simp [getU]
 | succ k ih =>
  intro i acc n j hj
  cases j with
  | zero => simp [getU]
  | succ j =>
   by_cases hn : n < 128
   ·rw [putU_lt hn] at hj; simp at hj
   ·rw [putU_ge hn] at hj ⊢
    have e1 : (UInt8.ofNat (n % 128 + 128)).toNat = n % 128 + 128 := by simp [UInt8.toNat_ofNat']; omega
    simp only [List.take_succ_cons, getU, e1]
    rw [if_pos (by omega)]
    exact ih _ _ _ _ (by simpa using hj)
theorem getFrame_cut (k : UInt8) (d : Bs) (m : Nat) (hm : m < (putFrame k d).length) (h : d.length ≤ 2000) : (getFrame ((putFrame k d).take m)).2.2.2 ≠ 0 := by
 have hlen := putFrame_len k d
 have hl : ((putFrame k d).take m).length = m := by rw [List.length_take]; omega
 unfold getFrame
 rw [hl]
 by_cases h5 : m < 5
 ·rw [if_pos h5]; decide
 ·rw [if_neg h5]
  have hd : ((putFrame k d).take m).drop 5 = (putU d.length ++ d).take (m - 5) := by
   rw [List.drop_take]
   congr 1
  rw [hd]
  dsimp only
  by_cases hu : m - 5 < (putU d.length).length
  ·rw [List.take_append_of_le_length (by omega)]
   have := getU_cut 10 0 0 d.length (m - 5) hu
   unfold getUint
   rw [if_pos this]
   exact this
  ·rw [List.take_append, List.take_of_length_le (by omega), getUint_putU (by omega)]
   dsimp only
   rw [if_neg (by simp), if_neg (by omega), if_pos (by omega)]
   decide
def wholeF (l : List Frm) (cut : Nat) : Nat :=
 match l with
 | [] => 0
 | x :: l => if (putFrame x.1 x.2).length ≤ cut then wholeF l (cut - (putFrame x.1 x.2).length) + 1 else 0
theorem wholeF_le (l : List Frm) : ∀ cut, wholeF l cut ≤ l.length := by
 induction l with
 | nil => intro cut; simp [wholeF]
 | cons x l ih => intro cut; unfold wholeF; split; · have := ih (cut - (putFrame x.1 x.2).length); simp; omega
                  ·simp
theorem scan_cut (l : List Frm) (h : ∀ x ∈ l, x.2.length ≤ 2000) : ∀ cut, scanB ((encF l).take cut) = (l.take (wholeF l cut), (encF (l.take (wholeF l cut))).length) := by
 induction l with
 | nil => intro cut; rw [encF_nil, List.take_nil, scanB_stop (by decide)]; simp [wholeF, encF_nil]
 | cons x l ih =>
  intro cut
  have hx := h x (by simp)
  by_cases hc : (putFrame x.1 x.2).length ≤ cut
  ·have e : wholeF (x :: l) cut = wholeF l (cut - (putFrame x.1 x.2).length) + 1 := by rw [wholeF, if_pos hc]
   have hg := getFrame_putFrame x.1 x.2 ((encF l).take (cut - (putFrame x.1 x.2).length)) hx
   rw [e, encF_cons, List.take_append, List.take_of_length_le hc, scanB_step (by rw [hg]), hg]
   dsimp only
   rw [List.drop_left, ih fun y hy => h y (List.mem_cons_of_mem _ hy)]
   simp only [List.take_succ_cons, encF_cons, List.length_append]
  ·have e : wholeF (x :: l) cut = 0 := by rw [wholeF, if_neg hc]
   rw [e, encF_cons, List.take_append_of_le_length (by omega), scanB_stop (getFrame_cut _ _ _ (by omega) hx)]
   rfl
theorem wholeF_next {l : List Frm} {cut i : Nat} (hi : i < l.length) : (i < wholeF l cut ↔ (encF (l.take (i + 1))).length ≤ cut) := by
 induction l generalizing cut i with
 | nil => simp at hi
 | cons x l ih =>
  rw [List.take_succ_cons, encF_cons, List.length_append]
  unfold wholeF
  by_cases hc : (putFrame x.1 x.2).length ≤ cut
  ·rw [if_pos hc]
   cases i with
   | zero => simp only [List.take_zero, encF_nil, List.length_nil]; omega
   | succ i =>
    have := ih (cut := cut - (putFrame x.1 x.2).length) (i := i) (by simpa using hi)
    constructor
    ·intro q; have := this.1 (by omega); omega
    ·intro q; have := this.2 (by omega); omega
  ·rw [if_neg hc]; omega
def nameS (n : Nat) : Bs := [115, 101, 103, 46] ++ (if n < 10 then [UInt8.ofNat (48 + n)] else [UInt8.ofNat (48 + n / 10), UInt8.ofNat (48 + n % 10)])
theorem nameS_len (n : Nat) : 1 ≤ (nameS n).length ∧ (nameS n).length ≤ 6 := by unfold nameS; split <;> simp
theorem nameS_inj {a b : Nat} (ha : a < 100) (hb : b < 100) (h : nameS a = nameS b) : a = b := by
 unfold nameS at h
 rw [List.append_cancel_left_eq] at h
 split at h <;> split at h
 ·have := congrArg UInt8.toNat (List.cons.inj h).1
  simp [UInt8.toNat_ofNat'] at this; omega
 ·cases (List.cons.inj h).2
 ·cases (List.cons.inj h).2
 ·have h1 := congrArg UInt8.toNat (List.cons.inj h).1
  have h2 := congrArg UInt8.toNat (List.cons.inj (List.cons.inj h).2).1
  simp [UInt8.toNat_ofNat'] at h1 h2; omega
def nmS (i : Nat) : ByteArray := ⟨(nameS i).toArray⟩
theorem nmS_list (i : Nat) : (nmS i).data.toList = nameS i := rfl
theorem nmS_size (i : Nat) : (nmS i).size ≤ maxLen := by
 have := (nameS_len i).2
 show (nameS i).toArray.size ≤ maxLen
 rw [List.size_toArray]
 unfold maxLen
 omega
end Go.Proofs.YtgpefiacbipfpaaGreatDoor

namespace Go.Proofs.YtgpefiacbipfpaaGreatDoor
theorem crcStep_xor (a b : Nat) : crcStep (a ^^^ b) = crcStep a ^^^ crcStep b := by
 have h : ∀ p q : Nat, p < 2 → q < 2 → (0x82f63b78 * (p ^^^ q)) % 2 ^ 32 = ((0x82f63b78 * p) % 2 ^ 32) ^^^ ((0x82f63b78 * q) % 2 ^ 32) := by
  intro p q hp hq
  have h1 : p = 0 ∨ p = 1 := by omega
  have h2 : q = 0 ∨ q = 1 := by omega
  rcases h1 with rfl | rfl <;> rcases h2 with rfl | rfl <;> decide
 have l : ∀ x : Nat, x &&& 1 < 2 := fun x => by rw [Nat.and_one_is_mod]; omega
 unfold crcStep
 rw [Nat.shiftRight_xor_distrib, Nat.and_xor_distrib_right, h _ _ (l a) (l b)]
 generalize (2197175160 * (a &&& 1)) % 2 ^ 32 = p
 generalize (2197175160 * (b &&& 1)) % 2 ^ 32 = q
 rw [Nat.xor_assoc, Nat.xor_assoc, ← Nat.xor_assoc (b >>> 1) p q, Nat.xor_comm (b >>> 1) p, Nat.xor_assoc]
theorem crcStep_shl (y : Nat) : crcStep (y <<< 1) = y := by
 have h : (y <<< 1) &&& 1 = 0 := by rw [Nat.and_one_is_mod, Nat.shiftLeft_eq]; omega
 unfold crcStep
 rw [h, Nat.shiftLeft_shiftRight]
 simp
theorem split4 (x : Nat) : x = ((((x >>> 4) <<< 1) <<< 1) <<< 1) <<< 1 ^^^ (x &&& 15) := by
 have e : ((((x >>> 4) <<< 1) <<< 1) <<< 1) <<< 1 = (x >>> 4) <<< 4 := by simp only [← Nat.shiftLeft_add]
 rw [e]
 apply Nat.eq_of_testBit_eq
 intro i
 rw [show (15 : Nat) = 2 ^ 4 - 1 from rfl, Nat.testBit_xor, Nat.testBit_shiftLeft, Nat.testBit_shiftRight, Nat.testBit_and, Nat.testBit_two_pow_sub_one]
 by_cases h : i < 4
 ·have : ¬ 4 ≤ i := by omega
  simp [h, this]
 ·have h2 : 4 ≤ i := by omega
  simp [h, h2]
theorem crcHalf_steps (x : Nat) : crcStep (crcStep (crcStep (crcStep x))) = (x >>> 4) ^^^ crcTab (x &&& 15) := by
 conv => lhs; rw [split4 x]
 simp only [crcStep_xor, crcStep_shl]
 rfl
theorem crcByte_steps (r : Nat) (c : UInt8) : crcByte r c = crcStep (crcStep (crcStep (crcStep (crcStep (crcStep (crcStep (crcStep (r ^^^ c.toNat)))))))) := by
 rw [crcHalf_steps, crcHalf_steps]; rfl
def stepsN : Nat → Nat → Nat
 | 0, x => x
 | k + 1, x => crcStep (stepsN k x)
theorem crcByte_eight (r : Nat) (c : UInt8) : crcByte r c = stepsN 8 (r ^^^ c.toNat) := crcByte_steps r c
theorem crcStep_bit {r : Nat} (h : r < 2 ^ 32) : crcStep r = if r % 2 = 1 then (r / 2) ^^^ 0x82f63b78 else r / 2 := by
 unfold crcStep
 rw [Nat.and_one_is_mod, Nat.shiftRight_eq_div_pow, Nat.pow_one]
 by_cases h1 : r % 2 = 1
 ·rw [if_pos h1, h1]
 ·have h0 : r % 2 = 0 := by omega
  rw [if_neg h1, h0]
  simp
theorem put32_digits (n : Nat) : put32 n = [UInt8.ofNat (n % 256), UInt8.ofNat (n / 256 % 256), UInt8.ofNat (n / 256 / 256 % 256), UInt8.ofNat (n / 256 / 256 / 256 % 256)] := by
 have e : ∀ m : Nat, UInt8.ofNat m = UInt8.ofNat (m % 256) := fun m => UInt8.toNat_inj.1 (by simp [UInt8.toNat_ofNat'])
 unfold put32
 rw [Nat.shiftRight_eq_div_pow, Nat.shiftRight_eq_div_pow, Nat.shiftRight_eq_div_pow, Nat.div_div_eq_div_mul, Nat.div_div_eq_div_mul, ← e, ← e, ← e, ← e]
end Go.Proofs.YtgpefiacbipfpaaGreatDoor

namespace Go.Proofs.YtgpefiacbipfpaaGreatDoor
structure Cell where
 safe : Bs
 pend : List Bs
def Cell.view (c : Cell) : Bs := c.pend.getLast?.getD c.safe
def Cell.poss (c : Cell) : List Bs := c.safe :: c.pend
def Cell.push (c : Cell) (b : Bs) : Cell := ⟨c.safe, c.pend ++ [b]⟩
def Cell.flush (c : Cell) : Cell := ⟨c.view, []⟩
theorem Cell.view_push (c : Cell) (b : Bs) : (c.push b).view = b := by simp [Cell.view, Cell.push]
theorem Cell.view_mem (c : Cell) : c.view ∈ c.poss := by
 unfold Cell.view Cell.poss
 cases h : c.pend.getLast? with
 | none => simp
 | some b => simp [List.mem_of_getLast? h]
inductive DOp where
 | write (n : Nat) (b : Bs)
 | flush
def exec1 (l : Nat → Cell) : DOp → Nat → Cell
 | .write n b => fun m => if m = n then (l m).push b else l m
 | .flush => fun m => (l m).flush
def exec (t : List DOp) (l : Nat → Cell) : Nat → Cell := t.foldl exec1 l
theorem exec_nil (l : Nat → Cell) : exec [] l = l := rfl
theorem exec_cons (o : DOp) (t : List DOp) (l : Nat → Cell) : exec (o :: t) l = exec t (exec1 l o) := rfl
theorem exec_app (a b : List DOp) (l : Nat → Cell) : exec (a ++ b) l = exec b (exec a l) := List.foldl_append ..
structure Dev where
 n : Nat
 blk : Nat → Cell
 fuse : Int
 down : Bool
 wr : Nat
structure Eff (t : List DOp) (D : Dev) (e : Nat) (D' : Dev) : Prop where
 n : D'.n = D.n
 wr : D'.wr ≤ D.wr + t.length
 out : (e = 0 ∧ D.down = false ∧ D'.down = false ∧ (D.fuse < 0 → D'.fuse < 0) ∧ D'.blk = exec t D.blk) ∨
  (e = 2 ∧ (D.down = false → 0 ≤ D.fuse) ∧ D'.down = true ∧ ∃ p q, t = p ++ q ∧ D'.blk = exec p D.blk)
theorem Eff.refl {D : Dev} (h : D.down = false) : Eff [] D 0 D := ⟨rfl, Nat.le_refl _, .inl ⟨rfl, h, h, id, rfl⟩⟩
theorem Eff.next {a b : List DOp} {D D1 D2 : Dev} {e : Nat} (h : Eff a D 0 D1) (g : Eff b D1 e D2) : Eff (a ++ b) D e D2 := by
 obtain ⟨n1, w1, h⟩ := h
 obtain ⟨n2, w2, g⟩ := g
 refine ⟨n2.trans n1, by rw [List.length_append]; omega, ?_⟩
 rcases h with ⟨-, h1, h2, h3, h4⟩ | ⟨h, -⟩
 ·rcases g with ⟨g0, g1, g2, g3, g4⟩ | ⟨g0, g1, g2, p, q, g3, g4⟩
  ·exact .inl ⟨g0, h1, g2, fun q => g3 (h3 q), by rw [g4, h4, exec_app]⟩
  ·refine .inr ⟨g0, fun q => ?_, g2, a ++ p, q, by rw [g3, List.append_assoc], by rw [g4, h4, exec_app]⟩
   rcases Int.lt_or_le D.fuse 0 with hf | hf
   ·have := h3 hf; have := g1 h2; omega
   ·exact hf
 ·cases h
theorem Eff.stop {a : List DOp} (b : List DOp) {D D1 : Dev} {e : Nat} (h : Eff a D e D1) (he : e ≠ 0) : Eff (a ++ b) D e D1 := by
 obtain ⟨n1, w1, h⟩ := h
 refine ⟨n1, by rw [List.length_append]; omega, ?_⟩
 rcases h with ⟨h, -⟩ | ⟨h0, h1, h2, p, q, h3, h4⟩
 ·exact absurd h he
 ·exact .inr ⟨h0, h1, h2, p, q ++ b, by rw [h3, List.append_assoc], h4⟩
theorem Eff.err {t : List DOp} {D D' : Dev} {e : Nat} (h : Eff t D e D') : e = 0 ∨ e = 2 := by
 rcases h.out with ⟨h, -⟩ | ⟨h, -⟩
 ·exact .inl h
 ·exact .inr h
theorem Eff.up {t : List DOp} {D D' : Dev} (h : Eff t D 0 D') : D.down = false ∧ D'.down = false ∧ (D.fuse < 0 → D'.fuse < 0) ∧ D'.blk = exec t D.blk := by
 rcases h.out with ⟨-, h⟩ | ⟨h, -⟩
 ·exact h
 ·cases h
theorem Eff.dn {t : List DOp} {D D' : Dev} {e : Nat} (h : Eff t D e D') (he : e ≠ 0) : e = 2 ∧ (D.down = false → 0 ≤ D.fuse) ∧ D'.down = true ∧ ∃ p q, t = p ++ q ∧ D'.blk = exec p D.blk := by
 rcases h.out with ⟨h, -⟩ | h
 ·exact absurd h he
 ·exact h
def Sized (l : Nat → Cell) : Prop := ∀ i, ∀ b ∈ (l i).poss, b.length = 512
def OpSized : DOp → Prop
 | .write _ b => b.length = 512
 | .flush => True
theorem Sized.view {l : Nat → Cell} (h : Sized l) (i : Nat) : (l i).view.length = 512 := h i _ (l i).view_mem
theorem Sized.exec1 {l : Nat → Cell} (h : Sized l) {o : DOp} (ho : OpSized o) : Sized (exec1 l o) := by
 intro i b hb
 cases o with
 | write n x =>
  simp only [Proofs.YtgpefiacbipfpaaGreatDoor.exec1] at hb
  split at hb
  ·simp only [Cell.push, Cell.poss, List.mem_cons, List.mem_append, List.not_mem_nil, or_false] at hb
   rcases hb with rfl | hb | rfl
   ·exact h i _ (by simp [Cell.poss])
   ·exact h i _ (by simp [Cell.poss, hb])
   ·exact ho
  ·exact h i b hb
 | flush =>
  simp only [Proofs.YtgpefiacbipfpaaGreatDoor.exec1, Cell.flush, Cell.poss, List.mem_cons, List.not_mem_nil, or_false] at hb
  subst hb
  exact h.view i
theorem Sized.exec {t : List DOp} : ∀ {l : Nat → Cell}, Sized l → (∀ o ∈ t, OpSized o) → Sized (exec t l) := by
 induction t with
 | nil => intro l h _; exact h
 | cons o t ih => intro l h ho; rw [exec_cons]; exact ih (h.exec1 (ho o (by simp))) (fun x hx => ho x (by simp [hx]))
end Go.Proofs.YtgpefiacbipfpaaGreatDoor
