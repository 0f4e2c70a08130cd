/- The codec in plain words: numbers of seven bits a byte, sums, frames; what is put is what is read. No program in sight. The device in plain words: blocks that are safe, and what was written behind that; operations one behind the other; what a crash may leave. No program in sight. The log in plain words: what its blocks say, what a commit and an opening write, and what a crash leaves of that. No program in sight. Runs of blocks in plain words: what they are together; which are free; what is taken. No program in sight. -/
import Derived.WalkKit
namespace Go.Proofs.YtgpefiacbipfpaaGreatDoor
abbrev Bs := List UInt8
def putU (n : Nat) : Bs := if h : n < 128 then [UInt8.ofNat n] else UInt8.ofNat (n % 128 + 128) :: putU (n / 128)
 termination_by n
 decreasing_by omega
theorem putU_lt {n : Nat} (h : n < 128) : putU n = [UInt8.ofNat n] := by rw [putU, dif_pos h]
theorem putU_ge {n : Nat} (h : ¬ n < 128) : putU n = UInt8.ofNat (n % 128 + 128) :: putU (n / 128) := by rw [putU, dif_neg h]
theorem putU_len : ∀ (k n : Nat), n < 128 ^ (k + 1) → (putU n).length ≤ k + 1 := by
 intro k
 induction k with
 | zero => intro n h; rw [putU_lt (by simpa using h)]; simp
 | succ k ih =>
  intro n h
  by_cases hn : n < 128
  ·rw [putU_lt hn]; simp
  ·rw [putU_ge hn]
   have : n / 128 < 128 ^ (k + 1) := by
    rw [Nat.div_lt_iff_lt_mul (by omega)]
    rw [Nat.pow_succ] at h
    exact h
   have := ih _ this
   simp; omega
theorem putU_pos (n : Nat) : 1 ≤ (putU n).length := by
 by_cases hn : n < 128
 ·rw [putU_lt hn]; simp
 ·rw [putU_ge hn]; simp
theorem putU_len64 {n : Nat} (h : n < 2 ^ 64) : (putU n).length ≤ 10 := putU_len 9 n (Nat.lt_trans h (by decide))
def getU : Nat → Nat → Nat → Bs → Nat × Nat × Nat
 | 0, _, _, _ => (0, 0, 11)
 | _ + 1, _, _, [] => (0, 0, 10)
 | k + 1, i, acc, c :: r =>
  let acc' := (acc ||| (c.toNat % 128) <<< (7 * i)) % 2 ^ 64
  if 128 ≤ c.toNat then getU k (i + 1) acc' r
  else if (0 < i ∧ c.toNat = 0) ∨ (i = 9 ∧ 1 < c.toNat) then (0, 0, 11)
  else (acc', i + 1, 0)
def getUint (b : Bs) : Nat × Nat × Nat := getU 10 0 0 b
theorem or_add {i acc c : Nat} (h : acc < 2 ^ (7 * i)) : acc ||| c <<< (7 * i) = acc + c * 2 ^ (7 * i) := by
 rw [Nat.or_comm, Nat.shiftLeft_eq, Nat.mul_comm c, ← Nat.two_pow_add_eq_or_of_lt h, Nat.add_comm, Nat.mul_comm]
theorem getU_putU : ∀ (k i acc n : Nat) (rest : Bs), k + i = 10 → acc < 2 ^ (7 * i) → acc + n * 2 ^ (7 * i) < 2 ^ 64 → (i = 0 ∨ 0 < n) →
  getU k i acc (putU n ++ rest) = (acc + n * 2 ^ (7 * i), i + (putU n).length, 0) := by
 intro k
 induction k with
 | zero =>
  intro i acc n rest hk ha hn h0
  obtain rfl : i = 10 := by omega
  exfalso
  rcases h0 with h0 | h0
  ·omega
  ·have : 1 * 2 ^ (7 * 10) ≤ n * 2 ^ (7 * 10) := Nat.mul_le_mul_right _ h0
   have : (2 : Nat) ^ 64 < 1 * 2 ^ (7 * 10) := by decide
   omega
 | succ k ih =>
  intro i acc n rest hk ha hn h0
  by_cases hlt : n < 128
  ·rw [putU_lt hlt]
   have e1 : (UInt8.ofNat n).toNat = n := by simp [UInt8.toNat_ofNat']; omega
   simp only [List.cons_append, List.nil_append, getU, e1]
   rw [if_neg (by omega), if_neg, or_add ha, Nat.mod_eq_of_lt hlt, Nat.mod_eq_of_lt hn]
   ·simp
   ·rintro (⟨h1, h2⟩ | ⟨h1, h2⟩)
    ·omega
    ·subst h1
     have : 2 * 2 ^ (7 * 9) ≤ n * 2 ^ (7 * 9) := Nat.mul_le_mul_right _ h2
     have : (2 : Nat) ^ 64 = 2 * 2 ^ (7 * 9) := by decide
     omega
  ·rw [putU_ge hlt]
   have e1 : (UInt8.ofNat (n % 128 + 128)).toNat = n % 128 + 128 := by simp [UInt8.toNat_ofNat']; omega
   have e2 : (n % 128 + 128) % 128 = n % 128 := by omega
   have e3 : 2 ^ (7 * (i + 1)) = 128 * 2 ^ (7 * i) := by rw [Nat.mul_succ, Nat.pow_add, Nat.mul_comm]
   have e4 : n = 128 * (n / 128) + n % 128 := (Nat.div_add_mod n 128).symm
   have e5 : n * 2 ^ (7 * i) = n / 128 * (128 * 2 ^ (7 * i)) + n % 128 * 2 ^ (7 * i) := by
    conv => lhs; rw [e4]
    rw [Nat.add_mul, Nat.mul_comm 128, Nat.mul_assoc]
   have h7 : n % 128 * 2 ^ (7 * i) ≤ 127 * 2 ^ (7 * i) := Nat.mul_le_mul_right _ (by omega)
   simp only [List.cons_append, getU, e1, e2]
   rw [if_pos (by omega), or_add ha, Nat.mod_eq_of_lt (by omega)]
   rw [ih (i + 1) _ (n / 128) rest (by omega) (by rw [e3]; omega) (by rw [e3]; omega) (.inr (by omega)), e3, e5, List.length_cons]
   simp only [Prod.mk.injEq, and_true]
   omega
theorem getUint_putU {n : Nat} (h : n < 2 ^ 64) (rest : Bs) : getUint (putU n ++ rest) = (n, (putU n).length, 0) := by
 have := getU_putU 10 0 0 n rest rfl (by simp) (by simpa using h) (.inl rfl)
 simpa [getUint] using this
theorem getU_bounds : ∀ (k i acc : Nat) (b : Bs), acc < 2 ^ 64 → (getU k i acc b).1 < 2 ^ 64 ∧ ((getU k i acc b).2.2 = 0 → i < (getU k i acc b).2.1 ∧ (getU k i acc b).2.1 ≤ i + b.length) ∧ ((getU k i acc b).2.2 ≠ 0 → (getU k i acc b).1 = 0 ∧ (getU k i acc b).2.1 = 0) ∧ ((getU k i acc b).2.2 = 0 ∨ (getU k i acc b).2.2 = 10 ∨ (getU k i acc b).2.2 = 11) := by
 intro k
 induction k with
 | zero => intro i acc b _; simp [getU]
 | succ k ih =>
  intro i acc b ha
  cases b with
  | nil => simp [getU]
  | cons c r =>
   have hm : (acc ||| (c.toNat % 128) <<< (7 * i)) % 2 ^ 64 < 2 ^ 64 := Nat.mod_lt _ (by decide)
   have h := ih (i + 1) ((acc ||| (c.toNat % 128) <<< (7 * i)) % 2 ^ 64) r hm
   simp only [getU]
   split
   ·refine ⟨h.1, fun h0 => ?_, h.2.2.1, h.2.2.2⟩
    have h3 := h.2.1 h0
    exact ⟨by omega, by rw [List.length_cons]; omega⟩
   ·split
    ·simp
    ·exact ⟨hm, fun _ => ⟨Nat.lt_succ_self _, by simp⟩, fun h => absurd rfl h, .inl rfl⟩
theorem getUint_le (b : Bs) : (getUint b).2.1 ≤ b.length := by
 have := getU_bounds 10 0 0 b (by decide)
 unfold getUint
 by_cases h : (getU 10 0 0 b).2.2 = 0
 ·have := (this.2.1 h).2; omega
 ·have := (this.2.2.1 h).2; omega
def crcStep (r : Nat) : Nat := (r >>> 1) ^^^ ((0x82f63b78 * (r &&& 1)) % 2 ^ 32)
def crcTab (i : Nat) : Nat := crcStep (crcStep (crcStep (crcStep i)))
def crcByte (r : Nat) (c : UInt8) : Nat :=
 let r := r ^^^ c.toNat
 let r := (r >>> 4) ^^^ crcTab (r &&& 15)
 (r >>> 4) ^^^ crcTab (r &&& 15)
def crcAll (b : Bs) : Nat := b.foldl crcByte 0xffffffff
def sumB (b : Bs) : Nat := 0xffffffff ^^^ crcAll b
theorem crcStep_lt {r : Nat} (h : r < 2 ^ 32) : crcStep r < 2 ^ 32 := by
 unfold crcStep
 apply Nat.xor_lt_two_pow
 ·rw [Nat.shiftRight_eq_div_pow]; omega
 ·exact Nat.mod_lt _ (by decide)
theorem crcTab_lt {r : Nat} (h : r < 2 ^ 32) : crcTab r < 2 ^ 32 := crcStep_lt (crcStep_lt (crcStep_lt (crcStep_lt h)))
theorem and15_lt (r : Nat) : r &&& 15 < 16 := Nat.lt_of_le_of_lt Nat.and_le_right (by decide)
theorem crcHalf_lt {r : Nat} (h : r < 2 ^ 32) : (r >>> 4) ^^^ crcTab (r &&& 15) < 2 ^ 32 := by
 apply Nat.xor_lt_two_pow
 ·rw [Nat.shiftRight_eq_div_pow]; omega
 ·exact crcTab_lt (Nat.lt_trans (and15_lt r) (by decide))
theorem crcByte_lt {r : Nat} (h : r < 2 ^ 32) (c : UInt8) : crcByte r c < 2 ^ 32 := by
 unfold crcByte
 exact crcHalf_lt (crcHalf_lt (Nat.xor_lt_two_pow h (Nat.lt_trans c.toNat_lt (by decide))))
theorem crcFold_lt : ∀ (b : Bs) (r : Nat), r < 2 ^ 32 → b.foldl crcByte r < 2 ^ 32
 | [], _, h => h
 | c :: b, _, h => crcFold_lt b _ (crcByte_lt h c)
theorem sumB_lt (b : Bs) : sumB b < 2 ^ 32 := Nat.xor_lt_two_pow (by decide) (crcFold_lt b _ (by decide))
def put32 (n : Nat) : Bs := [UInt8.ofNat n, UInt8.ofNat (n >>> 8), UInt8.ofNat (n >>> 16), UInt8.ofNat (n >>> 24)]
def get32 : Bs → Nat
 | a :: b :: c :: d :: _ => a.toNat ||| b.toNat <<< 8 ||| c.toNat <<< 16 ||| d.toNat <<< 24
 | _ => 0
theorem get32_put32 {n : Nat} (h : n < 2 ^ 32) (r : Bs) : get32 (put32 n ++ r) = n := by
 simp only [put32, List.cons_append, List.nil_append, get32, UInt8.toNat_ofNat', Nat.shiftRight_eq_div_pow]
 have e1 : n % 2 ^ 8 ||| (n / 2 ^ 8 % 2 ^ 8) <<< 8 = n % 2 ^ 16 := by
  rw [Nat.or_comm, Nat.shiftLeft_eq, Nat.mul_comm, ← Nat.two_pow_add_eq_or_of_lt (Nat.mod_lt _ (by decide))]; omega
 rw [e1]
 have e2 : n % 2 ^ 16 ||| (n / 2 ^ 16 % 2 ^ 8) <<< 16 = n % 2 ^ 24 := by
  rw [Nat.or_comm, Nat.shiftLeft_eq, Nat.mul_comm, ← Nat.two_pow_add_eq_or_of_lt (Nat.mod_lt _ (by decide))]; omega
 rw [e2, Nat.or_comm, Nat.shiftLeft_eq, Nat.mul_comm, ← Nat.two_pow_add_eq_or_of_lt (Nat.mod_lt _ (by decide))]; omega
def frameRest (k : UInt8) (d : Bs) : Bs := k :: (putU d.length ++ d)
def putFrame (k : UInt8) (d : Bs) : Bs := put32 (sumB (frameRest k d)) ++ frameRest k d
def getFrame (b : Bs) : UInt8 × Bs × Nat × Nat :=
 if b.length < 5 then (0, [], 0, 10)
 else
  let u := getUint (b.drop 5)
  if u.2.2 ≠ 0 then (0, [], 0, u.2.2)
  else if 2000 < u.1 then (0, [], 0, 12)
  else if b.length - 5 - u.2.1 < u.1 then (0, [], 0, 10)
  else
   let fin := 5 + u.2.1 + u.1
   if get32 b ≠ sumB ((b.take fin).drop 4) then (0, [], 0, 11)
   else (b.getD 4 0, (b.take fin).drop (5 + u.2.1), fin, 0)
theorem getFrame_putFrame (k : UInt8) (d r : Bs) (h : d.length ≤ 2000) : getFrame (putFrame k d ++ r) = (k, d, (putFrame k d).length, 0) := by
 have hl : (putFrame k d ++ r).length = 5 + (putU d.length).length + d.length + r.length := by simp [putFrame, frameRest, put32]; omega
 have hd : (putFrame k d ++ r).drop 5 = putU d.length ++ (d ++ r) := by simp [putFrame, frameRest, put32]
 have hu : getUint ((putFrame k d ++ r).drop 5) = (d.length, (putU d.length).length, 0) := by rw [hd]; exact getUint_putU (by omega) _
 have hlen : (putFrame k d).length = 5 + (putU d.length).length + d.length := by simp [putFrame, frameRest, put32]; omega
 have ht : (putFrame k d ++ r).take (5 + (putU d.length).length + d.length) = putFrame k d := by rw [← hlen, List.take_left']; rfl
 have hr : (putFrame k d).drop 4 = frameRest k d := by simp [putFrame, put32]
 have hs : get32 (putFrame k d ++ r) = sumB (frameRest k d) := by
  unfold putFrame; rw [List.append_assoc]; exact get32_put32 (sumB_lt _) _
 have hg : (putFrame k d).drop (5 + (putU d.length).length) = d := by
  have : putFrame k d = (put32 (sumB (frameRest k d)) ++ k :: putU d.length) ++ d := by simp [putFrame, frameRest]
  rw [this, List.drop_left']
  simp [put32]; omega
 have hk : (putFrame k d ++ r).getD 4 0 = k := by simp [putFrame, frameRest, put32]
 unfold getFrame
 rw [if_neg (by rw [hl]; omega)]
 simp only [hu, hl, ht, hr, hs, hg, hk, hlen]
 rw [if_neg (by simp), if_neg (by omega), if_neg (by omega), if_neg (by simp)]
theorem getFrame_noughts : (getFrame (List.replicate 512 0)).2.2.2 = 11 := by
 have e : (List.replicate 512 (0 : UInt8)).drop 5 = putU 0 ++ List.replicate 506 0 := by rw [putU_lt (by omega), List.drop_replicate]; rfl
 have hu : getUint ((List.replicate 512 (0 : UInt8)).drop 5) = (0, 1, 0) := by rw [e, getUint_putU (by decide), putU_lt (by omega)]; rfl
 have h1 : get32 (List.replicate 512 0) = 0 := by
  have : List.replicate 512 (0 : UInt8) = 0 :: 0 :: 0 :: 0 :: List.replicate 508 0 := by rw [← List.replicate_succ, ← List.replicate_succ, ← List.replicate_succ, ← List.replicate_succ]
  rw [this]; show (0 : UInt8).toNat ||| _ = _; decide
 have h2 : ((List.replicate 512 (0 : UInt8)).take 6).drop 4 = [0, 0] := by rw [List.take_replicate, List.drop_replicate]; rfl
 unfold getFrame
 simp only [hu, h1, h2, List.length_replicate]
 rw [if_neg (by omega), if_neg (by simp), if_neg (by omega), if_neg (by omega), if_pos (by decide)]
theorem getFrame_le (b : Bs) : (getFrame b).2.1.length ≤ 2000 := by
 unfold getFrame
 have hl := getUint_le (b.drop 5)
 split
 ·simp
 ·dsimp only
  split
  ·simp
  ·split
   ·simp
   ·split
    ·simp
    ·split
     ·simp
     ·simp; omega
end Go.Proofs.YtgpefiacbipfpaaGreatDoor

namespace Go.Proofs.YtgpefiacbipfpaaGreatDoor
structure Cell where
 safe : Bs
 pend : List Bs
def Cell.view (c : Cell) : Bs := c.pend.getLast?.getD c.safe
def Cell.poss (c : Cell) : List Bs := c.safe :: c.pend
def Cell.push (c : Cell) (b : Bs) : Cell := ⟨c.safe, c.pend ++ [b]⟩
def Cell.flush (c : Cell) : Cell := ⟨c.view, []⟩
theorem Cell.view_push (c : Cell) (b : Bs) : (c.push b).view = b := by simp [Cell.view, Cell.push]
theorem Cell.view_mem (c : Cell) : c.view ∈ c.poss := by
 unfold Cell.view Cell.poss
 cases h : c.pend.getLast? with
 | none => simp
 | some b => simp [List.mem_of_getLast? h]
inductive DOp where
 | write (n : Nat) (b : Bs)
 | flush
def exec1 (l : Nat → Cell) : DOp → Nat → Cell
 | .write n b => fun m => if m = n then (l m).push b else l m
 | .flush => fun m => (l m).flush
def exec (t : List DOp) (l : Nat → Cell) : Nat → Cell := t.foldl exec1 l
theorem exec_nil (l : Nat → Cell) : exec [] l = l := rfl
theorem exec_cons (o : DOp) (t : List DOp) (l : Nat → Cell) : exec (o :: t) l = exec t (exec1 l o) := rfl
theorem exec_app (a b : List DOp) (l : Nat → Cell) : exec (a ++ b) l = exec b (exec a l) := List.foldl_append ..
structure Dev where
 n : Nat
 blk : Nat → Cell
 fuse : Int
 down : Bool
 wr : Nat
structure Eff (t : List DOp) (D : Dev) (e : Nat) (D' : Dev) : Prop where
 n : D'.n = D.n
 wr : D'.wr ≤ D.wr + t.length
 out : (e = 0 ∧ D.down = false ∧ D'.down = false ∧ (D.fuse < 0 → D'.fuse < 0) ∧ D'.blk = exec t D.blk) ∨
  (e = 2 ∧ (D.down = false → 0 ≤ D.fuse) ∧ D'.down = true ∧ ∃ p q, t = p ++ q ∧ D'.blk = exec p D.blk)
theorem Eff.refl {D : Dev} (h : D.down = false) : Eff [] D 0 D := ⟨rfl, Nat.le_refl _, .inl ⟨rfl, h, h, id, rfl⟩⟩
theorem Eff.next {a b : List DOp} {D D1 D2 : Dev} {e : Nat} (h : Eff a D 0 D1) (g : Eff b D1 e D2) : Eff (a ++ b) D e D2 := by
 obtain ⟨n1, w1, h⟩ := h
 obtain ⟨n2, w2, g⟩ := g
 refine ⟨n2.trans n1, by rw [List.length_append]; omega, ?_⟩
 rcases h with ⟨-, h1, h2, h3, h4⟩ | ⟨h, -⟩
 ·rcases g with ⟨g0, g1, g2, g3, g4⟩ | ⟨g0, g1, g2, p, q, g3, g4⟩
  ·exact .inl ⟨g0, h1, g2, fun q => g3 (h3 q), by rw [g4, h4, exec_app]⟩
  ·refine .inr ⟨g0, fun q => ?_, g2, a ++ p, q, by rw [g3, List.append_assoc], by rw [g4, h4, exec_app]⟩
   rcases Int.lt_or_le D.fuse 0 with hf | hf
   ·have := h3 hf; have := g1 h2; omega
   ·exact hf
 ·cases h
theorem Eff.stop {a : List DOp} (b : List DOp) {D D1 : Dev} {e : Nat} (h : Eff a D e D1) (he : e ≠ 0) : Eff (a ++ b) D e D1 := by
 obtain ⟨n1, w1, h⟩ := h
 refine ⟨n1, by rw [List.length_append]; omega, ?_⟩
 rcases h with ⟨h, -⟩ | ⟨h0, h1, h2, p, q, h3, h4⟩
 ·exact absurd h he
 ·exact .inr ⟨h0, h1, h2, p, q ++ b, by rw [h3, List.append_assoc], h4⟩
theorem Eff.err {t : List DOp} {D D' : Dev} {e : Nat} (h : Eff t D e D') : e = 0 ∨ e = 2 := by
 rcases h.out with ⟨h, -⟩ | ⟨h, -⟩
 ·exact .inl h
 ·exact .inr h
theorem Eff.up {t : List DOp} {D D' : Dev} (h : Eff t D 0 D') : D.down = false ∧ D'.down = false ∧ (D.fuse < 0 → D'.fuse < 0) ∧ D'.blk = exec t D.blk := by
 rcases h.out with ⟨-, h⟩ | ⟨h, -⟩
 ·exact h
 ·cases h
theorem Eff.dn {t : List DOp} {D D' : Dev} {e : Nat} (h : Eff t D e D') (he : e ≠ 0) : e = 2 ∧ (D.down = false → 0 ≤ D.fuse) ∧ D'.down = true ∧ ∃ p q, t = p ++ q ∧ D'.blk = exec p D.blk := by
 rcases h.out with ⟨h, -⟩ | h
 ·exact absurd h he
 ·exact h
structure Crashed (D D' : Dev) : Prop where
 n : D'.n = D.n
 fuse : D'.fuse = -1
 down : D'.down = false
 pend : ∀ i, (D'.blk i).pend = []
 safe : ∀ i, (D'.blk i).safe ∈ (D.blk i).poss
def Sized (l : Nat → Cell) : Prop := ∀ i, ∀ b ∈ (l i).poss, b.length = 512
def OpSized : DOp → Prop
 | .write _ b => b.length = 512
 | .flush => True
theorem Sized.view {l : Nat → Cell} (h : Sized l) (i : Nat) : (l i).view.length = 512 := h i _ (l i).view_mem
theorem Sized.exec1 {l : Nat → Cell} (h : Sized l) {o : DOp} (ho : OpSized o) : Sized (exec1 l o) := by
 intro i b hb
 cases o with
 | write n x =>
  simp only [Proofs.YtgpefiacbipfpaaGreatDoor.exec1] at hb
  split at hb
  ·simp only [Cell.push, Cell.poss, List.mem_cons, List.mem_append, List.not_mem_nil, or_false] at hb
   rcases hb with rfl | hb | rfl
   ·exact h i _ (by simp [Cell.poss])
   ·exact h i _ (by simp [Cell.poss, hb])
   ·exact ho
  ·exact h i b hb
 | flush =>
  simp only [Proofs.YtgpefiacbipfpaaGreatDoor.exec1, Cell.flush, Cell.poss, List.mem_cons, List.not_mem_nil, or_false] at hb
  subst hb
  exact h.view i
theorem Sized.exec {t : List DOp} : ∀ {l : Nat → Cell}, Sized l → (∀ o ∈ t, OpSized o) → Sized (exec t l) := by
 induction t with
 | nil => intro l h _; exact h
 | cons o t ih => intro l h ho; rw [exec_cons]; exact ih (h.exec1 (ho o (by simp))) (fun x hx => ho x (by simp [hx]))
theorem Crashed.sized {D D' : Dev} (h : Crashed D D') (hs : Sized D.blk) : Sized D'.blk := by
 intro i b hb
 rw [Cell.poss, h.pend i, List.mem_singleton] at hb
 subst hb
 exact hs i _ (h.safe i)
end Go.Proofs.YtgpefiacbipfpaaGreatDoor

namespace Go.Proofs.YtgpefiacbipfpaaGreatDoor
def zeroB : Bs := List.replicate 512 0
def pad512 (b : Bs) : Bs := b ++ List.replicate (512 - b.length) 0
theorem zeroB_len : zeroB.length = 512 := List.length_replicate ..
theorem pad512_len {b : Bs} (h : b.length ≤ 512) : (pad512 b).length = 512 := by simp [pad512]; omega
def magicJ : Bs := [99, 97, 114, 116, 117, 108, 97, 114, 121]
def doneB (k : Nat) : Bs := magicJ ++ putU k
def slotB (c : Nat) (d : Bs) : Bs := pad512 (putFrame 115 (putU c ++ d))
def slotOf (b : Bs) : Option (Nat × Bs) :=
 let f := getFrame b
 if f.2.2.2 ≠ 0 ∨ f.1 ≠ 115 then none
 else
  let u := getUint f.2.1
  if u.2.2 ≠ 0 then none else some (u.1, f.2.1.drop u.2.1)
theorem slotOf_slotB {c : Nat} {d : Bs} (hc : c < 2 ^ 64) (hd : d.length ≤ 400) : slotOf (slotB c d) = some (c, d) := by
 have h1 := putU_len64 hc
 unfold slotOf slotB pad512
 rw [getFrame_putFrame _ _ _ (by rw [List.length_append]; omega)]
 simp only [getUint_putU hc]
 rw [if_neg (by simp), if_neg (by simp)]
 simp
theorem slotOf_noughts : slotOf zeroB = none := by
 unfold slotOf zeroB
 simp only [getFrame_noughts]
 rw [if_pos (.inl (by decide))]
theorem slotB_len {c : Nat} {d : Bs} (hc : c < 2 ^ 64) (hd : d.length ≤ 400) : (slotB c d).length = 512 := by
 have h1 := putU_len64 hc
 have h2 : (putU (putU c ++ d).length).length ≤ 10 := putU_len64 (by simp; omega)
 refine pad512_len ?_
 simp only [putFrame, frameRest, put32, List.length_append, List.length_cons, List.length_nil] at *
 omega
theorem doneB_len {k : Nat} (hk : k < 2 ^ 64) : (doneB k).length ≤ 19 := by
 have := putU_len64 hk
 simp [doneB, magicJ]; omega
abbrev Wr := Nat × Bs
def headPre (n : Nat) (w : List Wr) : Bs := doneB n ++ putU w.length ++ w.flatMap fun x => putU x.1
def headBody (n : Nat) (w : List Wr) : Bs := headPre n w ++ put32 (sumB (put32 0 ++ (w.flatMap fun x => x.2) ++ headPre n w))
def headB (n : Nat) (w : List Wr) : Bs := pad512 (putFrame 106 (headBody n w))
structure WOk (w : List Wr) : Prop where
 many : w.length ≤ 16
 at_ : ∀ x ∈ w, x.1 < 512
 len : ∀ x ∈ w, x.2.length = 512
theorem flat_len {w : List Wr} (h : ∀ x ∈ w, x.1 < 512) : (w.flatMap fun x => putU x.1).length ≤ 2 * w.length := by
 induction w with
 | nil => simp
 | cons x w ih =>
  have h1 := putU_len 1 x.1 (Nat.lt_trans (h x (by simp)) (by decide))
  have h2 := ih fun y hy => h y (by simp [hy])
  simp only [List.flatMap_cons, List.length_append, List.length_cons] at *
  omega
theorem headPre_len {n : Nat} {w : List Wr} (hn : n < 2 ^ 64) (hw : WOk w) : (headPre n w).length ≤ 52 := by
 have h1 := doneB_len hn
 have h2 := flat_len hw.at_
 have h3 := hw.many
 have h4 : (putU w.length).length ≤ 1 := putU_len 0 _ (by omega)
 simp only [headPre, List.length_append]
 omega
theorem headBody_len {n : Nat} {w : List Wr} (hn : n < 2 ^ 64) (hw : WOk w) : (headBody n w).length ≤ 56 := by
 have := headPre_len hn hw
 simp [headBody, put32]; omega
theorem headFrame_len {n : Nat} {w : List Wr} (hn : n < 2 ^ 64) (hw : WOk w) : (putFrame 106 (headBody n w)).length ≤ 62 := by
 have h1 := headBody_len hn hw
 have h2 : (putU (headBody n w).length).length ≤ 1 := putU_len 0 _ (by omega)
 simp only [putFrame, frameRest, put32, List.length_append, List.length_cons, List.length_nil]
 omega
theorem headB_len {n : Nat} {w : List Wr} (hn : n < 2 ^ 64) (hw : WOk w) : (headB n w).length = 512 := pad512_len (by have := headFrame_len hn hw; omega)
theorem getFrame_headB {n : Nat} {w : List Wr} (hn : n < 2 ^ 64) (hw : WOk w) : ∃ k, getFrame (headB n w) = (106, headBody n w, k, 0) :=
 ⟨_, getFrame_putFrame _ _ _ (by have := headBody_len hn hw; omega)⟩
def partsT (w : List Wr) : Nat → List DOp
 | i => (List.range w.length).map fun j => .write (i + j) (w.getD j (0, [])).2
def homeT (w : List Wr) : List DOp := w.map fun x => .write (20 + x.1) x.2
def tailT (k s : Nat) : List DOp := [.flush, .write s (slotB k (doneB k)), .flush]
def commitT (k s : Nat) (w : List Wr) : List DOp := partsT w 3 ++ ([.flush, .write 2 (headB k w), .flush] ++ (homeT w ++ tailT k s))
def OldSlot (b : Bs) (k : Nat) : Prop := ∀ c d, slotOf b = some (c, d) → c < k
structure Slots (l : Nat → Cell) (k s : Nat) : Prop where
 two : s < 2
 new : l (1 - s) = ⟨slotB k (doneB k), []⟩
 pend : (l s).pend = []
 old : OldSlot (l s).safe k
def ListLe (b : Bs) (k : Nat) : Prop := b = zeroB ∨ ∃ m w, m ≤ k ∧ WOk w ∧ b = headB m w
theorem ListLe.mono {b : Bs} {k m : Nat} (h : ListLe b k) (hk : k ≤ m) : ListLe b m := by
 rcases h with h | ⟨a, w, h1, h2⟩
 ·exact .inl h
 ·exact .inr ⟨a, w, by omega, h2⟩
def Home (l : Nat → Cell) (f : Nat → Bs) : Prop := ∀ n, n < 16 → l (20 + n) = ⟨f n, []⟩
structure Quiet (l : Nat → Cell) (k s : Nat) (f : Nat → Bs) : Prop where
 slots : Slots l k s
 list : (l 2).pend = [] ∧ ListLe (l 2).safe k
 home : Home l f
structure Redo (l : Nat → Cell) (k s : Nat) (w : List Wr) (g : Nat → Bs) : Prop where
 slots : Slots l k s
 list : l 2 = ⟨headB (k + 1) w, []⟩
 parts : ∀ j (h : j < w.length), l (3 + j) = ⟨w[j].2, []⟩
 wok : WOk w
 low : ∀ x ∈ w, x.1 < 16
 is : ∀ x ∈ w, x.2 = g x.1
 home : ∀ n, n < 16 → n ∉ w.map (·.1) → l (20 + n) = ⟨g n, []⟩
def Recov (l : Nat → Cell) (k : Nat) (g : Nat → Bs) : Prop := ∃ s, Quiet l k s g ∨ ∃ w, Redo l k s w g
def CrashOf (l l' : Nat → Cell) : Prop := ∀ i, (l' i).pend = [] ∧ (l' i).safe ∈ (l i).poss
theorem CrashOf.sure {l l' : Nat → Cell} (h : CrashOf l l') {i : Nat} {b : Bs} (e : l i = ⟨b, []⟩) : l' i = ⟨b, []⟩ := by
 obtain ⟨h1, h2⟩ := h i
 rw [e] at h2
 simp [Cell.poss] at h2
 cases hc : l' i with
 | mk a p => rw [hc] at h1 h2; simp at h1 h2; rw [h1, h2]
theorem CrashOf.still {l l' : Nat → Cell} (h : CrashOf l l') {i : Nat} (e : (l i).pend = []) : l' i = l i := by
 have : l i = ⟨(l i).safe, []⟩ := by cases hc : l i with | mk a p => rw [hc] at e; simp at e; rw [e]
 rw [this]
 exact h.sure this
theorem Slots.crash {l l' : Nat → Cell} {k s : Nat} (h : Slots l k s) (c : CrashOf l l') : Slots l' k s :=
 ⟨h.two, c.sure h.new, by rw [c.still h.pend]; exact h.pend, by rw [c.still h.pend]; exact h.old⟩
theorem Home.crash {l l' : Nat → Cell} {f : Nat → Bs} (h : Home l f) (c : CrashOf l l') : Home l' f := fun n hn => c.sure (h n hn)
theorem Quiet.crash {l l' : Nat → Cell} {k s : Nat} {f : Nat → Bs} (h : Quiet l k s f) (c : CrashOf l l') : Quiet l' k s f :=
 ⟨h.slots.crash c, by rw [c.still h.list.1]; exact h.list, h.home.crash c⟩
theorem Redo.crash {l l' : Nat → Cell} {k s : Nat} {w : List Wr} {g : Nat → Bs} (h : Redo l k s w g) (c : CrashOf l l') : Redo l' k s w g :=
 ⟨h.slots.crash c, c.sure h.list, fun j hj => c.sure (h.parts j hj), h.wok, h.low, h.is, fun n hn hw => c.sure (h.home n hn hw)⟩
def Along (P : (Nat → Cell) → Prop) (t : List DOp) (l : Nat → Cell) : Prop := ∀ p q, t = p ++ q → P (exec p l)
theorem along_nil {P : (Nat → Cell) → Prop} {l : Nat → Cell} (h : P l) : Along P [] l := by
 intro p q e
 obtain ⟨rfl, rfl⟩ := List.append_eq_nil_iff.1 e.symm
 exact h
theorem along_cons {P : (Nat → Cell) → Prop} {o : DOp} {t : List DOp} {l : Nat → Cell} (h : P l) (g : Along P t (exec1 l o)) : Along P (o :: t) l := by
 intro p q e
 cases p with
 | nil => exact h
 | cons x p =>
  simp only [List.cons_append, List.cons.injEq] at e
  obtain ⟨rfl, e⟩ := e
  exact g p q e
theorem along_app {P : (Nat → Cell) → Prop} {a : List DOp} : ∀ {b : List DOp} {l : Nat → Cell}, Along P a l → Along P b (exec a l) → Along P (a ++ b) l := by
 induction a with
 | nil => intro b l _ h; exact h
 | cons o a ih =>
  intro b l h g
  exact along_cons (h [] _ rfl) (ih (fun p q e => h (o :: p) q (by rw [e]; rfl)) g)
theorem along_inv {I : (Nat → Cell) → Prop} {t : List DOp} : ∀ {l : Nat → Cell}, I l → (∀ o ∈ t, ∀ l, I l → I (exec1 l o)) → Along I t l ∧ I (exec t l) := by
 induction t with
 | nil => intro l h _; exact ⟨along_nil h, h⟩
 | cons o t ih =>
  intro l h g
  have := ih (g o (by simp) l h) fun x hx => g x (by simp [hx])
  exact ⟨along_cons h this.1, this.2⟩
theorem Along.mono {P Q : (Nat → Cell) → Prop} {t : List DOp} {l : Nat → Cell} (h : Along P t l) (g : ∀ l, P l → Q l) : Along Q t l := fun p q e => g _ (h p q e)
theorem exec1_write_ne {l : Nat → Cell} {n i : Nat} (b : Bs) (h : i ≠ n) : exec1 l (.write n b) i = l i := if_neg h
theorem exec1_write {l : Nat → Cell} {n : Nat} (b : Bs) : exec1 l (.write n b) n = (l n).push b := if_pos rfl
theorem exec1_flush {l : Nat → Cell} {i : Nat} {b : Bs} (h : l i = ⟨b, []⟩) : exec1 l .flush i = ⟨b, []⟩ := by show (l i).flush = _; rw [h]; rfl
theorem flush_still {l : Nat → Cell} {i : Nat} (h : (l i).pend = []) : exec1 l .flush i = l i := by
 have : l i = ⟨(l i).safe, []⟩ := by cases hc : l i with | mk a p => rw [hc] at h; simp at h; rw [h]
 rw [this]
 exact exec1_flush this
theorem Slots.congr {l l' : Nat → Cell} {k s : Nat} (h : Slots l k s) (e : ∀ i, i < 2 → l' i = l i) : Slots l' k s := by
 have hs := h.two
 exact ⟨hs, (e _ (by omega)).trans h.new, by rw [e _ hs]; exact h.pend, by rw [e _ hs]; exact h.old⟩
theorem Slots.flush {l : Nat → Cell} {k s : Nat} (h : Slots l k s) : Slots (exec1 l .flush) k s :=
 ⟨h.two, exec1_flush h.new, by rw [flush_still h.pend]; exact h.pend, by rw [flush_still h.pend]; exact h.old⟩
theorem Slots.write {l : Nat → Cell} {k s : Nat} (h : Slots l k s) {n : Nat} (b : Bs) (hn : 2 ≤ n) : Slots (exec1 l (.write n b)) k s :=
 h.congr fun i hi => exec1_write_ne _ (by omega)
theorem Quiet.write {l : Nat → Cell} {k s : Nat} {f : Nat → Bs} (h : Quiet l k s f) {n : Nat} (b : Bs) (h1 : 3 ≤ n) (h2 : n < 20 ∨ 36 ≤ n) : Quiet (exec1 l (.write n b)) k s f :=
 ⟨h.slots.write b (by omega), by rw [exec1_write_ne _ (by omega)]; exact h.list, fun i hi => by rw [exec1_write_ne _ (by omega)]; exact h.home i hi⟩
theorem Quiet.flush {l : Nat → Cell} {k s : Nat} {f : Nat → Bs} (h : Quiet l k s f) : Quiet (exec1 l .flush) k s f :=
 ⟨h.slots.flush, by rw [flush_still h.list.1]; exact h.list, fun i hi => exec1_flush (h.home i hi)⟩
theorem Redo.flush {l : Nat → Cell} {k s : Nat} {w : List Wr} {g : Nat → Bs} (h : Redo l k s w g) : Redo (exec1 l .flush) k s w g :=
 ⟨h.slots.flush, exec1_flush h.list, fun j hj => exec1_flush (h.parts j hj), h.wok, h.low, h.is, fun n hn hw => exec1_flush (h.home n hn hw)⟩
theorem Redo.write {l : Nat → Cell} {k s : Nat} {w : List Wr} {g : Nat → Bs} (h : Redo l k s w g) {x : Wr} (hx : x ∈ w) : Redo (exec1 l (.write (20 + x.1) x.2)) k s w g := by
 have hm := h.wok.many
 refine ⟨h.slots.write _ (by omega), by rw [exec1_write_ne _ (by omega)]; exact h.list, fun j hj => by rw [exec1_write_ne _ (by omega)]; exact h.parts j hj, h.wok, h.low, h.is, fun n hn hw => ?_⟩
 have : n ≠ x.1 := fun e => hw (e ▸ List.mem_map.2 ⟨x, hx, rfl⟩)
 rw [exec1_write_ne _ (by omega)]
 exact h.home n hn hw
def Opens (k : Nat) (g : Nat → Bs) (l : Nat → Cell) : Prop := ∀ l', CrashOf l l' → Recov l' k g ∨ Recov l' (k + 1) g
theorem Quiet.opens {l : Nat → Cell} {k s : Nat} {g : Nat → Bs} (h : Quiet l k s g) : Opens k g l := fun _ c => .inl ⟨s, .inl (h.crash c)⟩
theorem Quiet.opensLess {l : Nat → Cell} {k s : Nat} {g : Nat → Bs} (h : Quiet l (k + 1) s g) : Opens k g l := fun _ c => .inr ⟨s, .inl (h.crash c)⟩
theorem Redo.opens {l : Nat → Cell} {k s : Nat} {w : List Wr} {g : Nat → Bs} (h : Redo l k s w g) : Opens k g l := fun _ c => .inl ⟨s, .inr ⟨w, h.crash c⟩⟩
theorem oldSlot_done {k m : Nat} (hk : k < 2 ^ 62) (h : k < m) : OldSlot (slotB k (doneB k)) m := by
 intro c d e
 rw [slotOf_slotB (by omega) (by have := doneB_len (k := k) (by omega); omega)] at e
 cases e
 exact h
theorem Slots.turn {l : Nat → Cell} {k s : Nat} (h : Slots l k s) (hk : k < 2 ^ 62) : Slots (exec1 (exec1 l (.write s (slotB (k + 1) (doneB (k + 1))))) .flush) (k + 1) (1 - s) := by
 have hs := h.two
 have e1 : 1 - (1 - s) = s := by omega
 have h1 : exec1 (exec1 l (.write s (slotB (k + 1) (doneB (k + 1))))) .flush (1 - s) = ⟨slotB k (doneB k), []⟩ :=
  exec1_flush (by rw [exec1_write_ne _ (by omega)]; exact h.new)
 refine ⟨by omega, ?_, by rw [h1], by rw [h1]; exact oldSlot_done hk (Nat.lt_succ_self _)⟩
 rw [e1]
 show ((exec1 l _ s)).flush = _
 rw [exec1_write]
 simp [Cell.flush, Cell.view_push]
theorem tail_ok {l : Nat → Cell} {k s : Nat} {g : Nat → Bs} (hk : k < 2 ^ 62) (hs : Slots l k s) (hl : (l 2).pend = [] ∧ ListLe (l 2).safe (k + 1)) (hh : Home l g)
  (hO : ∀ l', Slots l' k s → (∀ i, 2 ≤ i → (l i).pend = [] → l' i = l i) → Recov l' k g) :
  Along (Opens k g) [.write s (slotB (k + 1) (doneB (k + 1))), .flush] l ∧ Quiet (exec [.write s (slotB (k + 1) (doneB (k + 1))), .flush] l) (k + 1) (1 - s) g := by
 have h2 := hs.two
 have hq : Quiet (exec1 (exec1 l (.write s (slotB (k + 1) (doneB (k + 1))))) .flush) (k + 1) (1 - s) g := by
  refine ⟨hs.turn hk, ?_, fun n hn => exec1_flush (by rw [exec1_write_ne _ (by omega)]; exact hh n hn)⟩
  rw [flush_still (by rw [exec1_write_ne _ (by omega)]; exact hl.1), exec1_write_ne _ (by omega)]
  exact hl
 refine ⟨along_cons ?_ (along_cons ?_ (along_nil hq.opensLess)), hq⟩
 ·intro l' c
  exact .inl (hO l' (hs.crash c) fun i hi hp => c.still hp)
 ·intro l' c
  have hi : ∀ i, i ≠ s → (l i).pend = [] → l' i = l i := fun i hi hp => by
   have := c.still (i := i) (by rw [exec1_write_ne _ hi]; exact hp)
   rw [this, exec1_write_ne _ hi]
  obtain ⟨c1, c2⟩ := c s
  rw [exec1_write] at c2
  simp only [Cell.poss, Cell.push, hs.pend, List.nil_append, List.mem_cons, List.not_mem_nil, or_false] at c2
  have hn : l' (1 - s) = ⟨slotB k (doneB k), []⟩ := by rw [hi _ (by omega) (by rw [hs.new])]; exact hs.new
  rcases c2 with c2 | c2
  ·exact .inl (hO l' ⟨h2, hn, c1, by rw [c2]; exact hs.old⟩ fun i hi2 hp => hi i (by omega) hp)
  ·refine .inr ⟨1 - s, .inl ⟨⟨by omega, ?_, by rw [hn], by rw [hn]; exact oldSlot_done hk (Nat.lt_succ_self _)⟩, ?_, fun n hn => by rw [hi _ (by omega) (by rw [hh n hn])]; exact hh n hn⟩⟩
   ·rw [show 1 - (1 - s) = s by omega]
    cases hc : l' s with
    | mk a p => rw [hc] at c1 c2; simp at c1 c2; rw [c1, c2]
   ·rw [hi 2 (by omega) hl.1]; exact hl
theorem Quiet.tail {l : Nat → Cell} {k s : Nat} {g : Nat → Bs} (h : Quiet l k s g) (hk : k < 2 ^ 62) :
  Along (Opens k g) (tailT (k + 1) s) l ∧ Quiet (exec (tailT (k + 1) s) l) (k + 1) (1 - s) g := by
 have hf := h.flush
 obtain ⟨h1, h2⟩ := tail_ok hk hf.slots ⟨hf.list.1, hf.list.2.mono (Nat.le_succ _)⟩ hf.home fun l' hs hi => ⟨s, .inl ⟨hs, by rw [hi 2 (by omega) hf.list.1]; exact hf.list, fun n hn => by rw [hi _ (by omega) (by rw [hf.home n hn])]; exact hf.home n hn⟩⟩
 exact ⟨along_cons h.opens h1, h2⟩
theorem exec_home_view {g : Nat → Bs} (w : List Wr) : ∀ (l : Nat → Cell) (n : Nat), (∀ x ∈ w, x.2 = g x.1) → (n ∈ w.map (·.1) ∨ (l (20 + n)).view = g n) → (exec (homeT w) l (20 + n)).view = g n := by
 induction w with
 | nil => intro l n _ h; rcases h with h | h; · simp at h
          exact h
 | cons x w ih =>
  intro l n hg h
  show (exec (homeT w) (exec1 l _) (20 + n)).view = _
  refine ih _ n (fun y hy => hg y (by simp [hy])) ?_
  by_cases hx : n = x.1
  ·subst hx
   right
   rw [exec1_write, Cell.view_push]
   exact hg x (by simp)
  ·rw [exec1_write_ne _ (by omega)]
   rcases h with h | h
   ·left
    simpa [hx] using h
   ·exact .inr h
theorem Redo.tail {l : Nat → Cell} {k s : Nat} {w : List Wr} {g : Nat → Bs} (h : Redo l k s w g) (hk : k < 2 ^ 62) :
  Along (Opens k g) (homeT w ++ tailT (k + 1) s) l ∧ Quiet (exec (homeT w ++ tailT (k + 1) s) l) (k + 1) (1 - s) g := by
 obtain ⟨h1, h2⟩ := along_inv (I := fun l => Redo l k s w g) (t := homeT w) h fun o ho l hl => by
  obtain ⟨x, hx, rfl⟩ := List.mem_map.1 ho
  exact hl.write hx
 have hf := h2.flush
 have hh : Home (exec1 (exec (homeT w) l) .flush) g := by
  intro n hn
  show (exec (homeT w) l (20 + n)).flush = _
  rw [Cell.flush, exec_home_view w l n h.is]
  by_cases hw : n ∈ w.map (·.1)
  ·exact .inl hw
  ·exact .inr (by rw [h.home n hn hw]; rfl)
 obtain ⟨h3, h4⟩ := tail_ok hk hf.slots ⟨by rw [hf.list], by rw [hf.list]; exact .inr ⟨k + 1, w, Nat.le_refl _, hf.wok, rfl⟩⟩ hh fun l' hs hi => by
  have hm := hf.wok.many
  exact ⟨s, .inr ⟨w, hs, by rw [hi 2 (by omega) (by rw [hf.list])]; exact hf.list, fun j hj => by rw [hi _ (by omega) (by rw [hf.parts j hj])]; exact hf.parts j hj, hf.wok, hf.low, hf.is, fun n hn hw => by rw [hi _ (by omega) (by rw [hf.home n hn hw])]; exact hf.home n hn hw⟩⟩
 refine ⟨along_app (h1.mono fun _ q => q.opens) (along_cons h2.opens h3), ?_⟩
 rw [exec_app]
 exact h4
structure Over (w : List Wr) (f g : Nat → Bs) : Prop where
 wok : WOk w
 low : ∀ x ∈ w, x.1 < 16
 is : ∀ x ∈ w, x.2 = g x.1
 rest : ∀ n, n < 16 → n ∉ w.map (·.1) → f n = g n
theorem mem_partsT {w : List Wr} {o : DOp} (h : o ∈ partsT w 3) (hw : WOk w) : ∃ n b, o = .write n b ∧ 3 ≤ n ∧ n < 20 ∧ b.length = 512 := by
 obtain ⟨j, hj, rfl⟩ := List.mem_map.1 h
 have hj := List.mem_range.1 hj
 have := hw.many
 refine ⟨_, _, rfl, by omega, by omega, hw.len _ ?_⟩
 rw [List.getD_eq_getElem?_getD, List.getElem?_eq_getElem hj]
 exact List.getElem_mem _
theorem exec_range (f : Nat → DOp) (b : Nat → Bs) (a : Nat) (hf : ∀ j, f j = .write (a + j) (b j)) : ∀ (m : Nat) (l : Nat → Cell) (j : Nat), j < m → (exec ((List.range m).map f) l (a + j)).view = b j := by
 intro m
 induction m with
 | zero => intro l j h; omega
 | succ m ih =>
  intro l j h
  rw [List.range_succ, List.map_append, exec_app]
  show (exec1 _ (f m) (a + j)).view = _
  rw [hf]
  by_cases e : j = m
  ·subst e; rw [exec1_write, Cell.view_push]
  ·rw [exec1_write_ne _ (by omega)]; exact ih l j (by omega)
def NoW (i : Nat) : DOp → Prop
 | .write n _ => n ≠ i
 | .flush => True
theorem still_exec {i : Nat} {b : Bs} (t : List DOp) : ∀ {l : Nat → Cell}, l i = ⟨b, []⟩ → (∀ o ∈ t, NoW i o) → exec t l i = ⟨b, []⟩ := by
 induction t with
 | nil => intro l h _; exact h
 | cons o t ih =>
  intro l h ho
  refine ih (l := exec1 l o) ?_ fun x hx => ho x (by simp [hx])
  cases o with
  | write n x => rw [exec1_write_ne x (Ne.symm (ho (.write n x) (by simp)))]; exact h
  | flush => exact exec1_flush h
theorem poss_exec {i : Nat} (t : List DOp) : ∀ {l : Nat → Cell}, (∀ o ∈ t, NoW i o) → (exec t l i).view = (l i).view ∧ ∀ b ∈ (exec t l i).poss, b ∈ (l i).poss := by
 induction t with
 | nil => intro l _; exact ⟨rfl, fun _ h => h⟩
 | cons o t ih =>
  intro l ho
  obtain ⟨h1, h2⟩ := ih (l := exec1 l o) fun x hx => ho x (by simp [hx])
  cases o with
  | write n x =>
   have e := exec1_write_ne (l := l) x (Ne.symm (ho (.write n x) (by simp)))
   rw [e] at h1 h2
   exact ⟨h1, h2⟩
  | flush =>
   refine ⟨h1, fun b hb => ?_⟩
   have := h2 b hb
   have e : exec1 l .flush i = (l i).flush := rfl
   rw [e] at this
   simp only [Cell.flush, Cell.poss, List.mem_cons, List.not_mem_nil, or_false] at this
   subst this
   exact (l i).view_mem
theorem along_still {i : Nat} {b : Bs} {t : List DOp} {l : Nat → Cell} (h : l i = ⟨b, []⟩) (ho : ∀ o ∈ t, NoW i o) : Along (fun l => l i = ⟨b, []⟩) t l := fun p q e => still_exec p h fun o hp => ho o (by rw [e]; simp [hp])
theorem not_parts {w : List Wr} {i : Nat} (hw : WOk w) (hi : 36 ≤ i) : ∀ o ∈ partsT w 3, NoW i o := by
 intro o ho
 obtain ⟨n, b, rfl, h1, h2, -⟩ := mem_partsT ho hw
 exact fun e => by omega
theorem not_home {w : List Wr} {i : Nat} (hw : ∀ x ∈ w, x.1 < 16) (hi : 36 ≤ i) : ∀ o ∈ homeT w, NoW i o := by
 intro o ho
 obtain ⟨x, hx, rfl⟩ := List.mem_map.1 ho
 exact fun e => by have := hw x hx; omega
theorem not_tail {k s i : Nat} (hs : s < 2) (hi : 36 ≤ i) : ∀ o ∈ tailT k s, NoW i o := by
 intro o ho
 simp only [tailT, List.mem_cons, List.not_mem_nil, or_false] at ho
 rcases ho with rfl | rfl | rfl
 ·trivial
 ·exact fun e => by omega
 ·trivial
theorem not_commit {k s : Nat} {w : List Wr} {i : Nat} (hw : WOk w) (hl : ∀ x ∈ w, x.1 < 16) (hs : s < 2) (hi : 36 ≤ i) : ∀ o ∈ commitT k s w, NoW i o := by
 intro o ho
 simp only [commitT, List.mem_append, List.mem_cons, List.not_mem_nil, or_false] at ho
 rcases ho with ho | (rfl | rfl | rfl) | ho | ho
 ·exact not_parts hw hi o ho
 ·trivial
 ·exact fun e => by omega
 ·trivial
 ·exact not_home hl hi o ho
 ·exact not_tail hs hi o ho
def Opens2 (k : Nat) (f g : Nat → Bs) (l0 l : Nat → Cell) : Prop := ∀ l', CrashOf l l' → Recov l' k f ∨ ((Recov l' k g ∨ Recov l' (k + 1) g) ∧ ∀ i, 36 ≤ i → l' i = ⟨(l0 i).view, []⟩)
theorem Quiet.commit {l : Nat → Cell} {k s : Nat} {w : List Wr} {f g : Nat → Bs} (h : Quiet l k s f) (ho : Over w f g) (hk : k < 2 ^ 62) :
  Along (Opens2 k f g l) (commitT (k + 1) s w) l ∧ Quiet (exec (commitT (k + 1) s w) l) (k + 1) (1 - s) g ∧ ∀ i, 36 ≤ i → exec (commitT (k + 1) s w) l i = ⟨(l i).view, []⟩ := by
 have hm := ho.wok.many
 have hs2 := h.slots.two
 obtain ⟨h1, h2⟩ := along_inv (I := fun l => Quiet l k s f) (t := partsT w 3) h fun o hop l hl => by
  obtain ⟨n, b, rfl, h1, h2, -⟩ := mem_partsT hop ho.wok
  exact hl.write b h1 (.inl h2)
 have hf := h2.flush
 have hst : ∀ i, 36 ≤ i → exec1 (exec (partsT w 3) l) .flush i = ⟨(l i).view, []⟩ := by
  intro i hi
  show (exec (partsT w 3) l i).flush = _
  rw [Cell.flush, (poss_exec _ (not_parts ho.wok hi)).1]
 have hO : ∀ {l1}, Quiet l1 k s f → Opens2 k f g l l1 := fun q l' c => .inl ⟨s, .inl (q.crash c)⟩
 have hparts : ∀ j (hj : j < w.length), exec1 (exec (partsT w 3) l) .flush (3 + j) = ⟨w[j].2, []⟩ := by
  intro j hj
  show (exec (partsT w 3) l (3 + j)).flush = _
  rw [Cell.flush]
  unfold partsT
  rw [exec_range (fun j => .write (3 + j) (w.getD j (0, [])).2) (fun j => (w.getD j (0, [])).2) 3 (fun _ => rfl) w.length l j hj, List.getD_eq_getElem?_getD, List.getElem?_eq_getElem hj]
  rfl
 have hlist : exec1 (exec1 (exec1 (exec (partsT w 3) l) .flush) (.write 2 (headB (k + 1) w))) .flush 2 = ⟨headB (k + 1) w, []⟩ := by
  show (exec1 _ _ 2).flush = _
  rw [exec1_write]
  simp [Cell.flush, Cell.view_push]
 have hR : Redo (exec1 (exec1 (exec1 (exec (partsT w 3) l) .flush) (.write 2 (headB (k + 1) w))) .flush) k s w g :=
  ⟨(hf.slots.write _ (by omega)).flush, hlist, fun j hj => exec1_flush (by rw [exec1_write_ne _ (by omega)]; exact hparts j hj), ho.wok, ho.low, ho.is,
   fun n hn hw => exec1_flush (by rw [exec1_write_ne _ (by omega), hf.home n hn, ho.rest n hn hw])⟩
 have hst2 : ∀ i, 36 ≤ i → exec1 (exec1 (exec1 (exec (partsT w 3) l) .flush) (.write 2 (headB (k + 1) w))) .flush i = ⟨(l i).view, []⟩ :=
  fun i hi => exec1_flush (by rw [exec1_write_ne _ (by omega)]; exact hst i hi)
 have hnt : ∀ i, 36 ≤ i → ∀ o ∈ homeT w ++ tailT (k + 1) s, NoW i o := fun i hi o ho' => by
  rcases List.mem_append.1 ho' with h | h
  ·exact not_home ho.low hi o h
  ·exact not_tail hs2 hi o h
 obtain ⟨h3, h4⟩ := hR.tail hk
 have h5 : Along (Opens2 k f g l) (homeT w ++ tailT (k + 1) s) (exec1 (exec1 (exec1 (exec (partsT w 3) l) .flush) (.write 2 (headB (k + 1) w))) .flush) := fun p q e l' c =>
  .inr ⟨h3 p q e l' c, fun i hi => c.sure (along_still (hst2 i hi) (hnt i hi) p q e)⟩
 refine ⟨along_app (h1.mono fun _ => hO) (along_cons (hO h2) (along_cons (hO hf) (along_cons ?_ h5))), ?_, ?_⟩
 ·intro l' c
  have hi : ∀ i, i ≠ 2 → (exec1 (exec (partsT w 3) l) .flush i).pend = [] → l' i = exec1 (exec (partsT w 3) l) .flush i := fun i hi hp => by
   have := c.still (i := i) (by rw [exec1_write_ne _ hi]; exact hp)
   rw [this, exec1_write_ne _ hi]
  have hsl : Slots l' k s := by
   have hp := hf.slots.pend
   exact ⟨hs2, by rw [hi _ (by omega) (by rw [hf.slots.new])]; exact hf.slots.new, by rw [hi _ (by omega) hp]; exact hp, by rw [hi _ (by omega) hp]; exact hf.slots.old⟩
  obtain ⟨c1, c2⟩ := c 2
  rw [exec1_write] at c2
  simp only [Cell.poss, Cell.push, hf.list.1, List.nil_append, List.mem_cons, List.not_mem_nil, or_false] at c2
  rcases c2 with c2 | c2
  ·exact .inl ⟨s, .inl ⟨hsl, ⟨c1, by rw [c2]; exact hf.list.2⟩, fun n hn => by rw [hi _ (by omega) (by rw [hf.home n hn])]; exact hf.home n hn⟩⟩
  ·refine .inr ⟨.inl ⟨s, .inr ⟨w, hsl, ?_, fun j hj => by rw [hi _ (by omega) (by rw [hparts j hj])]; exact hparts j hj, ho.wok, ho.low, ho.is, fun n hn hw => by rw [hi _ (by omega) (by rw [hf.home n hn]), hf.home n hn, ho.rest n hn hw]⟩⟩, fun i hi36 => by rw [hi i (by omega) (by rw [hst i hi36])]; exact hst i hi36⟩
   cases hc : l' 2 with
   | mk a p => rw [hc] at c1 c2; simp at c1 c2; rw [c1, c2]
 ·unfold commitT
  rw [exec_app, exec_app]
  exact h4
 ·intro i hi
  unfold commitT
  rw [exec_app, exec_app]
  exact still_exec _ (hst2 i hi) (hnt i hi)
def openT (k s : Nat) (w : List Wr) : List DOp := homeT w ++ tailT (k + 1) s
theorem quiet_open {l : Nat → Cell} {k s : Nat} {g : Nat → Bs} (h : Quiet l k s g) (hk : k < 2 ^ 62) : Along (Opens k g) (openT k s []) l ∧ Quiet (exec (openT k s []) l) (k + 1) (1 - s) g := h.tail hk
theorem redo_open {l : Nat → Cell} {k s : Nat} {w : List Wr} {g : Nat → Bs} (h : Redo l k s w g) (hk : k < 2 ^ 62) : Along (Opens k g) (openT k s w) l ∧ Quiet (exec (openT k s w) l) (k + 1) (1 - s) g := h.tail hk
theorem not_open {k s : Nat} {w : List Wr} {i : Nat} (hl : ∀ x ∈ w, x.1 < 16) (hs : s < 2) (hi : 36 ≤ i) : ∀ o ∈ openT k s w, NoW i o := by
 intro o ho
 rcases List.mem_append.1 ho with h | h
 ·exact not_home hl hi o h
 ·exact not_tail hs hi o h
theorem sized_commit {k s : Nat} {w : List Wr} (hk : k < 2 ^ 62) (hw : WOk w) : ∀ o ∈ commitT k s w, OpSized o := by
 intro o ho
 have h1 := slotB_len (c := k) (d := doneB k) (by omega) (by have := doneB_len (k := k) (by omega); omega)
 simp only [commitT, tailT, List.mem_append, List.mem_cons, List.not_mem_nil, or_false] at ho
 rcases ho with ho | (rfl | rfl | rfl) | ho | (rfl | rfl | rfl)
 ·obtain ⟨n, b, rfl, -, -, h⟩ := mem_partsT ho hw
  exact h
 ·trivial
 ·exact headB_len (by omega) hw
 ·trivial
 ·obtain ⟨x, hx, rfl⟩ := List.mem_map.1 ho
  exact hw.len x hx
 ·trivial
 ·exact h1
 ·trivial
theorem sized_open {k s : Nat} {w : List Wr} (hk : k < 2 ^ 62) (hw : WOk w) : ∀ o ∈ openT k s w, OpSized o := by
 intro o ho
 have h1 := slotB_len (c := k + 1) (d := doneB (k + 1)) (by omega) (by have := doneB_len (k := k + 1) (by omega); omega)
 simp only [openT, tailT, List.mem_append, List.mem_cons, List.not_mem_nil, or_false] at ho
 rcases ho with ho | (rfl | rfl | rfl)
 ·obtain ⟨x, hx, rfl⟩ := List.mem_map.1 ho
  exact hw.len x hx
 ·trivial
 ·exact h1
 ·trivial
end Go.Proofs.YtgpefiacbipfpaaGreatDoor

namespace Go.Proofs.YtgpefiacbipfpaaGreatDoor
abbrev Run := Nat × Nat
def expand (l : List Run) : List Nat := l.flatMap fun r => List.range' r.1 r.2
theorem expand_app (a b : List Run) : expand (a ++ b) = expand a ++ expand b := by simp [expand]
theorem expand_one (r : Run) : expand [r] = List.range' r.1 r.2 := by simp [expand]
theorem expand_cons (r : Run) (l : List Run) : expand (r :: l) = List.range' r.1 r.2 ++ expand l := rfl
def lenR (l : List Run) : Nat := (l.map (·.2)).sum
theorem expand_len (l : List Run) : (expand l).length = lenR l := by
 induction l with
 | nil => rfl
 | cons r l ih => rw [expand_cons, List.length_append, ih, List.length_range']; simp [lenR]
def putRun (l : List Run) (r : Run) : List Run :=
 match l.getLast? with
 | some x => if x.1 + x.2 = r.1 then l.dropLast ++ [(x.1, x.2 + r.2)] else l ++ [r]
 | none => [r]
theorem putRun_nil (r : Run) : putRun [] r = [r] := rfl
theorem putRun_snoc (l : List Run) (x r : Run) : putRun (l ++ [x]) r = if x.1 + x.2 = r.1 then l ++ [(x.1, x.2 + r.2)] else l ++ [x] ++ [r] := by
 simp [putRun]
theorem expand_putRun (l : List Run) (r : Run) : expand (putRun l r) = expand l ++ List.range' r.1 r.2 := by
 rcases List.eq_nil_or_concat l with rfl | ⟨l, x, rfl⟩
 ·simp [putRun_nil, expand]
 ·rw [List.concat_eq_append, putRun_snoc]
  split
  ·rename_i h
   rw [expand_app, expand_app, expand_one, expand_one, List.append_assoc]
   congr 1
   simp only
   rw [← List.range'_append_1 (s := x.1) (m := x.2) (n := r.2), h]
  ·rw [expand_app, expand_one]
theorem expand_foldl (rs : List Run) : ∀ l : List Run, expand (rs.foldl putRun l) = expand l ++ expand rs := by
 induction rs with
 | nil => intro l; simp [expand]
 | cons r rs ih => intro l; rw [List.foldl_cons, ih, expand_putRun, List.append_assoc, expand_cons]
def Canon : List Run → Prop
 | [] => True
 | [r] => 1 ≤ r.2
 | r :: q :: l => 1 ≤ r.2 ∧ r.1 + r.2 ≠ q.1 ∧ Canon (q :: l)
theorem canon_snoc : ∀ (l : List Run) (x : Run), Canon (l ++ [x]) ↔ Canon l ∧ 1 ≤ x.2 ∧ ∀ y, l.getLast? = some y → y.1 + y.2 ≠ x.1
 | [], x => by simp [Canon]
 | [r], x => by
  simp only [List.cons_append, List.nil_append, Canon, List.getLast?_singleton, Option.some.injEq, forall_eq']
  exact and_congr_right fun _ => and_comm
 | r :: q :: l, x => by
  have ih := canon_snoc (q :: l) x
  have e : (r :: q :: l).getLast? = (q :: l).getLast? := List.getLast?_cons_cons
  simp only [List.cons_append] at ih ⊢
  rw [e]
  simp only [Canon]
  rw [ih]
  constructor
  ·rintro ⟨a, b, c, d⟩; exact ⟨⟨a, b, c⟩, d⟩
  ·rintro ⟨⟨a, b, c⟩, d⟩; exact ⟨a, b, c, d⟩
theorem canon_putRun {l : List Run} {r : Run} (h : Canon l) (hr : 1 ≤ r.2) : Canon (putRun l r) := by
 rcases List.eq_nil_or_concat l with rfl | ⟨l, x, rfl⟩
 ·exact hr
 ·rw [List.concat_eq_append] at *
  rw [putRun_snoc]
  split
  ·rw [canon_snoc] at h ⊢
   exact ⟨h.1, by have := h.2.1; show 1 ≤ x.2 + r.2; omega, h.2.2⟩
  ·rename_i hne
   rw [canon_snoc]
   exact ⟨h, hr, fun y hy => by simp at hy; subst hy; exact hne⟩
theorem canon_foldl (rs : List Run) : ∀ l : List Run, Canon l → (∀ r ∈ rs, 1 ≤ r.2) → Canon (rs.foldl putRun l) := by
 induction rs with
 | nil => intro l h _; exact h
 | cons r rs ih => intro l h hr; exact ih _ (canon_putRun h (hr r (by simp))) fun x hx => hr x (by simp [hx])
theorem canon_pos : ∀ {l : List Run}, Canon l → ∀ r ∈ l, 1 ≤ r.2
 | [], _, r, hr => by simp at hr
 | [x], h, r, hr => by simp at hr; subst hr; exact h
 | x :: y :: l, h, r, hr => by
  rcases List.mem_cons.1 hr with rfl | hr
  ·exact h.1
  ·exact canon_pos h.2.2 r hr
theorem canon_left : ∀ (rs m : List Run), Canon (m ++ rs) → Canon m := by
 intro rs
 generalize hn : rs.length = n
 induction n generalizing rs with
 | zero => intro m h; obtain rfl := List.eq_nil_of_length_eq_zero hn; simpa using h
 | succ n ih =>
  intro m h
  rcases List.eq_nil_or_concat rs with rfl | ⟨rs, x, rfl⟩
  ·simp at hn
  ·rw [List.concat_eq_append, ← List.append_assoc, canon_snoc] at h
   exact ih rs (by simp at hn; exact hn) m h.1
theorem foldl_canon : ∀ (rs l : List Run), Canon (l ++ rs) → rs.foldl putRun l = l ++ rs := by
 intro rs
 induction rs with
 | nil => intro l _; simp
 | cons r rs ih =>
  intro l h
  have e : l ++ r :: rs = (l ++ [r]) ++ rs := by simp
  have hc : Canon (l ++ [r]) := by
   rw [e] at h
   exact canon_left rs _ h
  have hp : putRun l r = l ++ [r] := by
   rcases List.eq_nil_or_concat l with rfl | ⟨l, x, rfl⟩
   ·rfl
   ·rw [List.concat_eq_append] at *
    rw [canon_snoc] at hc
    rw [putRun_snoc, if_neg (hc.2.2 x (by simp))]
  rw [List.foldl_cons, hp, ih (l ++ [r]) (by rw [← e]; exact h), ← e]
def runLen (f : Nat → Bool) (n : Nat) (i : Nat) : Nat := if i < n then if f i then runLen f n (i + 1) + 1 else 0 else 0
 termination_by n - i
def frees (f : Nat → Bool) (n : Nat) (i : Nat) : List Run :=
 if i < n then if runLen f n i = 0 then frees f n (i + 1) else (i, runLen f n i) :: frees f n (i + runLen f n i + 1) else []
 termination_by n - i
 decreasing_by all_goals omega
theorem runLen_le (f : Nat → Bool) (n i : Nat) : i + runLen f n i ≤ n ∨ n ≤ i := by
 induction h : n - i generalizing i with
 | zero => right; omega
 | succ m ih =>
  left
  rw [runLen]
  split
  ·split
   ·rcases ih (i + 1) (by omega) with q | q
    ·omega
    ·have : runLen f n (i + 1) = 0 := by rw [runLen, if_neg (by omega)]
     omega
   ·omega
  ·omega
def freeList (f : Nat → Bool) (n i : Nat) : List Nat := (List.range' i (n - i)).filter f
theorem freeList_step (f : Nat → Bool) (n i : Nat) (h : i < n) : freeList f n i = if f i then i :: freeList f n (i + 1) else freeList f n (i + 1) := by
 unfold freeList
 rw [show n - i = (n - (i + 1)) + 1 by omega, List.range'_succ, List.filter_cons]
theorem freeList_run (f : Nat → Bool) (n i : Nat) (h : i < n) : freeList f n i = List.range' i (runLen f n i) ++ freeList f n (i + runLen f n i) := by
 induction hm : n - i generalizing i with
 | zero => omega
 | succ m ih =>
  rw [runLen, if_pos h]
  split
  ·rename_i hf
   rw [freeList_step f n i h, if_pos hf]
   by_cases h1 : i + 1 < n
   ·rw [ih (i + 1) h1 (by omega), Nat.add_comm (runLen f n (i + 1)) 1, Nat.add_comm 1 (runLen f n (i + 1)), List.range'_succ, List.cons_append]
    congr 3
    omega
   ·have e : runLen f n (i + 1) = 0 := by rw [runLen, if_neg (by omega)]
    rw [e]
    simp [List.range'_succ]
  ·simp
theorem runLen_end (f : Nat → Bool) (n i : Nat) (h : i + runLen f n i < n) : f (i + runLen f n i) = false := by
 induction hm : n - i generalizing i with
 | zero => rcases runLen_le f n i with q | q <;> omega
 | succ m ih =>
  rw [runLen, if_pos (by omega)] at h ⊢
  split
  ·rename_i hf
   rw [if_pos hf] at h
   have := ih (i + 1) (by omega) (by omega)
   rw [show i + (runLen f n (i + 1) + 1) = i + 1 + runLen f n (i + 1) by omega]
   exact this
  ·rename_i hf
   simpa using hf
theorem expand_frees (f : Nat → Bool) (n i : Nat) : expand (frees f n i) = freeList f n i := by
 induction hm : n - i using Nat.strongRecOn generalizing i with
 | _ m ih =>
  subst hm
  rw [frees]
  split
  ·rename_i h
   have hl := runLen_le f n i
   split
   ·rename_i h0
    rw [ih _ (by omega) (i + 1) rfl]
    have := freeList_step f n i h
    have hf : f i = false := by have := runLen_end f n i (by omega); rwa [h0] at this
    rw [this, hf]; rfl
   ·rw [expand_cons, ih _ (by omega) _ rfl, freeList_run f n i h]
    congr 1
    by_cases h1 : i + runLen f n i < n
    ·rw [freeList_step f n _ h1, runLen_end f n i h1]; rfl
    ·unfold freeList
     rw [show n - (i + runLen f n i) = 0 by omega, show n - (i + runLen f n i + 1) = 0 by omega]; rfl
  ·unfold freeList
   rw [show n - i = 0 by omega]; rfl
theorem frees_pos (f : Nat → Bool) (n i : Nat) : ∀ r ∈ frees f n i, 1 ≤ r.2 ∧ r.1 + r.2 ≤ n := by
 induction hm : n - i using Nat.strongRecOn generalizing i with
 | _ m ih =>
  subst hm
  intro r hr
  rw [frees] at hr
  split at hr
  ·rename_i h
   have hl := runLen_le f n i
   split at hr
   ·exact ih _ (by omega) (i + 1) rfl r hr
   ·rcases List.mem_cons.1 hr with rfl | hr
    ·exact ⟨by show 1 ≤ runLen f n i; omega, by show i + runLen f n i ≤ n; omega⟩
    ·exact ih _ (by omega) _ rfl r hr
  ·simp at hr
def takeR : List Run → Nat → List Run
 | [], _ => []
 | r :: l, n => if n = 0 then [] else (r.1, min r.2 n) :: takeR l (n - min r.2 n)
theorem expand_takeR : ∀ (l : List Run) (n : Nat), expand (takeR l n) = (expand l).take n
 | [], n => by simp [takeR, expand]
 | r :: l, n => by
  rw [takeR]
  split
  ·rename_i h; subst h; simp [expand]
  ·rw [expand_cons, expand_cons, expand_takeR l, List.take_append, List.length_range']
   congr 1
   ·apply List.ext_getElem?
    intro i
    simp only [List.getElem?_take]
    grind
   ·congr 1
    omega
theorem takeR_pos : ∀ (l : List Run) (n : Nat), (∀ r ∈ l, 1 ≤ r.2) → ∀ r ∈ takeR l n, 1 ≤ r.2
 | [], n, _, r, hr => by simp [takeR] at hr
 | x :: l, n, h, r, hr => by
  rw [takeR] at hr
  split at hr
  ·simp at hr
  ·rcases List.mem_cons.1 hr with rfl | hr
   ·have := h x (by simp); show 1 ≤ min x.2 n; omega
   ·exact takeR_pos l _ (fun y hy => h y (by simp [hy])) r hr
theorem takeR_le : ∀ (l : List Run) (n m : Nat), (∀ r ∈ l, r.1 + r.2 ≤ m) → ∀ r ∈ takeR l n, r.1 + r.2 ≤ m
 | [], n, _, _, r, hr => by simp [takeR] at hr
 | x :: l, n, m, h, r, hr => by
  rw [takeR] at hr
  split at hr
  ·simp at hr
  ·rcases List.mem_cons.1 hr with rfl | hr
   ·have := h x (by simp); show x.1 + min x.2 n ≤ m; omega
   ·exact takeR_le l _ m (fun y hy => h y (by simp [hy])) r hr
theorem lenR_takeR (l : List Run) (n : Nat) (h : n ≤ lenR l) : lenR (takeR l n) = n := by
 rw [← expand_len, expand_takeR, List.length_take, expand_len]; omega
theorem mem_expand {l : List Run} {b : Nat} : b ∈ expand l ↔ ∃ r ∈ l, r.1 ≤ b ∧ b < r.1 + r.2 := by
 simp only [expand, List.mem_flatMap, List.mem_range'_1]
theorem mem_freeList {f : Nat → Bool} {n b : Nat} : b ∈ freeList f n 0 ↔ b < n ∧ f b = true := by
 simp only [freeList, List.mem_filter, List.mem_range'_1]
 constructor
 ·rintro ⟨⟨-, h⟩, g⟩; exact ⟨by omega, g⟩
 ·rintro ⟨h, g⟩; exact ⟨⟨by omega, by omega⟩, g⟩
theorem nodup_freeList (f : Nat → Bool) (n : Nat) : (freeList f n 0).Nodup := (List.nodup_range' ..).filter _
end Go.Proofs.YtgpefiacbipfpaaGreatDoor
