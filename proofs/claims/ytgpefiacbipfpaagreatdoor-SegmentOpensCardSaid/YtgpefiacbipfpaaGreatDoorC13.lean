/- The document's codec: U32. -/
import Derived.Deep.CutBlock
import Derived.Handy
import Derived.OpenShut
import Derived.Lib.Hide
import Derived.Deep.LoopGhost
import Derived.Test.YtgpefiacbipfpaaGreatDoorC12
set_option maxRecDepth 100000
set_option maxHeartbeats 4000000
namespace Go.Proofs.YtgpefiacbipfpaaGreatDoor
open Go.RowKit
def sC (b : Bs) : Nat → Nat
 | 0 => (b.getD 3 0).toNat * 16777216 + (b.getD 2 0).toNat * 65536 + (b.getD 1 0).toNat * 256 + (b.getD 0 0).toNat
 | 1 => (b.getD 3 0).toNat * 65536 + (b.getD 2 0).toNat * 256 + (b.getD 1 0).toNat
 | 2 => (b.getD 3 0).toNat * 256 + (b.getD 2 0).toNat
 | 3 => (b.getD 3 0).toNat
 | _ => 0
theorem Nc (b : Bs) {j : Nat} (h : j < 4) : sC b (j + 1) * 256 + (b.getD j 0).toNat = sC b j ∧ sC b j < 4294967296 := by
 have h0 := (b.getD 0 0).toNat_lt
 have h1 := (b.getD 1 0).toNat_lt
 have h2 := (b.getD 2 0).toNat_lt
 have h3 := (b.getD 3 0).toNat_lt
 match j, h with
 | 0, _ => simp only [sC]; omega
 | 1, _ => simp only [sC]; omega
 | 2, _ => exact ⟨rfl, by simp only [sC]; omega⟩
 | 3, _ => exact ⟨by show 0 * 256 + _ = _; rw [Nat.zero_mul, iJ]; rfl, by simp only [sC]; omega⟩
theorem Cm {a b k : Nat} (h : a < 2 ^ k) : a ||| b <<< k = a + b * 2 ^ k := by
 rw [AR, mO, mD b, ← AS h, Nat.add_comm]
theorem Nf (b : Bs) (h : 4 ≤ b.length) : lM b = sC b 0 := by
 match b, h with
 | x :: y :: z :: t :: r, _ =>
  have h0 := x.toNat_lt
  have h1 := y.toNat_lt
  have h2 := z.toNat_lt
  show x.toNat ||| y.toNat <<< 8 ||| z.toNat <<< 16 ||| t.toNat <<< 24 = t.toNat * 16777216 + z.toNat * 65536 + y.toNat * 256 + x.toNat
  rw [Cm (k := 8) (by omega), Cm (k := 16) (by omega), Cm (k := 24) (by omega)]
  omega
theorem Ng (w : World) {v : Value} {b : Bs} (hv : Rd w v b) (h4 : 4 ≤ b.length) : Calls Tryz.prog 160 #[v] w fun e w' => e = .returned (.tuple #[.int .u32 (lM b), .int .i64 0]) ∧ w' = w := by
 obtain ⟨a, c, rfl, h1, h2, h3⟩ := hv.slice
 obtain ⟨n, hn⟩ : ∃ n, n = b.length := ⟨_, rfl⟩
 rw [← hn] at hv h1 h3 h4 ⊢
 have HV := aA (aC hv hn)
 have HG := aA (Nf b (by omega))
 have h4' : ¬ (n : Int) < 4 := by omega
 have hnl : (n : Int) ≤ 9223372036854775807 := by omega
 clear hv hn h3
 go_in
 go_wp2_with fail
 go_loopg [4, 5] 5 (fun gh s4 s5 wr => wr = w ∧ ∃ (j : Nat) (i : Int) (m : Nat), s5 = .int .i64 i ∧ i = (j : Int) - 1 ∧ j ≤ 4 ∧ gh = j + 1 ∧ s4 = .int .u32 m ∧ Hid (m = sC b j))
 case atStart => exact ⟨rfl, 4, 3, 0, rfl, rfl, by omega, rfl, rfl, aA rfl⟩
 case round =>
  obtain ⟨rfl, j, i, m, rfl, hi, hj, rfl, rfl, HM⟩ := hrel
  by_cases h0 : j = 0
  ·subst h0
   obtain rfl : i = -1 := by omega
   have hneg : decide ((0 : Int) ≤ -1) = false := by decide
   clear hi
   go_wp2_with fail
   go_ret2
   exact ⟨by rw [HG.out, ← HM.out]; rfl, rfl⟩
  obtain ⟨k, rfl⟩ : ∃ k, j = k + 1 := ⟨j - 1, by omega⟩
  obtain rfl : i = (k : Int) := by omega
  obtain ⟨g, hg⟩ : ∃ g, g = b.getD k 0 := ⟨_, rfl⟩
  obtain ⟨h5, h6⟩ := Nc b (j := k) (by omega)
  rw [← hg, ← HM.out] at h5
  have hk : k < b.length := by rw [← HV.out.2]; omega
  have hkn : (k : Int) < (n : Int) := by omega
  have hgk : g = b[k] := by rw [hg, dI, bL hk]; rfl
  obtain ⟨b0, off, rfl, hcell⟩ := HV.out.1.cell.2.2.2 (by omega)
  have d0 := hcell k hk
  rw [← hgk] at d0
  have hkc : (k : Int) < (c : Int) := by omega
  clear hcell hgk hg
  have hw1 : IntKind.u32.wrap ((m : Int) * 256) = (m : Int) * 256 := by rw [Ed]; omega
  have hw2 : IntKind.u32.wrap ((m : Int) * 256 + (g.toNat : Int)) = (m : Int) * 256 + (g.toNat : Int) := by rw [Ed]; omega
  have hgw : IntKind.u32.wrap (g.toNat : Int) = (g.toNat : Int) := by have := g.toNat_lt; rw [Ed]; omega
  have HN := aA h5
  clear h5 h6 hi
  go_wp2_with fail
  go_roundg (k + 1)
  case measure => omega
  case rel => exact ⟨rfl, k, (k : Int) - 1, m * 256 + g.toNat, by go_num, rfl, by omega, rfl, by rw [tS, Int.natCast_mul]; rfl, HN⟩
end Go.Proofs.YtgpefiacbipfpaaGreatDoor
namespace Go.Proofs.YtgpefiacbipfpaaGreatDoor
def gB : Bs → Nat
 | [] => 0
 | c :: r => c.toNat % 128 + 128 * gB r
def dV : Nat → Bs → Nat
 | 0, _ => 0
 | _ + 1, [] => 0
 | k + 1, c :: r => if 128 ≤ c.toNat then dV k r + 1 else 0
theorem Gh : ∀ (k : Nat) (b : Bs), dV k b ≤ k ∧ dV k b ≤ b.length
 | 0, _ => by simp [dV]
 | _ + 1, [] => by simp [dV]
 | k + 1, c :: r => by
  have := Gh k r
  unfold dV
  split
  ·rw [eG]; omega
  omega
theorem Gi : ∀ (k : Nat) (b : Bs) (i : Nat) (_ : i < dV k b) (hb : i < b.length), 128 ≤ (b[i]).toNat
 | 0, _, i, h, _ => by simp [dV] at h
 | _ + 1, [], _, _, hb => by simp at hb
 | k + 1, c :: r, i, h, hb => by
  unfold dV at h
  split at h
  ·rename_i hc
   match i, h, hb with
   | 0, _, _ => exact hc
   | i + 1, h, hb => exact Gi k r i (by omega) (by simpa using hb)
  omega
theorem Cn : ∀ (k : Nat) (b : Bs) (_ : dV k b < k) (hb : dV k b < b.length), (b[dV k b]).toNat < 128
 | 0, _, h, _ => by omega
 | _ + 1, [], _, hb => by simp at hb
 | k + 1, c :: r, h, hb => by
  by_cases hc : 128 ≤ c.toNat
  ·have e : dV (k + 1) (c :: r) = dV k r + 1 := by rw [dV, aF hc]
   have h2 := Cn k r (by omega) (by rw [e] at hb; simpa using hb)
   simp only [e, JW]
   exact h2
  have e : dV (k + 1) (c :: r) = 0 := by rw [dV, aE hc]
  simp only [e, List.getElem_cons_zero]
  omega
theorem Co : ∀ (k i acc : Nat) (b : Bs), k + i = 10 → acc < 2 ^ (7 * i) → dA k i acc b =
  if dV k b = k then (0, 0, 11)
  else if dV k b = b.length then (0, 0, 10)
  else if (0 < i + dV k b ∧ (b.getD (dV k b) 0).toNat = 0) ∨ (i + dV k b = 9 ∧ 1 < (b.getD (dV k b) 0).toNat) then (0, 0, 11)
  else ((acc + gB (b.take (dV k b + 1)) * 2 ^ (7 * i)) % 2 ^ 64, i + dV k b + 1, 0)
 | 0, i, acc, b, _, _ => by simp [dA, dV]
 | k + 1, i, acc, [], _, _ => by simp [dA, dV]
 | k + 1, i, acc, c :: r, hk, ha => by
  have hc := c.toNat_lt
  have hor : acc ||| (c.toNat % 128) <<< (7 * i) = acc + (c.toNat % 128) * 2 ^ (7 * i) := Bj ha
  by_cases h : 128 ≤ c.toNat
  ·have e : dV (k + 1) (c :: r) = dV k r + 1 := by rw [dV, aF h]
   by_cases hi : i = 9
   ·obtain rfl : k = 0 := by omega
    rw [dA]
    simp only [aF h]
    rw [dA, aF (by rw [e]; simp [dV])]
   have hi9 : i < 9 := by omega
   have hp : 2 ^ (7 * (i + 1)) = 128 * 2 ^ (7 * i) := by rw [yT, Nat.pow_add, mD]
   have hp2 : 2 ^ (7 * (i + 1)) ≤ 2 ^ 63 := Nat.pow_le_pow_right (by omega) (by omega)
   have hm : (c.toNat % 128) * 2 ^ (7 * i) ≤ 127 * 2 ^ (7 * i) := wH _ (by omega)
   have hlt : acc + (c.toNat % 128) * 2 ^ (7 * i) < 2 ^ (7 * (i + 1)) := by omega
   have ih := Co k (i + 1) (acc + (c.toNat % 128) * 2 ^ (7 * i)) r (by omega) hlt
   rw [dA]
   simp only [aF h]
   rw [hor, tO (dN hlt (bG hp2 (by decide))), ih, e]
   have e1 : (dV k r + 1 = k + 1) = (dV k r = k) := by simp
   have e2 : (dV k r + 1 = (c :: r).length) = (dV k r = r.length) := by simp
   have e3 : i + 1 + dV k r = i + (dV k r + 1) := by omega
   have e4 : acc + c.toNat % 128 * 2 ^ (7 * i) + gB (r.take (dV k r + 1)) * 2 ^ (7 * (i + 1)) = acc + gB ((c :: r).take (dV k r + 1 + 1)) * 2 ^ (7 * i) := by
    rw [Kb, gB, hp, yK, yN, Nat.add_left_cancel_iff, Nat.add_left_cancel_iff, ← DF, mD (gB _) 128]
   rw [e3, e4]
   simp only [e1, e2, List.getD_cons_succ]
  have e : dV (k + 1) (c :: r) = 0 := by rw [dV, aE h]
  rw [dA, e]
  simp only [aE h]
  rw [aE (by omega : ¬ 0 = k + 1), aE (by simp : ¬ 0 = (c :: r).length)]
  simp only [kU, List.getD_cons_zero, iJ]
  have e5 : gB ((c :: r).take 1) = c.toNat % 128 := by simp [gB]
  rw [hor, e5]
theorem Gj : ∀ (k n : Nat), 128 ^ k ≤ n → k + 1 ≤ (aN n).length
 | 0, n, _ => by have := sQ n; omega
 | k + 1, n, h => by
  have hp : 128 ^ (k + 1) = 128 * 128 ^ k := by rw [Nat.pow_succ, mD]
  have h1 : 1 ≤ 128 ^ k := Nat.pow_pos (by omega)
  have hn : ¬ n < 128 := by omega
  have h2 := Gj k (n / 128) (by omega)
  rw [vC hn, eG]
  omega
theorem Gk (l : Bs) (c : UInt8) : gB (l ++ [c]) = gB l + (c.toNat % 128) * 128 ^ l.length := by
 induction l with
 | nil => simp [gB]
 | cons x l ih =>
  rw [List.cons_append, gB, gB, ih, eG, Nat.pow_succ, yT, ← DF, mD 128 (c.toNat % 128), DF, mD 128 (128 ^ _), yN]
theorem Cp (l : Bs) : gB l < 128 ^ l.length := by
 induction l with
 | nil => simp [gB]
 | cons x l ih =>
  have hp : 128 ^ (x :: l).length = 128 * 128 ^ l.length := by rw [eG, Nat.pow_succ, mD]
  rw [gB, hp]
  omega
theorem Nh (l : Bs) (c : UInt8) (hc : c.toNat < 128) : (aN (gB (l ++ [c]))).length = l.length + 1 ↔ ¬ (0 < l.length ∧ c.toNat = 0) := by
 have h1 := Cp l
 have h2 : gB (l ++ [c]) = gB l + c.toNat * 128 ^ l.length := by rw [Gk, tO hc]
 have h3 : gB (l ++ [c]) < 128 ^ (l.length + 1) := by
  have := Cp (l ++ [c])
  rwa [bD, DR] at this
 have h4 := mE l.length _ h3
 by_cases h0 : c.toNat = 0
 ·rw [h0, Nat.zero_mul, kU] at h2
  cases l with
  | nil =>
   have := sQ (gB ([] ++ [c]))
   simp only [lJ] at h4 ⊢
   omega
  | cons x l =>
   have h5 := mE l.length (gB (x :: l ++ [c])) (by rw [h2]; simpa using h1)
   simp only [eG]
   omega
 have h5 : 128 ^ l.length ≤ gB (l ++ [c]) := by
  rw [h2]
  exact bG (Nat.le_mul_of_pos_left _ (by omega)) (Nat.le_add_left _ _)
 have h6 := Gj l.length _ h5
 omega
theorem Gl (b : Bs) {i : Nat} (h : i < b.length) : b.take (i + 1) = b.take i ++ [b[i]] := by rw [iK, bL h]; rfl
theorem Ni (b : Bs) {k : Nat} (hk : k = dV 10 b) (h10 : k < 10) (hb : k < b.length) {m : Nat} (hm : m = gB (b.take (k + 1)) % 2 ^ 64) :
  cX b = if (aN m).length ≠ k + 1 ∨ (k = 9 ∧ 1 < (b[k]).toNat) then (0, 0, 11) else (m, k + 1, 0) := by
 have hc : (b[k]).toNat < 128 := by
  subst hk
  exact Cn 10 b h10 hb
 have h := Co 10 0 0 b (by omega) (by omega)
 rw [← hk, aE (by omega), aE (by omega)] at h
 have hg : b.getD k 0 = b[k] := by rw [dI, bL hb]; rfl
 rw [hg] at h
 simp only [iJ, Nat.mul_zero, Nat.pow_zero, jI] at h
 rw [← hm] at h
 have hl : (b.take k).length = k := by rw [bX]; omega
 rw [show cX b = dA 10 0 0 b from rfl, h]
 by_cases hB : k = 9 ∧ 1 < (b[k]).toNat
 ·rw [aF (.inr hB), aF (.inr hB)]
 have hS : gB (b.take (k + 1)) < 2 ^ 64 := by
  rw [Gl b hb, Gk, hl]
  have h1 := Cp (b.take k)
  rw [hl] at h1
  by_cases h9 : k = 9
  ·have h2 : (b[k]).toNat ≤ 1 := by omega
   have h3 : (b[k]).toNat % 128 * 128 ^ k ≤ 1 * 128 ^ k := wH _ (by omega)
   have h4 : (128 : Nat) ^ k = 9223372036854775808 := by rw [h9]
   omega
  have h3 : (b[k]).toNat % 128 * 128 ^ k ≤ 127 * 128 ^ k := wH _ (by omega)
  have h4 : (128 : Nat) ^ k ≤ 128 ^ 8 := Nat.pow_le_pow_right (by omega) (by omega)
  have h5 : (128 : Nat) ^ 8 = 72057594037927936 := by decide
  omega
 have hm2 : m = gB (b.take k ++ [b[k]]) := by rw [hm, tO hS, Gl b hb]
 have hp := Nh (b.take k) b[k] hc
 rw [← hm2, hl] at hp
 by_cases hA : 0 < k ∧ (b[k]).toNat = 0
 ·rw [aF (.inl hA), aF (.inl fun e => (hp.1 e) hA)]
 rw [aE (fun q => q.elim hA hB), aE (fun q => q.elim (fun e => e (hp.2 hA)) hB)]
open Go.RowKit
theorem Nj (w : World) (n : Nat) (hn : n < 2 ^ 64) : Calls Tryz.prog 34 #[.int .u64 n] w fun e w' => ∃ v', e = .returned v' ∧ Ow w' w.heap.size v' (aN n) ∧ aB [] w w' := by
 have HL := aA (gX hn)
 have HN0 := aA hn
 clear hn
 go_in
 go_wp2_with fail
 go_loopg [0, 3] (n + 1) (fun gh s0 s3 wr => ∃ (m : Nat) (P : Bs), s0 = .int .u64 m ∧ gh = m + 1 ∧ P.length ≤ 10 ∧ Hid (Ow wr w.heap.size s3 P ∧ aB [] w wr ∧ P ++ aN m = aN n ∧ m < 2 ^ 64))
 case atStart => exact ⟨n, [], rfl, rfl, by simp, aA ⟨aK.nil _ _, aB.refl _ _, rfl, HN0.out⟩⟩
 case round =>
  obtain ⟨m, P, rfl, rfl, hP, HS⟩ := hrel
  obtain ⟨a3, c3, m3, hm3, rfl⟩ := HS.out.1.sliceM
  clear hm3
  by_cases h1 : m < 128
  ·have h1' : ¬ (128 : Int) ≤ (m : Int) := by omega
   have hdt : (UInt8.ofNat m).toNat = m := by rw [qD]; omega
   have HB := aA hdt
   have hm8 : (m : Int) < 128 := by omega
   clear hdt
   go_wp2_with (first
    | (at_builtin; refine fS T8 rfl _ _ rfl (base := w.heap.size) (l := P) (r := [UInt8.ofNat m]) (by rfl) (HS.out.1.upd ((aB.refl [] wr).alloc _) (by simp)) (by rfl) (iS T8 (ty := 5) (B := wr.heap.size) (by rw [show aP c8 [UInt8.ofNat m] = [.int .u8 m] by simp [aP, c8, HB.out]]; exact nC _ _ _ rfl)) (lQ _) ?c1 ?c2 ?c3 ?_)
    | fail)
   case c1 => first | omega | (simp; omega)
   case c2 => first | omega | (simp; omega)
   case c3 => have := HS.out.2.1.size; simp; omega
   intro v4 w4 ho4 hg4 hn4
   have hu4 : aB [] w w4 := (HS.out.2.1.alloc _).grown hg4 (fun g hg => (HS.out.1.block g hg).1)
   have h := HS.out.2.2.1
   rw [qH h1] at h
   rw [h] at ho4
   have H4 := aA (aC ho4 hu4)
   obtain ⟨a4, c4, m4, hm4, rfl⟩ := ho4.sliceM
   clear ho4 hu4 hg4 hn4 hm4 h
   go_wp2_with fail
   go_ret
   exact ⟨_, rfl, H4.out⟩
  have h1' : (128 : Int) ≤ (m : Int) := by omega
  obtain ⟨d, hd⟩ : ∃ d, d = m % 128 := ⟨_, rfl⟩
  obtain ⟨q, hq⟩ : ∃ q, q = m / 128 := ⟨_, rfl⟩
  have q1 : (m : Int) % 128 = (d : Int) := by omega
  have q2 : (m : Int) / 128 = (q : Int) := by omega
  have hd8 : d < 128 := by omega
  have hqm : q < m := by omega
  have hq64 : q < 2 ^ 64 := yJ hqm HS.out.2.2.2
  have hwq : IntKind.u64.wrap (q : Int) = (q : Int) := by rw [nU]; omega
  have HQ := aA hq64
  clear hq64
  obtain ⟨cb, hcb⟩ : ∃ cb, cb = UInt8.ofNat (d + 128) := ⟨_, rfl⟩
  have hdt : (UInt8.ofNat (d + 128)).toNat = 128 + d := by rw [qD]; omega
  have HB := aA hdt
  have HN : Hid ((P ++ [cb]) ++ aN q = aN n) := aA (by
   rw [hcb, ← HS.out.2.2.1, vC h1, hd, hq, eJ]; rfl)
  have hP2 : P.length + 1 ≤ 10 := by
   have h := bM List.length HN.out
   have := sQ q
   have := HL.out
   simp at h
   omega
  have hd8' : (128 : Int) + (d : Int) < 256 := by omega
  have F8 : Hid (aP c8 [cb] = [.int .u8 ((128 : Int) + (d : Int))]) := aA (by
   have : (cb.toNat : Int) = 128 + (d : Int) := by rw [hcb, hdt]; omega
   show [Value.int .u8 (cb.toNat : Int)] = _
   rw [this])
  clear hd hq hdt hcb
  go_wp2_with (first
   | (at_builtin; refine fS T8 rfl _ _ rfl (base := w.heap.size) (l := P) (r := [cb]) (by rfl) (HS.out.1.upd ((aB.refl [] wr).alloc _) (by simp)) (by rfl) (iS T8 (ty := 5) (B := wr.heap.size) (by rw [F8.out]; exact nC _ _ _ rfl)) (lQ _) ?c1 ?c2 ?c3 ?_)
   | fail)
  case c1 => first | omega | (simp; omega)
  case c2 => first | omega | (simp; omega)
  case c3 => have := HS.out.2.1.size; simp; omega
  intro v4 w4 ho4 hg4 hn4
  have hu4 : aB [] w w4 := (HS.out.2.1.alloc _).grown hg4 (fun g hg => (HS.out.1.block g hg).1)
  have H4 := aA (aC ho4 (aC hu4 (aC HN.out HQ.out)))
  obtain ⟨a4, c4, m4, hm4, rfl⟩ := ho4.sliceM
  clear ho4 hu4 hg4 hn4 hm4 HN
  go_wp2_with fail
  go_roundg (q + 1)
  case measure => omega
  case rel => exact ⟨q, P ++ [cb], by go_num, rfl, by rw [bD, DR]; omega, H4⟩
theorem Cq (w : World) {v : Value} {b : Bs} (hv : Rd w v b) : Calls Tryz.prog 159 #[v] w fun e w' => e = .returned (.tuple #[.int .u64 (cX b).1, .int .i64 (cX b).2.1, .int .i64 (cX b).2.2]) ∧ aB [] w w' := by
 obtain ⟨a, c, rfl, h1, h2, h3⟩ := hv.slice
 obtain ⟨n, hn⟩ : ∃ n, n = b.length := ⟨_, rfl⟩
 rw [← hn] at hv h1 h3 ⊢
 obtain ⟨K, hK⟩ : ∃ K, K = dV 10 b := ⟨_, rfl⟩
 have hle := Gh 10 b
 rw [← hK, ← hn] at hle
 have hK10 : K ≤ 10 := hle.1
 have hKn : K ≤ n := hle.2
 have HV := aA (aC hv (aC hn hK))
 have hnl : (n : Int) ≤ 9223372036854775807 := by omega
 clear hv hn h3 hK hle
 go_in
 go_upto_block 0 with (fail)
 go_cut [5] (fun s5 wx => s5 = .int .i64 K ∧ wx = w)
 case first =>
  go_wp2_with fail
  go_loopg [5] (K + 1) (fun gh s5 wr => wr = w ∧ ∃ j : Nat, s5 = .int .i64 j ∧ j ≤ K ∧ gh = K + 1 - j)
  case atStart => exact ⟨rfl, 0, rfl, dH _, rfl⟩
  case round =>
   obtain ⟨rfl, j, rfl, hj, rfl⟩ := hrel
   rcases kP j n with hjn | hjn
   ·have hjn' : (j : Int) < (n : Int) := by omega
    rcases kP j 10 with hj10 | hj10
    ·have hj10' : (j : Int) < 10 := by omega
     obtain ⟨b0, off, rfl, hcell⟩ := HV.out.1.cell.2.2.2 (by omega)
     have hjb : j < b.length := by rw [← HV.out.2.1]; exact hjn
     have d0 := hcell j hjb
     obtain ⟨g, hg⟩ : ∃ g, g = (b[j]).toNat := ⟨_, rfl⟩
     rw [← hg] at d0
     have hjc : (j : Int) < (c : Int) := by omega
     clear hcell
     by_cases hjk : j < K
     ·have hg1 : 128 ≤ g := by rw [hg]; exact Gi 10 b j (by rw [← HV.out.2.2]; exact hjk) hjb
      have hg2 : (128 : Int) ≤ (g : Int) := by omega
      clear hg
      go_wp2_with fail
      go_roundg (K + 1 - (j + 1))
      case measure => omega
      case rel => exact ⟨rfl, j + 1, by go_num, by omega, rfl⟩
     obtain rfl : j = K := by omega
     have hg1 : g < 128 := by
      rw [hg]
      have := Cn 10 b (by rw [← HV.out.2.2]; exact hj10) (by rw [← HV.out.2.2]; exact hjb)
      simpa only [← HV.out.2.2] using this
     have hg2 : ¬ (128 : Int) ≤ (g : Int) := by omega
     clear hg
     go_wp2_with fail
     go_meet
     case rel => exact ⟨rfl, rfl⟩
    obtain rfl : j = 10 := by omega
    obtain rfl : K = 10 := by omega
    go_wp2_with fail
    go_meet
    case rel => exact ⟨rfl, rfl⟩
   have hjn' : ¬ (j : Int) < (n : Int) := by omega
   obtain rfl : j = K := by omega
   go_wp2_with fail
   go_meet
   case rel => exact ⟨rfl, rfl⟩
 case rest =>
  obtain ⟨rfl, hwc⟩ := hcut
  have hwc' := hwc.symm
  subst hwc'
  clear hwc
  have hgs := Co 10 0 0 b (by omega) (by omega)
  rw [← HV.out.2.2] at hgs
  by_cases h10 : K = 10
  ·subst h10
   rw [aF rfl] at hgs
   have HG : Hid (cX b = (0, 0, 11)) := aA hgs
   clear hgs
   go_wp2_with fail
   go_ret3
   exact ⟨by rw [HG.out]; rfl, aB.refl _ _⟩
  rw [aE h10, ← HV.out.2.1] at hgs
  have h10' : ((K : Int) == 10) = false := by rw [beq_eq_false_iff_ne]; omega
  by_cases hKe : K = n
  ·rw [aF hKe] at hgs
   have HG : Hid (cX b = (0, 0, 10)) := aA hgs
   subst hKe
   clear hgs
   go_wp2_with fail
   go_ret3
   exact ⟨by rw [HG.out]; rfl, aB.refl _ _⟩
  clear hgs
  have hKe' : ((K : Int) == (n : Int)) = false := by rw [beq_eq_false_iff_ne]; omega
  have hKlt : K < n := by omega
  have hKn' : (K : Int) < (n : Int) := by omega
  obtain ⟨b0, off, rfl, hcell⟩ := HV.out.1.cell.2.2.2 (by omega)
  have HC := aA hcell
  clear hcell
  go_wp2_with fail
  go_loopg [6, 7] (K + 2) (fun gh s6 s7 wr => wr = w ∧ ∃ (j m : Nat) (i : Int), s7 = .int .i64 i ∧ j ≤ K + 1 ∧ gh = j + 1 ∧ s6 = .int .u64 m ∧ Hid (i = (j : Int) - 1 ∧ m = gB ((b.take (K + 1)).drop j) % 2 ^ 64))
  case atStart => exact ⟨rfl, K + 1, 0, K, rfl, aQ _, rfl, rfl, aA ⟨by omega, by rw [List.drop_of_length_le (by rw [bX]; omega)]; rfl⟩⟩
  case round =>
   obtain ⟨rfl, j, m, i, rfl, hj, rfl, rfl, HM⟩ := hrel
   by_cases h0 : j = 0
   ·subst h0
    obtain rfl : i = -1 := by have := HM.out.1; omega
    have hneg : decide ((0 : Int) ≤ -1) = false := by decide
    have hm := HM.out.2
    rw [tW] at hm
    have hm64 : m < 2 ^ 64 := by rw [hm]; exact mP _ (by decide)
    have HP := aA (Nj wr m hm64)
    have hf := Ni b HV.out.2.2 (by omega) (by rw [← HV.out.2.1]; exact hKlt) hm
    have HF := aA hf
    clear hm hm64 hf
    go_wp2_with fail
    refine HP.out.mono ?_
    rintro e w2 ⟨v2, rfl, ho2, hu2⟩
    obtain ⟨a2, c2, m2, hm2, rfl⟩ := ho2.sliceM
    rw [← hm2] at HF
    have HU := aA hu2
    have d9 : (h9 : K = 9) → w2.cell? ⟨b0, off + 9, none⟩ = some (.int .u8 ((b[K]'(by rw [← HV.out.2.1]; exact hKlt)).toNat)) := fun h9 => by
     have h := cN hu2 (HC.out K (by rw [← HV.out.2.1]; exact hKlt))
     rw [← h9]
     exact h
    obtain ⟨g, hg⟩ : ∃ g, g = (b[K]'(by rw [← HV.out.2.1]; exact hKlt)).toNat := ⟨_, rfl⟩
    rw [← hg] at HF d9
    have HD9 := aA d9
    clear ho2 hm2 hu2 hg d9
    by_cases hA : m2 ≠ K + 1
    ·have HG : Hid (cX b = (0, 0, 11)) := aA (by rw [HF.out, aF (.inl hA)])
     have hne : ((m2 : Int) != (K : Int) + 1) = true := by rw [bne_iff_ne]; omega
     clear hA
     go_wp2_with fail
     go_ret3
     exact ⟨by rw [HG.out]; rfl, HU.out⟩
    have hne : ((m2 : Int) != (K : Int) + 1) = false := by rw [bne_eq_false_iff_eq]; omega
    by_cases h9 : K = 9
    ·have d9 := HD9.out h9
     by_cases hg1 : 1 < g
     ·have HG : Hid (cX b = (0, 0, 11)) := aA (by rw [HF.out, aF (.inr ⟨h9, hg1⟩)])
      have hg1' : (1 : Int) < (g : Int) := by omega
      subst h9
      have hc9 : (9 : Int) < (c : Int) := by omega
      have hn9 : (9 : Int) < (n : Int) := by omega
      go_wp2_with fail
      go_ret3
      exact ⟨by rw [HG.out]; rfl, HU.out⟩
     have HG : Hid (cX b = (m, K + 1, 0)) := aA (by rw [HF.out, aE (fun q => q.elim hA fun e => hg1 e.2)])
     have hg1' : ¬ (1 : Int) < (g : Int) := by omega
     subst h9
     have hc9 : (9 : Int) < (c : Int) := by omega
     have hn9 : (9 : Int) < (n : Int) := by omega
     go_wp2_with fail
     go_ret3
     exact ⟨by rw [HG.out]; rfl, HU.out⟩
    have HG : Hid (cX b = (m, K + 1, 0)) := aA (by rw [HF.out, aE (fun q => q.elim hA fun e => h9 e.1)])
    have h9' : ((K : Int) == 9) = false := by rw [beq_eq_false_iff_ne]; omega
    clear hA
    go_wp2_with fail
    go_ret3
    exact ⟨by rw [HG.out]; rfl, HU.out⟩
   obtain ⟨k, rfl⟩ : ∃ k, j = k + 1 := ⟨j - 1, by omega⟩
   obtain rfl : i = (k : Int) := by have := HM.out.1; omega
   have hkb : k < b.length := by rw [← HV.out.2.1]; omega
   have hkn : (k : Int) < (n : Int) := by omega
   have hkc : (k : Int) < (c : Int) := by omega
   have d0 := HC.out k hkb
   obtain ⟨g, hg⟩ : ∃ g, g = (b[k]).toNat := ⟨_, rfl⟩
   rw [← hg] at d0
   obtain ⟨d, hd⟩ : ∃ d, d = g % 128 := ⟨_, rfl⟩
   have q1 : (g : Int) % 128 = (d : Int) := by omega
   have hg8 : g < 256 := by rw [hg]; exact (b[k]).toNat_lt
   have hd8 : d < 128 := by omega
   have hwd : IntKind.u64.wrap (d : Int) = (d : Int) := by rw [nU]; omega
   obtain ⟨m1, hm1⟩ : ∃ m1, m1 = m * 128 % 2 ^ 64 := ⟨_, rfl⟩
   obtain ⟨m2, hm2⟩ : ∃ m2, m2 = (m1 + d) % 2 ^ 64 := ⟨_, rfl⟩
   have hw1 : IntKind.u64.wrap ((m : Int) * 128) = (m1 : Int) := by rw [nU]; omega
   have hw2 : IntKind.u64.wrap ((m1 : Int) + (d : Int)) = (m2 : Int) := by rw [nU]; omega
   have hdr : (b.take (K + 1)).drop k = b[k] :: (b.take (K + 1)).drop (k + 1) := by
    rw [pP (by rw [bX]; omega), List.getElem_take]
   have HN : Hid (m2 = gB ((b.take (K + 1)).drop k) % 2 ^ 64) := aA (by
    have hM := HM.out.2
    rw [hdr, gB, hm2, hm1, hM, ← hg, hd]
    omega)
   clear hg hd hm1 hm2 hdr hg8
   go_wp2_with fail
   go_roundg (k + 1)
   case measure => omega
   case rel => exact ⟨rfl, k, m2, (k : Int) - 1, by go_num, by omega, rfl, rfl, aA ⟨rfl, HN.out⟩⟩
end Go.Proofs.YtgpefiacbipfpaaGreatDoor
namespace Go.Proofs.YtgpefiacbipfpaaGreatDoor.Bc
open Go.RowKit
def pt (o : Option Nat) : Value := .pointer (o.map fun b => ⟨b, 0, none⟩)
structure It (κ ν : Type) where
 k : κ
 v : ν
 d : Bool
 p : Nat
structure Nd (κ ν : Type) where
 a : Nat
 it : It κ ν
structure lU (κ ν : Type) where
 ek : κ → Value
 ev : ν → Value
 tc : TypeId
 ti : TypeId
section
variable {κ ν : Type} (C : lU κ ν)
def iV (x : It κ ν) (prev next : Option Nat) : Obj := .cells #[C.ek x.k, C.ev x.v, .bool x.d, .int .i64 x.p, pt prev, pt next] C.ti (0, 0)
def xN (most : Int) (m : Nat) (oldest first : Option Nat) : Obj := .cells #[.int .i64 most, .map (some m), pt oldest, pt first] C.tc (0, 0)
def hd : List (Nd κ ν) → Option Nat → Option Nat
 | [], q => q
 | n :: _, _ => some n.a
def lst : List (Nd κ ν) → Option Nat → Option Nat
 | [], p => p
 | n :: r, _ => lst r (some n.a)
def qS (H : Nat → Option Obj) : Option Nat → List (Nd κ ν) → Option Nat → Prop
 | _, [], _ => True
 | p, n :: r, q => H n.a = some (iV C n.it p (hd r q)) ∧ qS H (some n.a) r q
theorem pW (l r : List (Nd κ ν)) (q : Option Nat) : hd (l ++ r) q = hd l (hd r q) := by cases l <;> rfl
theorem qT (l r : List (Nd κ ν)) (p : Option Nat) : lst (l ++ r) p = lst r (lst l p) := by
 induction l generalizing p with
 | nil => rfl
 | cons n l ih => exact ih _
theorem pD (H : Nat → Option Obj) (p : Option Nat) (l r : List (Nd κ ν)) (q : Option Nat) :
  qS C H p (l ++ r) q ↔ qS C H p l (hd r q) ∧ qS C H (lst l p) r q := by
 induction l generalizing p with
 | nil => simp [qS, lst]
 | cons n l ih => simp [qS, lst, pW, ih, and_assoc]
theorem qU {H H' : Nat → Option Obj} {p : Option Nat} {l : List (Nd κ ν)} {q : Option Nat} (h : ∀ n ∈ l, H' n.a = H n.a) (hc : qS C H p l q) : qS C H' p l q := by
 induction l generalizing p with
 | nil => trivial
 | cons n l ih =>
  obtain ⟨h1, h2⟩ := hc
  exact ⟨by rw [h n (by simp)]; exact h1, ih (fun x hx => h x (by simp [hx])) h2⟩
theorem Cr {H : Nat → Option Obj} {p : Option Nat} {l : List (Nd κ ν)} {q : Option Nat} (hc : qS C H p l q) {n : Nd κ ν} (hn : n ∈ l) : ∃ a b, H n.a = some (iV C n.it a b) := by
 induction l generalizing p with
 | nil => simp at hn
 | cons x l ih =>
  obtain ⟨h1, h2⟩ := hc
  rcases aJ.1 hn with rfl | hn
  ·exact ⟨_, _, h1⟩
  exact ih h2 hn
structure gN (w : World) (c m : Nat) (most : Int) (l : List (Nd κ ν)) : Prop where
 cache : w.heap[c]? = some (xN C most m (hd l none) (lst l none))
 chain : qS C (fun k => w.heap[k]?) none l none
 nodup : (c :: m :: l.map (·.a)).Nodup
abbrev foot (c m : Nat) (l : List (Nd κ ν)) : List Nat := c :: m :: l.map (·.a)
theorem gN.congr {w w' : World} {c m : Nat} {most : Int} {l : List (Nd κ ν)} (h : gN C w c m most l) (hh : ∀ k ∈ foot c m l, w'.heap[k]? = w.heap[k]?) : gN C w' c m most l :=
 ⟨by rw [hh c (by simp)]; exact h.cache, qU C (fun n hn => hh n.a (by simp; right; right; exact ⟨n, hn, rfl⟩)) h.chain, h.nodup⟩
theorem gN.alike {w w' : World} {c m : Nat} {most : Int} {l : List (Nd κ ν)} (h : gN C w c m most l) (g : w'.Alike w) : gN C w' c m most l :=
 h.congr C (fun k _ => by rw [g.1])
theorem gN.lt {w : World} {c m : Nat} {most : Int} {l : List (Nd κ ν)} (h : gN C w c m most l) {n : Nd κ ν} (hn : n ∈ l) : n.a < w.heap.size := by
 obtain ⟨a, b, hb⟩ := Cr C h.chain hn
 exact aH hb
end
section
variable {κ ν : Type} (C : lU κ ν)
theorem nI (q : Option Nat) : hd ([] : List (Nd κ ν)) q = q := rfl
theorem jN (n : Nd κ ν) (r : List (Nd κ ν)) (q : Option Nat) : hd (n :: r) q = some n.a := rfl
theorem lV (q : Option Nat) : lst ([] : List (Nd κ ν)) q = q := rfl
theorem lW (n : Nd κ ν) (r : List (Nd κ ν)) (q : Option Nat) : lst (n :: r) q = lst r (some n.a) := rfl
def vS (w : World) (c x : Nat) (prev next : Option Nat) : World :=
 let w1 := match prev with | some y => w.setCell ⟨y, 5, none⟩ (pt next) | none => w.setCell ⟨c, 2, none⟩ (pt next)
 let w2 := match next with | some z => w1.setCell ⟨z, 4, none⟩ (pt prev) | none => w1.setCell ⟨c, 3, none⟩ (pt prev)
 (w2.setCell ⟨x, 4, none⟩ (pt none)).setCell ⟨x, 5, none⟩ (pt none)
theorem tE (x : It κ ν) (a b : Option Nat) (u : Option Nat) : Obj.put 4 (pt u) (iV C x a b) = iV C x u b := rfl
theorem uL (x : It κ ν) (a b : Option Nat) (u : Option Nat) : Obj.put 5 (pt u) (iV C x a b) = iV C x a u := rfl
theorem Cs (most : Int) (m : Nat) (a b u : Option Nat) : Obj.put 2 (pt u) (xN C most m a b) = xN C most m u b := rfl
theorem Ah (most : Int) (m : Nat) (a b u : Option Nat) : Obj.put 3 (pt u) (xN C most m a b) = xN C most m a u := rfl
theorem Nk {w w' : World} {c m : Nat} {most : Int} {l1 l2 : List (Nd κ ν)} {x : Nd κ ν} (h : gN C w c m most (l1 ++ x :: l2))
  (hw : w'.Alike (vS w c x.a (lst l1 none) (hd l2 none))) :
  gN C w' c m most (l1 ++ l2) ∧ w'.heap[x.a]? = some (iV C x.it none none) ∧ aB (c :: (l1 ++ x :: l2).map (·.a)) w w' := by
 obtain ⟨h1, h2, h3⟩ := h
 have hnd : (c :: m :: (l1 ++ l2).map (·.a)).Nodup := h3.sublist (by simp)
 rw [pD] at h2
 obtain ⟨h2, h4, h5⟩ := h2
 rcases pO l1 with rfl | ⟨l1, y, rfl⟩
 ·rcases l2 with _ | ⟨z, l2⟩
  ·simp [vS, lV, lW, nI, jN] at hw h1 h3 h4 ⊢
   have hh := hw.1
   refine ⟨⟨?_, trivial, ?_⟩, ?_, ?_⟩
   ·rw [hh]; simp [bJ, h1, h3, Cs, Ah, nI, lV]
   ·simp; exact h3.1.1
   ·rw [hh]; simp [bJ, h4, tE, uL, Ne.symm h3.1.2]
   exact ((((aB.refl _ _).setCell (by simp) _ _).setCell (by simp) _ _).setCell (by simp) _ _ |>.setCell (by simp) _ _).alike hw
  obtain ⟨h5, h6⟩ := h5
  simp [vS, lV, lW, jN] at hw h1 h3 h4 h5 h6 ⊢
  have hh := hw.1
  obtain ⟨⟨n1, n2, n3, n4⟩, ⟨n5, n6, n7⟩, ⟨n8, n9⟩, n10, n11⟩ := h3
  refine ⟨⟨?_, ⟨?_, ?_⟩, ?_⟩, ?_, ?_⟩
  ·rw [hh]; simp [bJ, h1, n2, n3, Cs, jN, lW]
  ·simp only [hh]; simp [bJ, h5, Ne.symm n3, Ne.symm n8, tE]
  ·refine qU C (fun n hn => ?_) h6
   have q1 := n4 n hn; have q2 := n7 n hn; have q3 := n9 n hn; have q4 := n10 n hn
   simp only [hh]; simp [bJ, q1, q3, q4]
  ·simp; exact ⟨⟨n1, n3, n4⟩, ⟨n6, n7⟩, n10, n11⟩
  ·rw [hh]; simp [bJ, h4, tE, uL, n8, Ne.symm n2]
  exact ((((aB.refl _ _).setCell (by simp) _ _).setCell (by simp) _ _).setCell (by simp) _ _ |>.setCell (by simp) _ _).alike hw
 simp only [oM, eJ] at *
 rw [pD] at h2
 obtain ⟨h2, h7, _⟩ := h2
 rcases l2 with _ | ⟨z, l2⟩
 ·simp [vS, lV, lW, nI, jN, qT, pW, kO] at hw h1 h2 h3 h4 h5 h7 ⊢
  have hh := hw.1
  obtain ⟨⟨n1, n2, n3, n4⟩, ⟨n5, n6, n7⟩, n8, n9, n10⟩ := h3
  refine ⟨⟨?_, (pD ..).2 ⟨?_, ?_, trivial⟩, ?_⟩, ?_, ?_⟩
  ·rw [hh]; simp [bJ, h1, n3, n4, Ah, pW, jN, qT, lW, lV]
  ·refine qU C (fun n hn => ?_) h2
   have q1 := n2 n hn; have q2 := n10 n hn
   simp only [hh]; simp [bJ, q1, q2.1, q2.2]
  ·simp only [hh]; simp [bJ, h7, Ne.symm n3, n9, uL, nI]
  ·simpa using hnd
  ·rw [hh]; simp [bJ, h4, tE, uL, Ne.symm n9, Ne.symm n4]
  exact ((((aB.refl _ _).setCell (by simp) _ _).setCell (by simp) _ _).setCell (by simp) _ _ |>.setCell (by simp) _ _).alike hw
 obtain ⟨h5, h6⟩ := h5
 simp [vS, lV, lW, nI, jN, qT, pW, kO] at hw h1 h2 h3 h4 h5 h6 h7 ⊢
 have hh := hw.1
 obtain ⟨⟨n1, n2, n3, n4, n5, n6⟩, ⟨n7, n8, n9, n10, n11⟩, n12, ⟨⟨n13, n14, n15⟩, ⟨n16, n17⟩, n18, n19⟩, n20⟩ := h3
 refine ⟨⟨?_, (pD ..).2 ⟨?_, ?_, ?_, ?_⟩, ?_⟩, ?_, ?_⟩
 ·rw [hh]; simp [bJ, h1, n3, n4, n5, pW, jN, qT, lW]
 ·refine qU C (fun n hn => ?_) h2
  have q1 := n2 n hn; have q2 := n20 n hn
  simp only [hh]; simp [bJ, q2.1, q2.2.1, q2.2.2.1]
 ·simp only [hh]; simp [bJ, h7, n13, n14, uL, jN]
 ·simp only [hh]; simp [bJ, h5, Ne.symm n14, Ne.symm n16, tE]
 ·refine qU C (fun n hn => ?_) h6
  have q1 := n15 n hn; have q2 := n17 n hn; have q3 := n18 n hn
  simp only [hh]; simp [bJ, q1, q2, q3]
 ·simpa using hnd
 ·rw [hh]; simp [bJ, h4, tE, uL, Ne.symm n13, n16]
 exact ((((aB.refl _ _).setCell (by simp) _ _).setCell (by simp) _ _).setCell (by simp) _ _ |>.setCell (by simp) _ _).alike hw
def Ai (w : World) (c x : Nat) (last : Option Nat) : World :=
 let w1 := w.setCell ⟨x, 4, none⟩ (pt last)
 let w2 := match last with | some y => w1.setCell ⟨y, 5, none⟩ (pt (some x)) | none => w1.setCell ⟨c, 2, none⟩ (pt (some x))
 w2.setCell ⟨c, 3, none⟩ (pt (some x))
theorem Nl {w w' : World} {c m : Nat} {most : Int} {l : List (Nd κ ν)} {x : Nd κ ν} (h : gN C w c m most l) (hx : w.heap[x.a]? = some (iV C x.it none none))
  (hnd : (c :: m :: (l ++ [x]).map (·.a)).Nodup) (hw : w'.Alike (Ai w c x.a (lst l none))) :
  gN C w' c m most (l ++ [x]) ∧ aB (c :: (l ++ [x]).map (·.a)) w w' := by
 obtain ⟨h1, h2, h3⟩ := h
 have hnd' := hnd
 rcases pO l with rfl | ⟨l1, y, rfl⟩
 ·simp [Ai, lV, nI] at hw h1 hnd ⊢
  have hh := hw.1
  refine ⟨⟨?_, ⟨?_, trivial⟩, by simpa using hnd'⟩, ?_⟩
  ·rw [hh]; simp [bJ, h1, hnd, Cs, Ah, jN, lV, lW]
  ·simp only [hh]; simp [bJ, hx, Ne.symm hnd.1.2, tE, nI]
  exact ((((aB.refl _ _).setCell (by simp) _ _).setCell (by simp) _ _).setCell (by simp) _ _).alike hw
 simp only [oM] at *
 rw [pD] at h2
 obtain ⟨h2, h7, _⟩ := h2
 simp [Ai, lV, lW, nI, jN, qT, pW, kO] at hw h1 h2 h7 hnd ⊢
 have hh := hw.1
 obtain ⟨⟨n1, n2, n3, n4⟩, ⟨n5, n6, n7⟩, n8, n9, n10⟩ := hnd
 refine ⟨⟨?_, (pD ..).2 ⟨?_, ?_, ?_, trivial⟩, by simpa using hnd'⟩, ?_⟩
 ·rw [hh]; simp [bJ, h1, n3, n4, Ah, pW, jN, qT, lW, lV]
 ·refine qU C (fun n hn => ?_) h2
  have q1 := n2 n hn; have q2 := n10 n hn
  simp only [hh]; simp [bJ, q1, q2.1, q2.2]
 ·simp only [hh]; simp [bJ, h7, n9, Ne.symm n3, uL, jN]
 ·simp only [hh]; simp [bJ, hx, Ne.symm n9, Ne.symm n4, tE, nI]
 exact ((((aB.refl _ _).setCell (by simp) _ _).setCell (by simp) _ _).setCell (by simp) _ _).alike hw
end
section
variable {κ ν : Type} (C : lU κ ν)
def kG (es : Array MapEntry) (l : List (Nd κ ν)) : Prop := (es.toList.map fun e => (e.key, e.val)).Perm (l.map fun n => (C.ek n.it.k, pt (some n.a)))
theorem Ct {es : Array MapEntry} {l : List (Nd κ ν)} (h : kG C es l) {e : MapEntry} (he : e ∈ es.toList) : ∃ n ∈ l, e.key = C.ek n.it.k ∧ e.val = pt (some n.a) := by
 have : (e.key, e.val) ∈ l.map fun n => (C.ek n.it.k, pt (some n.a)) := h.mem_iff.1 (cV.2 ⟨e, he, rfl⟩)
 obtain ⟨n, hn, hq⟩ := cV.1 this
 simp only [Prod.mk.injEq] at hq
 exact ⟨n, hn, hq.1.symm, hq.2.symm⟩
theorem Gm {es : Array MapEntry} {l : List (Nd κ ν)} (h : kG C es l) : es.size = l.length := by
 have := h.length_eq; simpa using this
theorem Gn {es : Array MapEntry} {l : List (Nd κ ν)} (h : kG C es l) (x : Nd κ ν) (b : Nat) : kG C (es.push { key := C.ek x.it.k, val := pt (some x.a), born := b }) (l ++ [x]) := by
 unfold kG at *
 simp only [Array.toList_push, eZ, dR, kT]
 exact h.append_right _
end
section
variable {κ ν : Type} [DecidableEq κ] (C : lU κ ν)
structure vT (P : Program) (K : TypeId) : Prop where
 plain : P.underlying K = some (.int .i64) ∨ P.underlying K = some .string
 same : ∀ D, P.underlying K = some D → ∀ a b : κ, Instr.sameNow D (C.ek a) (C.ek b) = some (decide (a = b))
 bits : ∀ a : κ, Instr.sameBits 10000 (C.ek a) (C.ek a) = true
theorem Aj {P : Program} {K : TypeId} (hK : P.underlying K = some (.int .i64) ∨ P.underlying K = some .string) (w : World) (e : Bool) (v : Value) : (Instr.checkKey e 10000 K v).run P w = .ok () w := by
 unfold Instr.checkKey
 rcases hK with h | h <;> simp [nV h]
theorem Nm {D : TypeDesc} (hS : ∀ a b : κ, Instr.sameNow D (C.ek a) (C.ek b) = some (decide (a = b))) (k : κ) : ∀ (es : List MapEntry) (i : Nat), (∀ e ∈ es, ∃ k', e.key = C.ek k' ∧ k' ≠ k) →
  Instr.findNow D (C.ek k) es i = some none := by
 intro es
 induction es with
 | nil => intro i _; rfl
 | cons e es ih =>
  intro i h
  obtain ⟨k', h1, h2⟩ := h e (by simp)
  simp only [Instr.findNow, h1, hS, decide_eq_false (fun (q : k = k') => h2 q.symm)]
  exact ih _ (fun x hx => h x (by simp [hx]))
theorem Nn {D : TypeDesc} (hS : ∀ a b : κ, Instr.sameNow D (C.ek a) (C.ek b) = some (decide (a = b))) (k : κ) : ∀ (es : List MapEntry) (i : Nat), (∀ e ∈ es, ∃ k', e.key = C.ek k') → (∃ e ∈ es, e.key = C.ek k) →
  ∃ j e, es[j]? = some e ∧ e.key = C.ek k ∧ Instr.findNow D (C.ek k) es i = some (some (i + j, e.val)) := by
 intro es
 induction es with
 | nil => intro i _ h; obtain ⟨e, he, _⟩ := h; simp at he
 | cons e es ih =>
  intro i h hx
  obtain ⟨k', h1⟩ := h e (by simp)
  by_cases hk : k = k'
  ·subst hk
   exact ⟨0, e, rfl, h1, by simp [Instr.findNow, h1, hS]⟩
  have hx' : ∃ e ∈ es, e.key = C.ek k := by
   obtain ⟨x, hx1, hx2⟩ := hx
   rcases aJ.1 hx1 with rfl | hx1
   ·rw [h1] at hx2
    have := hS k k'; rw [hx2, hS k k] at this; simp [hk] at this
   exact ⟨x, hx1, hx2⟩
  obtain ⟨j, e', g1, g2, g3⟩ := ih (i + 1) (fun x hx => h x (by simp [hx])) hx'
  exact ⟨j + 1, e', by simpa using g1, g2, by simp [Instr.findNow, h1, hS, hk, g3]; omega⟩
variable {P : Program} {K : TypeId} (HK : vT C P K)
include HK
theorem vU {es : Array MapEntry} {l : List (Nd κ ν)} (h : kG C es l) {k : κ} (hk : ∀ n ∈ l, n.it.k ≠ k) (w : World) : (Instr.findKey K (C.ek k) es.toList).run P w = .ok none w := by
 have hex : ∃ D, P.underlying K = some D := by rcases HK.plain with h | h <;> exact ⟨_, h⟩
 obtain ⟨D, hD⟩ := hex
 have := Nm C (HK.same D hD) k es.toList 0 (fun e he => by obtain ⟨n, hn, h1, _⟩ := Ct C h he; exact ⟨_, h1, hk n hn⟩)
 simp [Instr.findKey, nV hD, this]
theorem No {a b : κ} (h : C.ek a = C.ek b) : a = b := by
 have hex : ∃ D, P.underlying K = some D := by rcases HK.plain with h | h <;> exact ⟨_, h⟩
 obtain ⟨D, hD⟩ := hex
 have h1 := HK.same D hD a b
 rw [← h, HK.same D hD a a] at h1
 simpa using h1
theorem Cu {es : Array MapEntry} {l1 l2 : List (Nd κ ν)} {x : Nd κ ν} (h : kG C es (l1 ++ x :: l2)) (hnd : ((l1 ++ x :: l2).map (·.it.k)).Nodup) (w : World) :
  ∃ j, (Instr.findKey K (C.ek x.it.k) es.toList).run P w = .ok (some (j, pt (some x.a))) w ∧ j < es.size ∧ ((es[j]?).map (·.key)) = some (C.ek x.it.k) ∧ kG C (es.eraseIdxIfInBounds j) (l1 ++ l2) := by
 have hex : ∃ D, P.underlying K = some D := by rcases HK.plain with h | h <;> exact ⟨_, h⟩
 obtain ⟨D, hD⟩ := hex
 have hin : ∃ e ∈ es.toList, e.key = C.ek x.it.k := by
  have : (C.ek x.it.k, pt (some x.a)) ∈ es.toList.map fun e => (e.key, e.val) := h.mem_iff.2 (cV.2 ⟨x, by simp, rfl⟩)
  obtain ⟨e, he, hq⟩ := cV.1 this
  simp only [Prod.mk.injEq] at hq
  exact ⟨e, he, hq.1⟩
 obtain ⟨j, e, g1, g2, g3⟩ := Nn C (HK.same D hD) x.it.k es.toList 0 (fun e he => by obtain ⟨n, hn, h1, _⟩ := Ct C h he; exact ⟨_, h1⟩) hin
 have hm : e ∈ es.toList := fC g1
 obtain ⟨n, hn, h1, h2⟩ := Ct C h hm
 have hkn : n.it.k = x.it.k := No C HK (h1.symm.trans g2)
 have hnx : n = x := by
  rw [eZ, dR, kO] at hnd
  obtain ⟨_, hnd2, hnd3⟩ := hnd
  rcases bK.1 hn with hn | hn
  ·exact (hnd3 _ (cV.2 ⟨n, hn, rfl⟩) x.it.k (by simp) hkn).elim
  rcases aJ.1 hn with rfl | hn
  ·rfl
  exact ((kC.1 hnd2).1 (cV.2 ⟨n, hn, hkn⟩)).elim
 subst hnx
 have hj : j < es.size := by
  rcases kP j es.size with h' | h'
  ·exact h'
  rw [gG (by simpa using h')] at g1; cases g1
 refine ⟨j, by simp [Instr.findKey, nV hD, g3, h2], hj, ?_, ?_⟩
 ·have : es[j]? = some e := by simpa using g1
  rw [this]; simp [g2]
 have hl : es.toList = es.toList.take j ++ e :: es.toList.drop (j + 1) := by
  rw [bL (by simpa using hj)] at g1
  cases g1
  rw [List.getElem_cons_drop, kW]
 have he : (es.eraseIdxIfInBounds j).toList = es.toList.take j ++ es.toList.drop (j + 1) := by
  simp [Array.eraseIdxIfInBounds, hj, List.eraseIdx_eq_take_drop_succ]
 unfold kG at h ⊢
 rw [he]
 rw [hl] at h
 have h' : ((e.key, e.val) :: (es.toList.take j ++ es.toList.drop (j + 1)).map fun e => (e.key, e.val)).Perm ((C.ek n.it.k, pt (some n.a)) :: (l1 ++ l2).map fun n => (C.ek n.it.k, pt (some n.a))) := by
  refine List.Perm.trans ?_ (h.trans ?_)
  ·simp only [eZ, dR]; exact List.perm_middle.symm
  simp only [eZ, dR]; exact List.perm_middle
 rw [h1, h2] at h'
 exact h'.cons_inv
end
section
variable {κ ν : Type} [DecidableEq κ] {C : lU κ ν} {P : Program} {T K E : TypeId} {w : World} {m clock : Nat} {es : Array MapEntry}
theorem Gp (HK : vT C P K) (ht : P.underlying T = some (.map K E)) (hb : w.heap[m]? = some (.map es clock)) {l1 l2 : List (Nd κ ν)} {x : Nd κ ν} (h : kG C es (l1 ++ x :: l2)) (hnd : ((l1 ++ x :: l2).map (·.it.k)).Nodup) {k : κ} (hk : x.it.k = k) :
  (Instr.lookup T (.map (some m)) (C.ek k) false).run P w = .ok (pt (some x.a)) w := by
 subst hk
 obtain ⟨j, h1, _⟩ := Cu C HK h hnd w
 simp [Instr.lookup, nV ht, yY hb, Aj HK.plain, h1, Result.andThen]
theorem Np (HK : vT C P K) (ht : P.underlying T = some (.map K E)) (hz : (zeroValue E).run P w = .ok (.pointer none) w) (hb : w.heap[m]? = some (.map es clock)) {l : List (Nd κ ν)} (h : kG C es l) {k : κ} (hk : ∀ n ∈ l, n.it.k ≠ k) :
  (Instr.lookup T (.map (some m)) (C.ek k) false).run P w = .ok (pt none) w := by
 simp [Instr.lookup, nV ht, yY hb, Aj HK.plain, vU C HK h hk w, Result.andThen, hz, pt]
theorem Gq (HK : vT C P K) (ht : P.underlying T = some (.map K E)) (hb : w.heap[m]? = some (.map es clock)) {l : List (Nd κ ν)} (h : kG C es l) {k : κ} (hk : ∀ n ∈ l, n.it.k ≠ k) (v : Value) :
  (Instr.mapUpdate T (.map (some m)) (C.ek k) v).run P w = .ok () (ChangeMaps.setBlock w m (.map (es.push { key := C.ek k, val := v, born := clock }) (clock + 1))) := by
 simp [Instr.mapUpdate, nV ht, yY hb, Aj HK.plain, vU C HK h hk w, Result.andThen, Ko _ hb, ChangeMaps.setBlock]
theorem Nq (HK : vT C P K) (ht : P.underlying T = some (.map K E)) (hb : w.heap[m]? = some (.map es clock)) {l1 l2 : List (Nd κ ν)} {x : Nd κ ν} (h : kG C es (l1 ++ x :: l2)) (hnd : ((l1 ++ x :: l2).map (·.it.k)).Nodup) {k : κ} (hk : x.it.k = k) (k2 ty : TypeId) :
  ∃ es', (Builtin.delete_ #[T, k2] ty #[.map (some m), C.ek k]).run P w = .ok (.tuple #[]) (ChangeMaps.setBlock w m (.map es' clock)) ∧ kG C es' (l1 ++ l2) := by
 subst hk
 obtain ⟨j, h1, h2, h3, h4⟩ := Cu C HK h hnd w
 refine ⟨_, ?_, h4⟩
 simp [Builtin.delete_, nV ht, yY hb, Aj HK.plain, h1, Result.andThen, Ko _ hb, ChangeMaps.setBlock]
theorem Gr (ht : P.underlying T = some (.map K E)) (hb : w.heap[m]? = some (.map es clock)) (ty : TypeId) :
  (Builtin.len_ #[T] ty #[.map (some m)]).run P w = .ok (.int .i64 es.size) w := by
 simp [Builtin.len_, nV ht, yY hb, goInt, Result.andThen]
theorem xO (w : World) (b : Nat) (o : Obj) (k : Nat) (h : b < w.heap.size) : (ChangeMaps.setBlock w b o).heap[k]? = if k = b then some o else w.heap[k]? := by
 unfold ChangeMaps.setBlock
 simp only [Array.getElem?_setIfInBounds, h, if_true]
 by_cases e : b = k
 ·subst e; simp
 rw [aE e, aE (fun q => e q.symm)]
end
section
variable {κ ν : Type} (C : lU κ ν)
structure Rep (w : World) (c m : Nat) (most : Int) (l : List (Nd κ ν)) : Prop where
 lay : gN C w c m most l
 map : ∃ es clock, w.heap[m]? = some (.map es clock) ∧ kG C es l
 keys : (l.map (·.it.k)).Nodup
theorem Rep.alike {w w' : World} {c m : Nat} {most : Int} {l : List (Nd κ ν)} (h : Rep C w c m most l) (g : w'.Alike w) : Rep C w' c m most l :=
 ⟨h.lay.alike C g, by obtain ⟨es, k, h1, h2⟩ := h.map; exact ⟨es, k, by rw [g.1]; exact h1, h2⟩, h.keys⟩
end
section
variable {κ ν : Type} (C : lU κ ν)
theorem Nr (w : World) (most : Int) : Rep C ((w.alloc (.map #[] 0)).alloc (.cells #[.int .i64 most, .map (some w.heap.size), .pointer none, .pointer none] C.tc)) (w.heap.size + 1) w.heap.size most [] := by
 refine ⟨⟨?_, trivial, ?_⟩, ⟨#[], 0, ?_, .refl _⟩, .nil⟩
 ·rw [heap_alloc, aF (by simp)]; rfl
 ·simp
 rw [heap_alloc, aE (by simp), heap_alloc, aF rfl]
theorem sD {w : World} {c m : Nat} {most : Int} {l : List (Nd κ ν)} (h : gN C w c m most l) :
  w.cell? ⟨c, 0, none⟩ = some (.int .i64 most) ∧ w.cell? ⟨c, 1, none⟩ = some (.map (some m)) ∧ w.cell? ⟨c, 2, none⟩ = some (pt (hd l none)) ∧ w.cell? ⟨c, 3, none⟩ = some (pt (lst l none)) ∧ (∀ o, w.frozen? ⟨c, o, none⟩ = false) :=
 ⟨aD h.cache 0, aD h.cache 1, aD h.cache 2, aD h.cache 3, aZ h.cache⟩
theorem pX {w : World} {a : Nat} {x : It κ ν} {p q : Option Nat} (h : w.heap[a]? = some (iV C x p q)) :
  w.cell? ⟨a, 0, none⟩ = some (C.ek x.k) ∧ w.cell? ⟨a, 1, none⟩ = some (C.ev x.v) ∧ w.cell? ⟨a, 2, none⟩ = some (.bool x.d) ∧ w.cell? ⟨a, 3, none⟩ = some (.int .i64 x.p) ∧ w.cell? ⟨a, 4, none⟩ = some (pt p) ∧ w.cell? ⟨a, 5, none⟩ = some (pt q) ∧ (∀ o, w.frozen? ⟨a, o, none⟩ = false) :=
 ⟨aD h 0, aD h 1, aD h 2, aD h 3, aD h 4, aD h 5, aZ h⟩
theorem tF : pt none = .pointer none := rfl
theorem qV (a : Nat) : pt (some a) = .pointer (some ⟨a, 0, none⟩) := rfl
end
section
variable {κ ν : Type} {C : lU κ ν}
theorem gN.m_not {w : World} {c m : Nat} {most : Int} {l : List (Nd κ ν)} (h : gN C w c m most l) : m ∉ c :: l.map (·.a) := by
 have := h.nodup
 simp only [kC, aJ, not_or] at this ⊢
 exact ⟨fun e => this.1.1 e.symm, this.2.1⟩
theorem Ns {w w1 w2 : World} {c m : Nat} {most : Int} {l1 l2 : List (Nd κ ν)} {x : Nd κ ν} (h : Rep C w c m most (l1 ++ x :: l2)) (u1 : aB (c :: (l1 ++ x :: l2).map (·.a)) w w1)
  (hL : gN C w2 c m most (l1 ++ l2 ++ [x])) (u2 : aB (c :: (l1 ++ l2 ++ [x]).map (·.a)) w1 w2) : Rep C w2 c m most (l1 ++ l2 ++ [x]) ∧ aB (c :: (l1 ++ x :: l2).map (·.a)) w w2 := by
 have u2' : aB (c :: (l1 ++ x :: l2).map (·.a)) w1 w2 := u2.mono (fun k hk _ => by simp at hk ⊢; grind)
 have u := u1.trans u2'
 obtain ⟨es, ck, h1, h2⟩ := h.map
 have hp : (l1 ++ x :: l2).Perm (l1 ++ l2 ++ [x]) := by
  rw [eJ]
  exact List.Perm.append_left _ (Kf x l2).symm
 refine ⟨⟨hL, ⟨es, ck, ?_, h2.trans (hp.map _)⟩, ((hp.map _).nodup_iff).1 h.keys⟩, u⟩
 rw [u.block m (aH h1) h.lay.m_not]; exact h1
theorem Nt {c m : Nat} {l1 l2 : List (Nd κ ν)} {x : Nd κ ν} (h : (c :: m :: (l1 ++ x :: l2).map (·.a)).Nodup) : (c :: m :: (l1 ++ l2 ++ [x]).map (·.a)).Nodup := by
 have hp : (l1 ++ x :: l2).Perm (l1 ++ l2 ++ [x]) := by
  rw [eJ]
  exact List.Perm.append_left _ (Kf x l2).symm
 exact ((((hp.map (·.a)).cons m).cons c).nodup_iff).1 h
end
section
variable {κ ν : Type} {C : lU κ ν}
theorem Rep.congr {w w' : World} {c m : Nat} {most : Int} {l : List (Nd κ ν)} (h : Rep C w c m most l) (hh : ∀ k ∈ foot c m l, w'.heap[k]? = w.heap[k]?) : Rep C w' c m most l :=
 ⟨h.lay.congr C hh, by obtain ⟨es, k, h1, h2⟩ := h.map; exact ⟨es, k, by rw [hh m (by simp)]; exact h1, h2⟩, h.keys⟩
theorem Rep.lt {w : World} {c m : Nat} {most : Int} {l : List (Nd κ ν)} (h : Rep C w c m most l) {k : Nat} (hk : k ∈ foot c m l) : k < w.heap.size := by
 simp at hk
 rcases hk with rfl | rfl | ⟨n, hn, rfl⟩
 ·exact aH h.lay.cache
 ·obtain ⟨es, k, h1, h2⟩ := h.map; exact aH h1
 exact h.lay.lt C hn
theorem Rep.keep {w w' : World} {c m : Nat} {most : Int} {l : List (Nd κ ν)} (h : Rep C w c m most l) {F : List Nat} (u : aB F w w') (hF : ∀ k ∈ foot c m l, k ∉ F) : Rep C w' c m most l :=
 h.congr fun k hk => u.block k (h.lt hk) (hF k hk)
theorem Rep.alloc {w : World} {c m : Nat} {most : Int} {l : List (Nd κ ν)} (h : Rep C w c m most l) (o : Obj) : Rep C (w.alloc o) c m most l :=
 h.keep ((aB.refl [] w).alloc o) (by simp)
theorem Rep.node {w : World} {c m : Nat} {most : Int} {l1 l2 : List (Nd κ ν)} {x : Nd κ ν} (h : Rep C w c m most (l1 ++ x :: l2)) : w.heap[x.a]? = some (iV C x.it (lst l1 none) (hd l2 none)) := by
 have := h.lay.chain
 rw [pD] at this
 exact this.2.1
theorem Rep.change {w w' : World} {c m : Nat} {most : Int} {l1 l2 : List (Nd κ ν)} {x : Nd κ ν} (h : Rep C w c m most (l1 ++ x :: l2)) (it : It κ ν) (hk : it.k = x.it.k)
  (hx : w'.heap[x.a]? = some (iV C it (lst l1 none) (hd l2 none))) (hh : ∀ k ∈ foot c m (l1 ++ x :: l2), k ≠ x.a → w'.heap[k]? = w.heap[k]?) : Rep C w' c m most (l1 ++ ⟨x.a, it⟩ :: l2) := by
 obtain ⟨⟨h1, h2, h3⟩, ⟨es, ck, h4, h5⟩, h6⟩ := h
 rw [pD] at h2
 obtain ⟨h2, h7, h8⟩ := h2
 have h3' := h3
 simp [kO] at h3
 obtain ⟨⟨n1, n2, n3, n4⟩, ⟨n5, n6, n7⟩, n8, ⟨n9, n10⟩, n11⟩ := h3
 refine ⟨⟨?_, (pD ..).2 ⟨?_, ?_, ?_⟩, by simpa using h3'⟩, ⟨es, ck, ?_, ?_⟩, ?_⟩
 ·rw [hh c (by simp) n3, h1]
  simp only [pW, qT, jN, lW]
 ·exact qU C (fun n hn => hh n.a (by simp; right; right; left; exact ⟨n, hn, rfl⟩) (n11 n hn).1) h2
 ·exact hx
 ·exact qU C (fun n hn => hh n.a (by simp; right; right; right; right; exact ⟨n, hn, rfl⟩) (n9 n hn)) h8
 ·rw [hh m (by simp) n6]; exact h4
 ·simpa [kG, hk] using h5
 simpa [hk] using h6
theorem Gs {w1 w2 : World} {c m : Nat} {most : Int} {l : List (Nd κ ν)} {x : Nd κ ν} {es : Array MapEntry} {ck : Nat}
  (h1 : w1.heap[m]? = some (.map es ck)) (h2 : kG C es (l ++ [x])) (hk : ((l ++ [x]).map (·.it.k)).Nodup) (hL : gN C w2 c m most (l ++ [x])) (u : aB (c :: (l ++ [x]).map (·.a)) w1 w2) : Rep C w2 c m most (l ++ [x]) :=
 ⟨hL, ⟨es, ck, by rw [u.block m (aH h1) hL.m_not]; exact h1, h2⟩, hk⟩
end
section
variable {κ ν : Type} {C : lU κ ν}
theorem Rep.set12 {w w' : World} {c m : Nat} {most : Int} {l : List (Nd κ ν)} {x : Nd κ ν} (h : Rep C w c m most (l ++ [x])) (v : ν) (b : Bool)
  (hw : w'.Alike ((w.setCell ⟨x.a, 1, none⟩ (C.ev v)).setCell ⟨x.a, 2, none⟩ (.bool b))) : Rep C w' c m most (l ++ [⟨x.a, { x.it with v := v, d := b }⟩]) := by
 have hx := h.node
 refine h.change _ rfl ?_ (fun k _ hk => ?_)
 ·rw [hw.1]; simp [bJ, hx, iV, Obj.put]
 rw [hw.1]; simp [bJ, hk]
theorem Rep.new_not {w : World} {c m : Nat} {most : Int} {l : List (Nd κ ν)} (h : Rep C w c m most l) : w.heap.size ∉ foot c m l := fun hk => Be _ (h.lt hk)
end
section
variable {κ ν : Type} {C : lU κ ν}
theorem Gt {w0 W2 : World} {c m ck : Nat} {most : Int} {l : List (Nd κ ν)} {es : Array MapEntry} (h : gN C w0 c m most l) (hb : w0.heap[m]? = some (.map es ck)) (it : It κ ν)
  (hW : W2.Alike (ChangeMaps.setBlock (w0.alloc (iV C it none none)) m (.map (es.push { key := C.ek it.k, val := pt (some w0.heap.size), born := ck }) (ck + 1)))) :
  gN C W2 c m most l ∧ W2.heap[w0.heap.size]? = some (iV C it none none) ∧ W2.heap[m]? = some (.map (es.push { key := C.ek it.k, val := pt (some w0.heap.size), born := ck }) (ck + 1)) ∧
   aB [m] w0 W2 ∧ (c :: m :: (l ++ [(⟨w0.heap.size, it⟩ : Nd κ ν)]).map (·.a)).Nodup := by
 have hm := aH hb
 have hs : m < (w0.alloc (iV C it none none)).heap.size := by simp; omega
 have hcm := h.nodup
 simp only [kC, aJ, not_or] at hcm
 obtain ⟨⟨q1, q2⟩, q3, q4⟩ := hcm
 have hc := aH h.cache
 have keep : ∀ k, k < w0.heap.size → k ≠ m → W2.heap[k]? = w0.heap[k]? := fun k hk hn => by
  rw [hW.1, xO _ _ _ _ hs, aE hn, heap_alloc, aE (by omega)]
 refine ⟨⟨by rw [keep c hc q1]; exact h.cache, qU C (fun n hn => keep n.a (h.lt C hn) (fun e => q3 (cV.2 ⟨n, hn, e⟩))) h.chain, h.nodup⟩, ?_, ?_, ⟨hW.2.1, hW.2.2, ?_, fun k hk hn => keep k hk (by simpa using hn)⟩, ?_⟩
 ·have hne : w0.heap.size ≠ m := by omega
  rw [hW.1, xO _ _ _ _ hs, aE hne, heap_alloc, aF rfl]
 ·rw [hW.1, xO _ _ _ _ hs, aF rfl]
 ·rw [hW.1]; simp [ChangeMaps.setBlock]
 have hl : ∀ n ∈ l, n.a < w0.heap.size := fun n hn => h.lt C hn
 simp [kO]
 simp at q2 q3
 refine ⟨⟨q1, fun n hn => q2 n hn, by omega⟩, ⟨fun n hn => q3 n hn, by omega⟩, q4, fun n hn => by have := hl n hn; omega⟩
end
theorem Cv : ((0 : Nat) : Int) = 0 := rfl
theorem Rep.c_lt {κ ν : Type} {C : lU κ ν} {w : World} {c m : Nat} {most : Int} {l : List (Nd κ ν)} (h : Rep C w c m most l) : c < w.heap.size := h.lt (by simp)
theorem Rep.m_lt {κ ν : Type} {C : lU κ ν} {w : World} {c m : Nat} {most : Int} {l : List (Nd κ ν)} (h : Rep C w c m most l) : m < w.heap.size := h.lt (by simp)
theorem Nu {w w' : World} {g : Nat} {a0 a1 a2 a3 a4 a5 b0 b1 b2 b3 b4 b5 : Value} {t : TypeId} (h : w.heap[g]? = some (.cells #[a0, a1, a2, a3, a4, a5] t (0, 0)))
  (hw : w'.Alike ((((((w.setCell ⟨g, 0, none⟩ b0).setCell ⟨g, 1, none⟩ b1).setCell ⟨g, 2, none⟩ b2).setCell ⟨g, 3, none⟩ b3).setCell ⟨g, 4, none⟩ b4).setCell ⟨g, 5, none⟩ b5)) :
  w'.heap[g]? = some (.cells #[b0, b1, b2, b3, b4, b5] t (0, 0)) ∧ aB [g] w w' := by
 refine ⟨?_, ?_⟩
 ·rw [hw.1]; simp [bJ, h, Obj.put]
 exact (((((((aB.refl _ _).setCell (by simp) _ _).setCell (by simp) _ _).setCell (by simp) _ _).setCell (by simp) _ _).setCell (by simp) _ _).setCell (by simp) _ _).alike hw
section
variable {κ ν : Type} {C : lU κ ν}
theorem Nv {w w1 w2 : World} {c m ck : Nat} {most : Int} {l1 l2 : List (Nd κ ν)} {x : Nd κ ν} {es es' : Array MapEntry} (h : Rep C w c m most (l1 ++ x :: l2)) (hb : w1.heap[m]? = some (.map es ck))
  (hL : gN C w1 c m most (l1 ++ l2)) (hm : kG C es' (l1 ++ l2)) (hW : w2.Alike (ChangeMaps.setBlock w1 m (.map es' ck))) : Rep C w2 c m most (l1 ++ l2) ∧ aB [m] w1 w2 := by
 have hm1 := aH hb
 have keep : ∀ k, k ≠ m → w2.heap[k]? = w1.heap[k]? := fun k hn => by rw [hW.1, xO _ _ _ _ hm1, aE hn]
 have hnd := hL.nodup
 simp only [kC, aJ, not_or] at hnd
 refine ⟨⟨⟨by rw [keep c hnd.1.1]; exact hL.cache, qU C (fun n hn => keep n.a (fun e => hnd.2.1 (cV.2 ⟨n, hn, e⟩))) hL.chain, hL.nodup⟩, ⟨es', ck, ?_, hm⟩, ?_⟩, ⟨hW.2.1, hW.2.2, ?_, fun k _ hn => keep k (by simpa using hn)⟩⟩
 ·rw [hW.1, xO _ _ _ _ hm1, aF rfl]
 ·exact h.keys.sublist (by simp)
 rw [hW.1]; simp [ChangeMaps.setBlock]
end
section
variable {κ ν : Type} {C : lU κ ν}
end
end Go.Proofs.YtgpefiacbipfpaaGreatDoor.Bc
