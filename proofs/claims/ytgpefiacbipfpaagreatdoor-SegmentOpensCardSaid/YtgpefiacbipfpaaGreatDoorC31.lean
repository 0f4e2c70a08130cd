/- Strings and bytes; rows of bytes that came in; how many blocks are free. -/
import Derived.Deep.DeepCutAuto
import Derived.Deep.CutBlock
import Derived.BigQuiet
import Derived.Lib.ConvBytes
import Derived.Test.YtgpefiacbipfpaaGreatDoorC30
set_option maxRecDepth 100000
namespace Go.Proofs.YtgpefiacbipfpaaGreatDoor
open Go.RowKit Go.Maps
theorem xY (l : Bs) : (bC l).data.toList = l := by simp [bC]
theorem pZ (l : Bs) : (bC l).size = l.length := by simp [bC, ByteArray.size]
theorem QR (a b : Bs) : bC a ++ bC b = bC (a ++ b) := by
 apply DY
 rw [DZ]
 simp [bC]
theorem IH {s : ByteArray} {l : Bs} (h : s.data.toList = l) : s = bC l := by
 apply DY
 simp [bC, ← h]
theorem Rd.quiet {w : World} {v : Value} {l : Bs} (h : Rd w v l) (n : Nat) : Rd (w.drewN n) v l := h.keep ((aB.refl [] w).drewN n)
theorem eY.free_sub {l : Nat → aL} {room k s : Nat} {fs last : aG} (h : eY l room k s fs last) (hs : ∀ b ∈ bH last, b ∈ bH fs) : nP room fs last + (bH fs).length = room := by
 have h1 := h.count
 have h2 : (bH last).length = ((bH fs).filter fun b => decide (b ∈ bH last)).length := by
  refine List.Perm.length_eq ((List.perm_ext_iff_of_nodup h.was.nodup (h.now.nodup.filter _)).2 fun b => ?_)
  simp only [wM, decide_eq_true_eq]
  exact ⟨fun q => ⟨hs b q, q⟩, fun q => q.2⟩
 have h3 := (List.filter_append_perm (fun b => decide (b ∈ bH last)) (bH fs)).length_eq
 rw [bD] at h3
 omega
theorem QS {fs : aG} {room : Nat} (h : dC room fs) {nm : Bs} {f g : bO} (hg : bF fs nm = some f) (hb : ∀ b ∈ f.blks, b ∈ g.blks) : ∀ b ∈ bH fs, b ∈ bH (cQ bQ fs nm g) := by
 intro b q
 rw [Da h.srt]
 rcases (Db h.srt hg).1 q with e | e
 ·exact .inl (hb b e)
 exact .inr e
theorem QT (room : Nat) (fs last : aG) (f : bO) (d : Bs) : ∀ b ∈ f.blks, b ∈ (tJ room fs last f d).blks := by
 intro b q
 unfold tJ
 rw [vY]
 exact iL _ q
theorem QU (room : Nat) (fs last : aG) (f : bO) (d : Bs) : (tJ room fs last f d).data = f.data ++ d := rfl
theorem QV (c n : Int) (w : World) (h1 : -9223372036854775808 ≤ c) (h2 : c ≤ 9223372036854775807) (h3 : 1 ≤ n) (h4 : n ≤ 1000000) :
  Calls Tryz.prog 10 #[.int .i64 c, .int .i64 n] w fun e w' => (∃ r : Int, e = .returned (.int .i64 r) ∧ 0 ≤ r ∧ r < n) ∧ w = w' := by
 have HE : Hid (∀ r : Int, 0 ≤ r → 0 ≤ r % n ∧ r % n < n) := aA (fun r hr => ⟨Int.emod_nonneg _ (by omega), Int.emod_lt_of_pos _ (by omega)⟩)
 have HT : Hid (c < 0 → 0 ≤ -((c + 1).tmod n) ∧ -((c + 1).tmod n) < n) := aA (fun h => by
  have e : -((c + 1).tmod n) = (-(c + 1)) % n := by rw [← Int.neg_tmod, Kj (by omega)]
  rw [e]; exact HE.out _ (by omega))
 by_cases h : c < 0
 ·have hz : (n == 0) = false := by simp; omega
  go_in
  go_wp2
  go_ret
  exact ⟨⟨-((c + 1).tmod n), rfl, HT.out h⟩, rfl⟩
 have hz : (n == 0) = false := by simp; omega
 go_in
 go_wp2
 go_ret
 exact ⟨⟨_, rfl, HE.out _ (by omega)⟩, rfl⟩
theorem II (w : World) (s : ByteArray) (hs : s.size ≤ 140737488355328) : ∃ v w', (convert 9 23 (.string s)).run Tryz.prog w = .ok v w' ∧ Rd w' v s.data.toList ∧ v.ownBlock = some w.heap.size ∧ aB [] w w' ∧ w'.heap.size = w.heap.size + 1 := by
 have hrun := Lib.run_convert_string_bytes (P := Tryz.prog) w 9 23 5 s Tryz.underlying9 Tryz.underlying23 Tryz.underlying5
 have hl : s.data.toList.length = s.size := yR
 have hc := grownCap_ge w s.size 0 5
 have hm : grownCap w s.size 0 5 ≤ maxLen := Km w s.size 0 5 (by unfold maxLen; omega)
 refine ⟨_, _, hrun, ⟨⟨some ⟨w.heap.size, 0, none⟩, _, by rw [hl], by rw [hl]; exact hc, hm, fun i hi => ⟨_, _, rfl, fun j u hu => ?_⟩⟩, fun n c e => by cases e⟩, rfl, ⟨rfl, rfl, by rw [Lib.bytesWorld_size]; omega, fun k hk _ => Lib.bytesWorld_at_old w _ s k hk⟩, Lib.bytesWorld_size w _ s⟩
 have hj : j = 0 := by
  have : j < [Value.int .u8 ((s.data.toList[i]).toNat : Int)].length := (eX.1 hu).1
  simpa using this
 subst hj
 have hu' : u = .int .u8 ((s.data.toList[i]).toNat : Int) := (mQ hu).symm
 rw [hu', show 0 + i * 1 + 0 = i by omega, Lib.bytesWorld_cell w _ s i (by omega)]
 rw [dI, bL hi]
 rfl
theorem Rd.head {w : World} {a : Option Addr} {n c : Nat} {d : Bs} (h : Rd w (.slice a n c) d) (m : Nat) (hm : m ≤ n) : Rd w (.slice a m c) (d.take m) := by
 obtain ⟨⟨a', c', hv, h1, h2, h3⟩, h4⟩ := h
 simp only [fG] at hv
 obtain ⟨rfl, rfl, rfl⟩ := hv
 have hl : (d.take m).length = m := by rw [bX]; omega
 refine ⟨⟨a, c, by rw [hl], by omega, h2, fun i hi => ?_⟩, fun n' c' e => ?_⟩
 ·obtain ⟨b, off, e, hc⟩ := h3 i (by omega)
  refine ⟨b, off, e, ?_⟩
  rw [List.getElem_take]
  exact hc
 injection e with e1 e2 e3
 subst e1 e3
 exact h4 _ _ rfl
theorem Lv.app_code {w0 w : World} {v p room : Nat} {fs last : aG} {c : Nat} {G : List Nat} (h : Lv w0 w v p room fs last c G) (hs : ∀ b ∈ bH last, b ∈ bH fs) {nm : Bs} {f : bO} (hg : bF fs nm = some f) {n : Nat} (hm : f.data.length + n ≤ 32768) (hb : (bH fs).length + rD f n ≤ room) : lE room fs last nm n = 0 := by
 obtain ⟨l, k, s, hi⟩ := h.inv
 have h1 := hi.free_sub hs
 unfold lE
 rw [hg]
 dsimp only
 rw [aE (by omega), aE (by omega)]
section
variable {w0 w : World} {v p room : Nat} {A B C : Bs} {c : Nat} {last : aG}
end
end Go.Proofs.YtgpefiacbipfpaaGreatDoor
