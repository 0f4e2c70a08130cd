/- Strings and bytes; rows of bytes that came in; how many blocks are free. What files give back is free again: the walk of FsdirRoom. What is put behind a file is what is read of it: the walk of FsdirBack. What is done to one file is seen in no other one: the walk of FsdirApart. -/
import Derived.Deep.DeepCutAuto
import Derived.Deep.CutBlock
import Derived.BigQuiet
import Derived.Lib.ConvBytes
import Derived.Test.YtgpefiacbipfpaaGreatDoorC29
namespace Go.Proofs.YtgpefiacbipfpaaGreatDoor
open Go.RowKit Go.Maps
theorem strOf_list (l : Bs) : (strOf l).data.toList = l := by simp [strOf]
theorem Rd.quiet {w : World} {v : Value} {l : Bs} (h : Rd w v l) (n : Nat) : Rd (w.drewN n) v l := h.keep ((Upd.refl [] w).drewN n)
theorem FsInv.free_sub {l : Nat → Cell} {room k s : Nat} {fs last : Files} (h : FsInv l room k s fs last) (hs : ∀ b ∈ allBlks last, b ∈ allBlks fs) : freeN room fs last + (allBlks fs).length = room := by
 have h1 := h.count
 have h2 : (allBlks last).length = ((allBlks fs).filter fun b => decide (b ∈ allBlks last)).length := by
  refine List.Perm.length_eq ((List.perm_ext_iff_of_nodup h.was.nodup (h.now.nodup.filter _)).2 fun b => ?_)
  simp only [List.mem_filter, decide_eq_true_eq]
  exact ⟨fun q => ⟨hs b q, q⟩, fun q => q.2⟩
 have h3 := (List.filter_append_perm (fun b => decide (b ∈ allBlks last)) (allBlks fs)).length_eq
 rw [List.length_append] at h3
 omega
theorem blks_put {fs : Files} {room : Nat} (h : FilesOk room fs) {nm : Bs} {f g : Fil} (hg : getA fs nm = some f) (hb : ∀ b ∈ f.blks, b ∈ g.blks) : ∀ b ∈ allBlks fs, b ∈ allBlks (putA ltN fs nm g) := by
 intro b q
 rw [mem_all_put h.srt]
 rcases (mem_all_get h.srt hg).1 q with e | e
 ·exact .inl (hb b e)
 ·exact .inr e
theorem growF_blks (room : Nat) (fs last : Files) (f : Fil) (d : Bs) : ∀ b ∈ f.blks, b ∈ (growF room fs last f d).blks := by
 intro b q
 unfold growF
 rw [grown_blks]
 exact List.mem_append_left _ q
theorem growF_data (room : Nat) (fs last : Files) (f : Fil) (d : Bs) : (growF room fs last f d).data = f.data ++ d := rfl
end Go.Proofs.YtgpefiacbipfpaaGreatDoor

namespace Go.Proofs.YtgpefiacbipfpaaGreatDoor
open Go.RowKit Go.Maps
theorem pick_ok (c n : Int) (w : World) (h1 : -9223372036854775808 ≤ c) (h2 : c ≤ 9223372036854775807) (h3 : 1 ≤ n) (h4 : n ≤ 1000000) :
  Calls Tryz.prog 10 #[.int .i64 c, .int .i64 n] w fun e w' => (∃ r : Int, e = .returned (.int .i64 r) ∧ 0 ≤ r ∧ r < n) ∧ w = w' := by
 have HE : Hid (∀ r : Int, 0 ≤ r → 0 ≤ r % n ∧ r % n < n) := Lib.hid (fun r hr => ⟨Int.emod_nonneg _ (by omega), Int.emod_lt_of_pos _ (by omega)⟩)
 have HT : Hid (c < 0 → 0 ≤ -((c + 1).tmod n) ∧ -((c + 1).tmod n) < n) := Lib.hid (fun h => by
  have e : -((c + 1).tmod n) = (-(c + 1)) % n := by rw [← Int.neg_tmod, Int.tmod_eq_emod_of_nonneg (by omega)]
  rw [e]; exact HE.out _ (by omega))
 by_cases h : c < 0
 ·have hz : (n == 0) = false := by simp; omega
  go_enter Tryz.func10, Tryz.ntmps10
  go_wp2
  go_ret
  exact ⟨⟨-((c + 1).tmod n), rfl, HT.out h⟩, rfl⟩
 ·have hz : (n == 0) = false := by simp; omega
  go_enter Tryz.func10, Tryz.ntmps10
  go_wp2
  go_ret
  exact ⟨⟨_, rfl, HE.out _ (by omega)⟩, rfl⟩
end Go.Proofs.YtgpefiacbipfpaaGreatDoor

namespace Go.Proofs.YtgpefiacbipfpaaGreatDoor
open Go.RowKit Go.Maps
end Go.Proofs.YtgpefiacbipfpaaGreatDoor

namespace Go.Proofs.YtgpefiacbipfpaaGreatDoor
open Go.RowKit Go.Maps
theorem Rd.head {w : World} {a : Option Addr} {n c : Nat} {d : Bs} (h : Rd w (.slice a n c) d) (m : Nat) (hm : m ≤ n) : Rd w (.slice a m c) (d.take m) := by
 obtain ⟨⟨a', c', hv, h1, h2, h3⟩, h4⟩ := h
 simp only [Value.slice.injEq] at hv
 obtain ⟨rfl, rfl, rfl⟩ := hv
 have hl : (d.take m).length = m := by rw [List.length_take]; omega
 refine ⟨⟨a, c, by rw [hl], by omega, h2, fun i hi => ?_⟩, fun n' c' e => ?_⟩
 ·obtain ⟨b, off, e, hc⟩ := h3 i (by omega)
  refine ⟨b, off, e, ?_⟩
  rw [List.getElem_take]
  exact hc
 ·injection e with e1 e2 e3
  subst e1 e3
  exact h4 _ _ rfl
theorem Lv.app_code {w0 w : World} {v p room : Nat} {fs last : Files} {c : Nat} {G : List Nat} (h : Lv w0 w v p room fs last c G) (hs : ∀ b ∈ allBlks last, b ∈ allBlks fs) {nm : Bs} {f : Fil} (hg : getA fs nm = some f) {n : Nat} (hm : f.data.length + n ≤ 32768) (hb : (allBlks fs).length + needN f n ≤ room) : codeP room fs last nm n = 0 := by
 obtain ⟨l, k, s, hi⟩ := h.inv
 have h1 := hi.free_sub hs
 unfold codeP
 rw [hg]
 dsimp only
 rw [if_neg (by omega), if_neg (by omega)]
section
variable {w0 w : World} {v p room : Nat} {A B C : Bs} {c : Nat} {last : Files}
end
end Go.Proofs.YtgpefiacbipfpaaGreatDoor
