/- Strings and bytes; rows of bytes that came in; how many blocks are free. What files give back is free again: the walk of FsdirRoom. What is put behind a file is what is read of it: the walk of FsdirBack. -/
import Derived.Deep.DeepCutAuto
import Derived.Deep.CutBlock
import Derived.BigQuiet
import Derived.Test.YteepgehjkcahiaaGreatC36
import Derived.Test.YteepgehjkcahiaaGreatC35
namespace Go.Proofs.YteepgehjkcahiaaGreat
open Go.RowKit Go.Maps

theorem strOf_list (l : Bs) : (strOf l).data.toList = l := by simp [strOf]
theorem strOf_size (l : Bs) : (strOf l).size = l.length := by simp [strOf, ByteArray.size]
theorem strOf_append (a b : Bs) : strOf a ++ strOf b = strOf (a ++ b) := by
  apply ByteArray.ext
  rw [ByteArray.data_append]
  simp [strOf]
theorem strOf_eq {s : ByteArray} {l : Bs} (h : s.data.toList = l) : s = strOf l := by
  apply ByteArray.ext
  simp [strOf, ← h]

theorem Rd.quiet {w : World} {v : Value} {l : Bs} (h : Rd w v l) (n : Nat) : Rd (w.drewN n) v l := h.keep ((Upd.refl [] w).drewN n)
/-- The j-th of rows of bytes that came in. -/
theorem pcs_at {w : World} {a : Option Addr} {n c : Nat} {l : List (Value × Bs)} (h : SlAt 1 PcAt w (.slice a n c) l) (hok : ∀ x ∈ l, PcOk w x) {j : Nat} (hj : j < n) :
    ∃ (b off : Nat) (pa : Option Addr) (pc : Nat) (d : Bs), a = some ⟨b, off, none⟩ ∧ w.cell? ⟨b, off + j, none⟩ = some (.slice pa d.length pc) ∧ Rd w (.slice pa d.length pc) d ∧ d.length ≤ 140737488351232 ∧ d.length ≤ pc ∧ pc ≤ 9223372036854775807 ∧ (d ≠ [] → ∀ g, (Value.slice pa d.length pc).ownBlock = some g → g < w.heap.size) := by
  obtain ⟨a', c', hv, h1, h2, h3⟩ := h
  simp only [Value.slice.injEq] at hv
  obtain ⟨rfl, rfl, rfl⟩ := hv
  obtain ⟨b, off, e, hc, hr⟩ := h3 j hj
  have hk := hok _ (List.getElem_mem hj)
  generalize l[j] = x at hc hr hk
  obtain ⟨pv, d⟩ := x
  obtain ⟨pa, pc, hpv, q1, q2, -⟩ := hr.slice
  dsimp only at hpv hc hr
  obtain ⟨k1, k2⟩ := hk
  dsimp only at k1 k2
  subst hpv
  refine ⟨b, off, pa, pc, d, e, ?_, hr, k1, q1, q2, k2⟩
  rw [show off + j = off + j * 1 by omega]
  exact hc

theorem FsInv.free_sub {l : Nat → Cell} {room k s : Nat} {fs last : Files} (h : FsInv l room k s fs last) (hs : ∀ b ∈ allBlks last, b ∈ allBlks fs) : freeN room fs last + (allBlks fs).length = room := by
  have h1 := h.count
  have h2 : (allBlks last).length = ((allBlks fs).filter fun b => decide (b ∈ allBlks last)).length := by
    refine List.Perm.length_eq ((List.perm_ext_iff_of_nodup h.was.nodup (h.now.nodup.filter _)).2 fun b => ?_)
    simp only [List.mem_filter, decide_eq_true_eq]
    exact ⟨fun q => ⟨hs b q, q⟩, fun q => q.2⟩
  have h3 := (List.filter_append_perm (fun b => decide (b ∈ allBlks last)) (allBlks fs)).length_eq
  rw [List.length_append] at h3
  omega
theorem blks_put {fs : Files} {room : Nat} (h : FilesOk room fs) {nm : Bs} {f g : Fil} (hg : getA fs nm = some f) (hb : ∀ b ∈ f.blks, b ∈ g.blks) : ∀ b ∈ allBlks fs, b ∈ allBlks (putA ltN fs nm g) := by
  intro b q
  rw [mem_all_put h.srt]
  rcases (mem_all_get h.srt hg).1 q with e | e
  · exact .inl (hb b e)
  · exact .inr e
theorem growF_blks (room : Nat) (fs last : Files) (f : Fil) (d : Bs) : ∀ b ∈ f.blks, b ∈ (growF room fs last f d).blks := by
  intro b q
  unfold growF
  rw [grown_blks]
  exact List.mem_append_left _ q
theorem growF_data (room : Nat) (fs last : Files) (f : Fil) (d : Bs) : (growF room fs last f d).data = f.data ++ d := rfl
end Go.Proofs.YteepgehjkcahiaaGreat

namespace Go.Proofs.YteepgehjkcahiaaGreat
open Go.RowKit Go.Maps

theorem pick_ok (c n : Int) (w : World) (h1 : -9223372036854775808 ≤ c) (h2 : c ≤ 9223372036854775807) (h3 : 1 ≤ n) (h4 : n ≤ 1000000) :
    Calls Tryz.prog 14 #[.int .i64 c, .int .i64 n] w fun e w' => (∃ r : Int, e = .returned (.int .i64 r) ∧ 0 ≤ r ∧ r < n) ∧ w = w' := by
  have HE : Hid (∀ r : Int, 0 ≤ r → 0 ≤ r % n ∧ r % n < n) := Lib.hid (fun r hr => ⟨Int.emod_nonneg _ (by omega), Int.emod_lt_of_pos _ (by omega)⟩)
  have HT : Hid (c < 0 → 0 ≤ -((c + 1).tmod n) ∧ -((c + 1).tmod n) < n) := Lib.hid (fun h => by
    have e : -((c + 1).tmod n) = (-(c + 1)) % n := by rw [← Int.neg_tmod, Int.tmod_eq_emod_of_nonneg (by omega)]
    rw [e]; exact HE.out _ (by omega))
  by_cases h : c < 0
  · have hz : (n == 0) = false := by simp; omega
    go_enter Tryz.func14, Tryz.ntmps14
    go_wp2
    go_ret
    exact ⟨⟨-((c + 1).tmod n), rfl, HT.out h⟩, rfl⟩
  · have hz : (n == 0) = false := by simp; omega
    go_enter Tryz.func14, Tryz.ntmps14
    go_wp2
    go_ret
    exact ⟨⟨_, rfl, HE.out _ (by omega)⟩, rfl⟩

def nmX : Bs := [120]
theorem one_create : codeC false [] nmX = 0 ∧ crtF [] nmX = [(nmX, emptyF)] := by
  have hcc : codeC false [] nmX = 0 := by decide
  exact ⟨hcc, by unfold crtF; rw [if_pos hcc]; rfl⟩
theorem free_one {l : Nat → Cell} {room k s : Nat} {nm : Bs} {g : Fil} (h : FsInv l room k s [(nm, g)] []) : freeN room [(nm, g)] [] + blocksN g.data.length = room := by
  have := h.count0
  rwa [one_blks h.now] at this
theorem code_one {l : Nat → Cell} {room k s : Nat} {nm : Bs} (h : FsInv l room k s [(nm, emptyF)] []) {n : Nat} (hn : n ≤ 32768) (hr : blocksN n ≤ room) : codeP room [(nm, emptyF)] [] nm n = 0 := by
  have hf := free_one h
  have e0 : blocksN emptyF.data.length = 0 := by simp [emptyF, blocksN]
  rw [e0] at hf
  unfold codeP
  rw [getA_one]
  dsimp only
  rw [if_neg (by simp [emptyF]; omega), if_neg]
  have e1 : emptyF.data.length + n = n := by simp [emptyF]
  unfold needN
  rw [e0, e1]
  omega
theorem app_one (room : Nat) (nm d : Bs) : appF room [(nm, emptyF)] [] nm d = [(nm, growF room [(nm, emptyF)] [] emptyF d)] ∧ (growF room [(nm, emptyF)] [] emptyF d).data = d := by
  refine ⟨?_, by show emptyF.data ++ d = d; simp [emptyF]⟩
  unfold appF
  rw [getA_one]
  exact put_one _ _ _
theorem del_one (nm : Bs) (g : Fil) : delA [(nm, g)] nm = [] := by simp [delA]

set_option maxRecDepth 100000 in
set_option maxHeartbeats 8000000 in
theorem fsroom_walk (w : World) (sa : Option Addr) (sl sc : Nat) (zs : List Int) (hc : ∀ j, j < sl → ∃ b off, sa = some ⟨b, off, none⟩ ∧ w.cell? ⟨b, off + j, none⟩ = some (.int .i64 (zs.getD j 0))) (hz : ∀ j, j < sl → -9223372036854775808 ≤ zs.getD j 0 ∧ zs.getD j 0 ≤ 9223372036854775807) (_hl : sl ≤ 9223372036854775807) :
    Calls Tryz.prog 3 #[.slice sa sl sc] w fun r w' => r = .returned (.bool true) ∧ Upd [] w w' := by
  have HA := Lib.hid (awake_ok w)
  have HL := Lib.hid fun X : World => laidD_ok X 64 (by omega) (by omega)
  have HC := Lib.hid hc
  have HZ := Lib.hid hz
  have hnm : (⟨#[120]⟩ : ByteArray).data.toList = nmX := rfl
  have hnl : (⟨#[120]⟩ : ByteArray).size ≤ maxLen := by unfold maxLen; decide
  clear hc hz
  go_enter Tryz.func3, Tryz.ntmps3
  go_wp2_with fail
  refine HA.out.mono ?_
  rintro r w1 ⟨rfl, hu1⟩
  have HU1 := Lib.hid hu1
  clear hu1
  go_wp2_with fail
  refine (HL.out _).mono ?_
  rintro r w2 ⟨p, v, s, D, X, rfl, hat, hfu, hwr, hu, hlow⟩
  have hst : LSt w w2 v p D 28 3 s [] [] X := ⟨hat, hfu, HU1.out.trans hu, fun i hi => by have := hlow i hi; have := HU1.out.size; omega⟩
  have H2 := Lib.hid hst
  clear hat hfu hu hlow hst HL HA
  go_wp2_with fail
  go_loopg [6] 12 (fun gh v6 wr => ∃ (i k s : Nat) (D : Dev) (X : Fsd), v6 = .int .i64 i ∧ i ≤ 12 ∧ gh = 12 - i ∧ Hid (LSt w wr v p D 28 k s [] [] X ∧ k ≤ 3 + 2 * i ∧ D.wr ≤ 10000 + 50000 * i))
  case atStart => exact ⟨0, 3, s, D, X, rfl, by omega, rfl, Lib.hid ⟨H2.out, by omega, by omega⟩⟩
  case round =>
    obtain ⟨i, k, s, D, X, rfl, hi, rfl, HS⟩ := hrel
    by_cases his : i < sl
    · have his' : (i : Int) < (sl : Int) := by omega
      by_cases hi12 : i < 12
      · have hi12' : (i : Int) < 12 := by omega
        obtain ⟨b, off, rfl, d0⟩ := HC.out i his
        have d1 := held1 HS.out.1.upd d0
        obtain ⟨hz1, hz2⟩ := HZ.out i his
        have HP := Lib.hid fun X : World => pick_ok (zs.getD i 0) 14337 X hz1 hz2 (by omega) (by omega)
        have HCr := Lib.hid (Lcreate HS.out.1.at_ ⟨#[120]⟩ hnl)
        rw [hnm, one_create.1, one_create.2] at HCr
        clear d0 hz1 hz2
        go_wp2_with fail
        refine (HP.out _).mono ?_
        rintro r w3 ⟨⟨nn, rfl, hn0, hn1⟩, rfl⟩
        obtain ⟨n, rfl⟩ : ∃ n : Nat, nn = n := ⟨nn.toNat, by omega⟩
        have hn : n ≤ 14336 := by omega
        clear hn0 hn1 HP
        have hbn : blocksN n ≤ 28 := by unfold blocksN; omega
        have hwr0 : D.wr ≤ 700000 := by have := HS.out.2.2; omega
        go_wp2_with fail
        refine HCr.out.mono ?_
        rintro r w4 ⟨rfl, hn4⟩
        obtain ⟨X4, hst4⟩ := HS.out.1.step hn4 HS.out.1.fuse
        have HAp := Lib.hid fun (Y : World) (u : Upd [] w4 Y) (dv : Value) (hd : Rd Y dv (List.replicate n 0)) (hdo : ∀ g, dv.ownBlock = some g → g ∉ X4.fp v ∧ g < Y.heap.size) => fappend_ok Y (hst4.keep u).at_ (by omega) ⟨#[120]⟩ hnl hd hdo (by simp; omega)
        have hcp := code_one hst4.at_.inv (n := n) (by omega) hbn
        have hap := app_one 28 nmX (List.replicate n 0)
        have hmade : Rd (w4.alloc (.cells (flatG c8 (List.replicate n 0)).toArray 5)) (.slice (some ⟨w4.heap.size, 0, none⟩) n n) (List.replicate n 0) := Ow.rd (Ow.made (w := w4) (base := 0) (n := n) (l := List.replicate n 0) (Nat.zero_le _) (by omega) rfl)
        have hgd : (growF 28 [(nmX, emptyF)] [] emptyF (List.replicate n 0)).data.length = n := by rw [hap.2]; simp
        have hap1 := hap.1
        clear hap
        generalize growF 28 [(nmX, emptyF)] [] emptyF (List.replicate n 0) = g at *
        have H4 := Lib.hid (And.intro hst4 (And.intro hcp (And.intro hap1 (And.intro hgd (And.intro hmade hst4.at_.lt)))))
        clear hst4 hcp hap1 hgd hmade hn4 HCr
        go_wp2_with (first | (refine wpList_make_8 rfl _ _ rfl n (by omega) (l := List.replicate n 0) rfl rfl rfl rfl ?_) | fail)
        have hua : Upd [] w4 (w4.alloc (.cells (flatG c8 (List.replicate n 0)).toArray 5)) := (Upd.refl [] w4).alloc _
        refine (HAp.out _ hua _ H4.out.2.2.2.2.1 (fun gg hgg => ?_)).mono ?_
        · simp only [Value.ownBlock, Option.some.injEq] at hgg
          subst hgg
          exact ⟨fun q => by have := H4.out.2.2.2.2.2 _ q; omega, by simp⟩
        have hst4a := H4.out.1.keep hua
        generalize hw4a : (w4.alloc (.cells (flatG c8 (List.replicate n 0)).toArray 5)) = w4a at *
        clear hw4a
        rintro r w5 ⟨e, D5, rfl, hR5, hok5, -⟩
        obtain ⟨rfl, hfu5, -⟩ := hR5.ok H4.out.1.fuse H4.out.1.at_.up
        have hn5 := hok5 rfl
        have hlen : (List.replicate n (0 : UInt8)).length = n := by simp
        rw [hnm, hlen, H4.out.2.1, if_pos rfl, H4.out.2.2.1] at hn5
        obtain ⟨X5, hst5⟩ := hst4a.step hn5 hfu5
        rw [if_pos rfl, hnm, hlen, H4.out.2.1]
        have hgd := H4.out.2.2.2.1
        have hfr5 := free_one hst5.at_.inv
        rw [hgd] at hfr5
        have hw5 := hR5.wr
        have HFr := Lib.hid (Lfree hst5.at_)
        have H5 := Lib.hid hst5
        have HGD := Lib.hid hgd
        clear hst5 hn5 hok5 hR5 HAp H4 hst4a hua hlen hgd
        go_wp2_with fail
        refine HFr.out.mono ?_
        rintro r w6 ⟨rfl, hn6⟩
        obtain ⟨X6, hst6⟩ := H5.out.step hn6 hfu5
        obtain ⟨m, hm⟩ : ∃ m, m = blocksN n := ⟨_, rfl⟩
        rw [← hm] at hfr5 hbn
        have hfm : freeN 28 [(nmX, g)] [] = 28 - m := by omega
        rw [hfm]
        have hq : ((n : Int) + 511).tdiv 512 = (m : Int) := by
          rw [Int.tdiv_eq_ediv_of_nonneg (by omega), hm]
          unfold blocksN
          omega
        have hqe : ((n : Int) + 511) / 512 = (m : Int) := by rw [hm]; unfold blocksN; omega
        have hsb : IntKind.i64.wrap (28 - (m : Int)) = ((28 - m : Nat) : Int) := by rw [IntWalk.i64_in _ (by omega)]; omega
        have hsb2 : (28 : Int) - (m : Int) = ((28 - m : Nat) : Int) := by omega
        have H6 := Lib.hid hst6
        clear hst6 hn6 HFr H5 hfm hm hfr5
        have hk0 := HS.out.2.1
        by_cases hev : i % 2 = 0
        case' pos =>
          have hev' : (i : Int).tmod 2 = 0 := by rw [Int.tmod_eq_emod_of_nonneg (by omega)]; omega
          have HSy := Lib.hid (fsync_ok w6 H6.out.at_ (by omega) (by omega))
          go_wp2_with fail
          refine HSy.out.mono ?_
          rintro r W7 ⟨e, D7, rfl, hR7, hok7, -⟩
          obtain ⟨rfl, hfu7, -⟩ := hR7.ok hfu5 H6.out.at_.up
          obtain ⟨X7, hst7⟩ := H6.out.step (hok7 rfl) hfu7
          have hw7 : D7.wr ≤ D.wr + 40064 := by have := hR7.wr; omega
          obtain ⟨k7, hk7⟩ : ∃ k7, k7 = k + 1 := ⟨_, rfl⟩
          rw [← hk7] at hst7
          have hk7 : k7 ≤ k + 1 := by omega
          obtain ⟨s7, hs7⟩ : ∃ s7, s7 = 1 - s := ⟨_, rfl⟩
          rw [← hs7] at hst7
          obtain ⟨L7, hL7⟩ : ∃ L7, L7 = [(nmX, g)] := ⟨_, rfl⟩
          have hst7' : LSt w W7 v p D7 28 k7 s7 [(nmX, g)] L7 X7 := by rw [hL7]; exact hst7
          have H7 := Lib.hid hst7'
          clear hst7 hst7' hs7 hL7 hok7 hR7 HSy H6
        case' neg =>
          have hev' : ¬ (i : Int).tmod 2 = 0 := by rw [Int.tmod_eq_emod_of_nonneg (by omega)]; omega
          obtain ⟨W7, hW7⟩ : ∃ W7, W7 = w6 := ⟨_, rfl⟩
          obtain ⟨D7, hD7⟩ : ∃ D7, D7 = D5 := ⟨_, rfl⟩
          obtain ⟨k7, hk7⟩ : ∃ k7, k7 = k := ⟨_, rfl⟩
          obtain ⟨s7, hs7⟩ : ∃ s7, s7 = s := ⟨_, rfl⟩
          obtain ⟨L7, hL7⟩ : ∃ L7, L7 = ([] : Files) := ⟨_, rfl⟩
          obtain ⟨X7, hX7⟩ : ∃ X7, X7 = X6 := ⟨_, rfl⟩
          have hst7' : LSt w W7 v p D7 28 k7 s7 [(nmX, g)] L7 X7 := by rw [hW7, hD7, hk7, hs7, hL7, hX7]; exact H6.out
          have H7 := Lib.hid hst7'
          have hw7 : D7.wr ≤ D.wr + 40064 := by rw [hD7]; omega
          have hk7 : k7 ≤ k + 1 := by omega
          rw [← hW7]
          clear hst7' hs7 hL7 hD7 hX7 hW7 H6
        all_goals
          have HR := Lib.hid (Lremove H7.out.at_ (by omega) ⟨#[120]⟩ hnl)
          have hcr : codeF false [(nmX, g)] nmX = 0 := by unfold codeF; rw [getA_one]; rfl
          rw [hnm, hcr, del_one] at HR
          go_wp2_with fail
          refine HR.out.mono ?_
          rintro r w8 ⟨rfl, hn8⟩
          obtain ⟨X8, hst8⟩ := H7.out.step hn8 H7.out.fuse
          have HS8 := Lib.hid (fsync_ok w8 hst8.at_ (by omega) (by omega))
          have H8 := Lib.hid hst8
          clear hst8 hn8 HR
          go_wp2_with fail
          refine HS8.out.mono ?_
          rintro r w9 ⟨e, D9, rfl, hR9, hok9, -⟩
          obtain ⟨rfl, hfu9, -⟩ := hR9.ok H7.out.fuse H8.out.at_.up
          obtain ⟨X9, hst9⟩ := H8.out.step (hok9 rfl) hfu9
          have hw9 : D9.wr ≤ D.wr + 40200 := by have := hR9.wr; omega
          have hf9 : freeN 28 [] [] = 28 := by have := hst9.at_.inv.count0; simpa [allBlks] using this
          have HF9 := Lib.hid (Lfree hst9.at_)
          rw [hf9] at HF9
          have H9 := Lib.hid hst9
          clear hst9 hok9 hR9 HS8 H8
          go_wp2_with fail
          refine HF9.out.mono ?_
          rintro r w10 ⟨rfl, hn10⟩
          obtain ⟨X10, hst10⟩ := H9.out.step hn10 hfu9
          have H10 := Lib.hid hst10
          clear hst10 hn10 HF9
          go_wp2_with fail
          go_roundg (12 - (i + 1))
          case measure => omega
          case rel => exact ⟨i + 1, k7 + 1, 1 - s7, D9, X10, by go_num, by omega, rfl, Lib.hid ⟨H10.out, by omega, by have := HS.out.2.2; omega⟩⟩
      · have hi12' : ¬ (i : Int) < 12 := by omega
        have HU := Lib.hid HS.out.1.upd
        go_wp2_with fail
        go_ret
        exact ⟨rfl, HU.out⟩
    · have his' : ¬ (i : Int) < (sl : Int) := by omega
      have HU := Lib.hid HS.out.1.upd
      go_wp2_with fail
      go_ret
      exact ⟨rfl, HU.out⟩
end Go.Proofs.YteepgehjkcahiaaGreat

namespace Go.Proofs.YteepgehjkcahiaaGreat
open Go.RowKit Go.Maps

def nmOne : Bs := [111, 110, 101]
def nmTwo : Bs := [116, 119, 111]
theorem create_one (nm : Bs) (h1 : 1 ≤ nm.length) (h2 : nm.length ≤ 40) : codeC false [] nm = 0 ∧ crtF [] nm = [(nm, emptyF)] := by
  have hcc : codeC false [] nm = 0 := by
    unfold codeC
    simp only [Bool.false_eq_true, if_false, List.length_nil]
    rw [if_neg (by omega)]
    rfl
  exact ⟨hcc, by unfold crtF; rw [if_pos hcc]; rfl⟩
/-- One file, and one that was synced, of blocks of it. -/
structure OneB (w0 w : World) (v p room : Nat) (nm L : Bs) (c : Nat) (last : Files) (g : Fil) : Prop where
  lv : Lv w0 w v p room [(nm, g)] last c []
  data : g.data = L
  sub : ∀ b ∈ allBlks last, b ∈ allBlks [(nm, g)]
theorem OneB.code {w0 w : World} {v p room : Nat} {nm L : Bs} {c : Nat} {last : Files} {g : Fil} (h : OneB w0 w v p room nm L c last g) {n : Nat} (hn : L.length + n ≤ 20480) (hr : 40 ≤ room) : codeP room [(nm, g)] last nm n = 0 := by
  obtain ⟨l, k, s, hi⟩ := h.lv.inv
  have h1 := hi.free_sub h.sub
  rw [one_blks hi.now, h.data] at h1
  unfold codeP
  rw [getA_one]
  dsimp only
  rw [h.data, if_neg (by omega), if_neg]
  unfold needN
  rw [h.data]
  unfold blocksN at *
  omega
theorem OneB.app {w0 w w' : World} {v p room : Nat} {nm L : Bs} {c : Nat} {last : Files} {g : Fil} (h : OneB w0 w v p room nm L c last g) {d : Bs} (hc : codeP room [(nm, g)] last nm d.length = 0) {c' : Nat} (h' : Lv w0 w' v p room (apdF room [(nm, g)] last nm d) last c' []) : ∃ g', OneB w0 w' v p room nm (L ++ d) c' last g' := by
  have e : apdF room [(nm, g)] last nm d = [(nm, growF room [(nm, g)] last g d)] := by
    unfold apdF
    rw [if_pos hc]
    unfold appF
    rw [getA_one]
    exact put_one _ _ _
  rw [e] at h'
  refine ⟨_, h', by rw [growF_data, h.data], fun b hb => ?_⟩
  have := h.sub b hb
  simp only [allBlks, List.flatMap_cons, List.flatMap_nil, List.append_nil] at this ⊢
  exact growF_blks _ _ _ _ _ b this
theorem OneB.synced {w0 w w' : World} {v p room : Nat} {nm L : Bs} {c : Nat} {last : Files} {g : Fil} (h : OneB w0 w v p room nm L c last g) {c' : Nat} (h' : Lv w0 w' v p room [(nm, g)] [(nm, g)] c' []) : OneB w0 w' v p room nm L c' [(nm, g)] g := ⟨h', h.data, fun _ h => h⟩

theorem rdz_pick (w : World) : RdZ (w.alloc (.cells #[.int .i64 1, .int .i64 1, .int .i64 0] 3)) (.slice (some ⟨w.heap.size, 0, none⟩) 3 3) [1, 1, 0] := by
  refine ⟨⟨some ⟨w.heap.size, 0, none⟩, 3, rfl, Nat.le_refl _, by unfold maxLen; omega, fun i hi => ⟨_, _, rfl, fun j u hu => ?_⟩⟩, fun n c e => by cases e⟩
  have hb : (w.alloc (.cells #[.int .i64 1, .int .i64 1, .int .i64 0] 3)).heap[w.heap.size]? = some (.cells #[.int .i64 1, .int .i64 1, .int .i64 0] 3 (0, 0)) := by rw [heap_alloc, if_pos rfl]
  rw [cell_blk hb]
  have hj : j = 0 := by
    have : j < (cZ [(1 : Int), 1, 0][i]).length := (List.getElem?_eq_some_iff.1 hu).1
    simpa [cZ] using this
  subst hj
  have h3 : i < 3 := hi
  rcases (show i = 0 ∨ i = 1 ∨ i = 2 by omega) with rfl | rfl | rfl <;> exact hu
theorem code_ren (g : Fil) : codeN false [(nmOne, g)] nmOne nmTwo = 0 := by
  unfold codeN
  rw [getA_one]
  rfl
theorem ren_one (g : Fil) : renF [(nmOne, g)] nmOne nmTwo = [(nmTwo, g)] := by
  unfold renF
  rw [if_neg (by rw [code_ren]; decide), getA_one]
  rfl
set_option maxRecDepth 100000 in
set_option maxHeartbeats 8000000 in
theorem fsback_walk (w : World) (sa : Option Addr) (sl sc : Nat) (l : List (Value × Bs)) (at_ n : Int) (sync : Bool) (hs : SlAt 1 PcAt w (.slice sa sl sc) l) (hok : ∀ x ∈ l, PcOk w x) (_hl : sl ≤ 9223372036854775807) (ha : In64 at_) (hn : In64 n) :
    Calls Tryz.prog 5 #[.slice sa sl sc, .int .i64 at_, .int .i64 n, .bool sync] w fun r w' => r = .returned (.bool true) ∧ Upd [] w w' := by
  have HA := Lib.hid (awake_ok w)
  have HL := Lib.hid fun (X : World) (u : Upd [] w X) => lv_laid w u 80 (by omega) (by omega)
  have HP := Lib.hid fun j (hj : j < sl) => pcs_at hs hok hj
  have hn1 : (⟨#[111, 110, 101]⟩ : ByteArray).data.toList = nmOne := rfl
  have hn2 : (⟨#[116, 119, 111]⟩ : ByteArray).data.toList = nmTwo := rfl
  have hz1 : (⟨#[111, 110, 101]⟩ : ByteArray).size ≤ maxLen := by unfold maxLen; decide
  have hz2 : (⟨#[116, 119, 111]⟩ : ByteArray).size ≤ maxLen := by unfold maxLen; decide
  have hc1 := create_one nmOne (by decide) (by decide)
  have HC1 := Lib.hid hc1
  have HIN := Lib.hid (And.intro ha hn)
  clear hs hok hc1 ha hn
  go_enter Tryz.func5, Tryz.ntmps5
  go_wp2_with fail
  refine HA.out.mono ?_
  rintro r w1 ⟨rfl, hu1⟩
  have HU1 := Lib.hid hu1
  clear hu1
  go_wp2_with fail
  refine (HL.out _ HU1.out).mono ?_
  rintro r w2 ⟨p, v, rfl, hlv, -⟩
  have HCr := Lib.hid (hlv.create ⟨#[111, 110, 101]⟩ hz1)
  rw [hn1, HC1.out.1, HC1.out.2] at HCr
  clear hlv HL HA
  go_wp2_with fail
  refine HCr.out.mono ?_
  rintro r w3 ⟨rfl, hlv, -⟩
  have H3 : Hid (OneB w w3 v p 44 nmOne [] 0 [] emptyF) := Lib.hid ⟨hlv, rfl, by simp [allBlks]⟩
  clear hlv HCr
  go_upto_block 0 with fail
  go_cut [12] (fun v12 wr => ∃ (S : ByteArray) (L : Bs) (c : Nat) (last : Files) (g : Fil), v12 = .string S ∧ Hid (S = strOf L) ∧ L.length ≤ 20000 ∧ c ≤ 100 ∧ Hid (OneB w wr v p 44 nmOne L c last g))
  case first =>
    go_wp2_with fail
    go_loopg [12, 13] 40 (fun gh v12 v13 wr => ∃ (i : Nat) (S : ByteArray) (L : Bs) (c : Nat) (last : Files) (g : Fil), v12 = .string S ∧ Hid (S = strOf L) ∧ v13 = .int .i64 i ∧ i ≤ 40 ∧ gh = 40 - i ∧ L.length ≤ 20000 ∧ c ≤ 2 * i ∧ Hid (OneB w wr v p 44 nmOne L c last g))
    case atStart => exact ⟨0, _, [], 0, [], emptyF, rfl, Lib.hid rfl, rfl, by omega, rfl, by simp, by omega, H3⟩
    case round =>
      obtain ⟨i, S, L, c, last, g, rfl, HSL, rfl, hi, rfl, hL, hc, HS⟩ := hrel
      have hend : ∃ (S' : ByteArray) (L' : Bs) (c' : Nat) (last' : Files) (g' : Fil), Value.string S = .string S' ∧ Hid (S' = strOf L') ∧ L'.length ≤ 20000 ∧ c' ≤ 100 ∧ Hid (OneB w wr v p 44 nmOne L' c' last' g') := ⟨S, L, c, last, g, rfl, HSL, hL, by omega, HS⟩
      have HE := Lib.hid hend
      have hsz : S.size = L.length := by rw [HSL.out]; exact strOf_size L
      clear hend
      by_cases his : i < sl
      · have his' : (i : Int) < (sl : Int) := by omega
        by_cases hi40 : i < 40
        · have hi40' : (i : Int) < 40 := by omega
          obtain ⟨b, off, pa, pc, d, rfl, d0, hrd, hd1, hd2, hd3, hd4⟩ := HP.out i his
          have d1 := held1 HS.out.lv.upd d0
          have hrd1 := hrd.keep HS.out.lv.upd
          by_cases hbig : 20000 < L.length + d.length
          · have hbig' : (20000 : Int) < (L.length : Int) + (d.length : Int) := by omega
            clear d0 hrd
            go_wp2_with fail
            go_meet
            exact HE.out
          · have hbig' : ¬ (20000 : Int) < (L.length : Int) + (d.length : Int) := by omega
            have hcode := HS.out.code (n := d.length) (by omega) (by omega)
            have HAp := Lib.hid (HS.out.lv.append (by omega) ⟨#[111, 110, 101]⟩ hz1 hrd1 (fun hne q hq => .inr (hd4 hne q hq)) (by omega))
            rw [hn1, hcode] at HAp
            have HCo := Lib.hid hcode
            have HRd := Lib.hid hrd
            have HD0 := Lib.hid d0
            clear d0 hrd hrd1 hcode hd4
            go_wp2_with fail
            refine HAp.out.mono ?_
            rintro r w4 ⟨rfl, hlv4, -⟩
            obtain ⟨g4, hob4⟩ := HS.out.app HCo.out hlv4
            have H4 := Lib.hid hob4
            clear hlv4 hob4 HAp
            have HCA : Hid (S ++ strOf d = strOf (L ++ d)) := Lib.hid (by rw [HSL.out]; exact strOf_append L d)
            have hL8 : (L.length : Int) ≤ 8388608 := by omega
            have hd8 : (d.length : Int) ≤ 8388608 := by omega
            have hsd := strOf_size d
            cases sync with
            | false =>
              have d4 := held1 H4.out.lv.upd HD0.out
              have ht := Rd.str (HRd.out.keep H4.out.lv.upd)
              generalize strOf d = sd at *
              go_wp2_with fail
              go_roundg (40 - (i + 1))
              case measure => omega
              case rel => exact ⟨i + 1, _, L ++ d, c + 1, last, g4, rfl, HCA, by go_num, by omega, rfl, by rw [List.length_append]; omega, by omega, H4⟩
            | true =>
              have HSy := Lib.hid (H4.out.lv.sync (by omega))
              go_wp2_with fail
              refine HSy.out.mono ?_
              rintro r w5 ⟨rfl, hlv5, -⟩
              have H5 := Lib.hid (H4.out.synced hlv5)
              have d5 := held1 H5.out.lv.upd HD0.out
              have ht := Rd.str (HRd.out.keep H5.out.lv.upd)
              clear hlv5 HSy
              generalize strOf d = sd at *
              go_wp2_with fail
              go_roundg (40 - (i + 1))
              case measure => omega
              case rel => exact ⟨i + 1, _, L ++ d, c + 1 + 1, _, g4, rfl, HCA, by go_num, by omega, rfl, by rw [List.length_append]; omega, by omega, H5⟩
        · have hi40' : ¬ (i : Int) < 40 := by omega
          go_wp2_with fail
          go_meet
          exact HE.out
      · have his' : ¬ (i : Int) < (sl : Int) := by omega
        go_wp2_with fail
        go_meet
        exact HE.out
  case rest =>
    obtain ⟨S, L, c, last, g, rfl, HSL, hL, hc, HS⟩ := hcut
    have hsz : S.size = L.length := by rw [HSL.out]; exact strOf_size L
    have hob := HS.out
    have HRn := Lib.hid (hob.lv.rename (by omega) ⟨#[111, 110, 101]⟩ ⟨#[116, 119, 111]⟩ hz1 hz2)
    rw [hn1, hn2, ren_one, code_ren] at HRn
    have HDA := Lib.hid hob.data
    clear hob
    go_wp2_with fail
    refine HRn.out.mono ?_
    rintro r w4 ⟨rfl, hlv4, -⟩
    have HSy := Lib.hid (hlv4.sync (by omega))
    clear hlv4 HRn
    go_wp2_with fail
    refine HSy.out.mono ?_
    rintro r w5 ⟨rfl, hlv5, -⟩
    have hua : Upd [] w5 (w5.alloc (.cells #[.int .i64 1, .int .i64 1, .int .i64 0] 3)) := (Upd.refl [] w5).alloc _
    have hlv5a := hlv5.guard hua (G' := [w5.heap.size]) (by intro b hb; obtain rfl := List.mem_singleton.1 hb; exact ⟨Nat.le_refl _, by simp⟩)
    have HCra := Lib.hid (hlv5a.crash (by omega) (by omega) (rdz_pick w5) (by decide) (fun _ b hb => .inl (by cases hb; simp)))
    clear hlv5 HSy hua hlv5a
    go_wp2_with fail
    refine HCra.out.mono ?_
    rintro r w6 ⟨rfl, hcr6, -⟩
    have HMo := Lib.hid (hcr6.mount (by omega))
    clear hcr6 HCra
    go_wp2_with fail
    refine HMo.out.mono ?_
    rintro r w7 ⟨v', rfl, hlv7, -⟩
    have HP1 := Lib.hid fun X : World => pick_ok at_ ((L.length : Int) + 1) X HIN.out.1.1 HIN.out.1.2 (by omega) (by omega)
    have HP2 := Lib.hid fun X : World => pick_ok n 30000 X HIN.out.2.1 HIN.out.2.2 (by omega) (by omega)
    have H7 := Lib.hid hlv7
    clear hlv7 HMo
    go_wp2_with fail
    refine (HP1.out _).mono ?_
    rintro r w8 ⟨⟨aa, rfl, ha0, ha1⟩, rfl⟩
    obtain ⟨a, rfl⟩ : ∃ a : Nat, aa = a := ⟨aa.toNat, by omega⟩
    go_wp2_with fail
    refine (HP2.out _).mono ?_
    rintro r w8 ⟨⟨mm, rfl, hm0, hm1⟩, rfl⟩
    obtain ⟨m, rfl⟩ : ∃ m : Nat, mm = m := ⟨mm.toNat, by omega⟩
    have haL : a ≤ L.length := by omega
    have hm3 : m < 30000 := by omega
    have hcR : codeR [(nmTwo, g)] nmTwo a m = 0 := by unfold codeR; rw [getA_one]; dsimp only; rw [HDA.out, if_neg (by omega)]
    have hdR : dataR [(nmTwo, g)] nmTwo a m = (L.drop a).take m := by unfold dataR; rw [getA_one]; dsimp only; rw [HDA.out]; simp
    have HRe := Lib.hid (H7.out.read (by omega) ⟨#[116, 119, 111]⟩ hz2 a m)
    rw [hn2, hcR, hdR] at HRe
    have hs2 : sizeF [(nmTwo, g)] nmTwo = (L.length, 0) := by unfold sizeF; rw [getA_one]; dsimp only; rw [HDA.out]
    have hs1 : sizeF [(nmTwo, g)] nmOne = (0, 80) := by unfold sizeF; rfl
    have HSZ := Lib.hid (And.intro hs2 hs1)
    clear hcR hdR ha0 ha1 hm0 hm1 hs1 hs2 HP1 HP2
    go_wp2_with fail
    refine HRe.out.mono ?_
    rintro r w8 ⟨rv, rfl, ho, -, hlv8, -⟩
    have HO := Lib.hid (ho trivial)
    have HSa := Lib.hid (hlv8.size ⟨#[116, 119, 111]⟩ hz2)
    rw [hn2, HSZ.out.1] at HSa
    clear ho hlv8 HRe
    go_wp2_with fail
    refine HSa.out.mono ?_
    rintro r w9 ⟨rfl, hlv9, hst9⟩
    have HSb := Lib.hid (hlv9.size ⟨#[111, 110, 101]⟩ hz1)
    rw [hn1, HSZ.out.2] at HSb
    have ho9 := hst9.ow HO.out (fun q hq => by simp [hq])
    have HO9 := Lib.hid ho9
    clear ho9 hst9 hlv9 HSa
    go_wp2_with fail
    refine HSb.out.mono ?_
    rintro r w10 ⟨rfl, hlv10, hst10⟩
    have ho10 := hst10.ow HO9.out (fun q hq => by simp [hq])
    have ht := fun q => (ho10.rd.quiet q).str
    have HU := Lib.hid hlv10.upd
    obtain ⟨e, he⟩ : ∃ e : Nat, e = min L.length (a + m) := ⟨_, rfl⟩
    have hmin : min (L.length : Int) ((a : Int) + (m : Int)) = (e : Int) := by omega
    have hae : (a : Int) ≤ (e : Int) := by omega
    have heL : (e : Int) ≤ (L.length : Int) := by omega
    have he0 : (0 : Int) ≤ (e : Int) := by omega
    have ha0 : (0 : Int) ≤ (a : Int) := by omega
    have heq : (strOf ((L.drop a).take m)).toList = (S.extract a e).toList := by
      rw [HSL.out]
      unfold strOf
      rw [ByteArray.extract_mk]
      rw [show (L.drop a).take (e - a) = (L.drop a).take m from ?_]
      rcases Nat.le_total (L.length - a) m with q | q
      · rw [List.take_of_length_le (by rw [List.length_drop]; omega), List.take_of_length_le (by rw [List.length_drop]; omega)]
      · rw [show e - a = m by omega]
    generalize strOf ((L.drop a).take m) = sd at *
    have heb : (sd.toList == (S.extract a e).toList) = true := by rw [heq]; simp
    clear hst10 hlv10 ho10 HSb he heq
    go_wp2_with fail
    go_quiet (fail)
    go_wp2_with fail
    go_ret
    exact ⟨by simp, HU.out.drewN _⟩
end Go.Proofs.YteepgehjkcahiaaGreat
