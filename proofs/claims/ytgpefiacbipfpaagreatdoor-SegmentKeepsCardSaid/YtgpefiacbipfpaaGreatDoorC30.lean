/- Mounted: behind a crash a file system is mounted, however often the device goes down in that. FsdirAtoms: the walk. Segment, in plain words: frames as bytes, one behind the other, what is read of bytes, the name of a segment. Segment, in plain words: what is read of many files; a frame is put behind them. -/
import Derived.Test.YtgpefiacbipfpaaGreatDoorC29
import Derived.Test.YtgpefiacbipfpaaGreatDoorC00
namespace Go.Proofs.YtgpefiacbipfpaaGreatDoor
open Go.RowKit Go.Maps
set_option maxRecDepth 100000 in
set_option maxHeartbeats 4000000 in
theorem mounted_ok (w0 w : World) {p room : Nat} {P : Files → Prop} {c : Nat} {G : List Nat} (h : Dv w0 w p room P c G) (hc : c ≤ 900000) (n : Int) (hn : In64 n) {qa : Option Addr} {ql qc : Nat} {picks : List Int} (hp : RdZ w0 (.slice qa ql qc) picks) (hpk : ∀ x ∈ picks, -9223372036854775808 ≤ x ∧ x ≤ 9223372036854775807) (hpo : picks ≠ [] → ∀ b, (Value.slice qa ql qc).ownBlock = some b → b < w0.heap.size) :
  Calls Tryz.prog 65 #[.pointer (some ⟨p, 0, none⟩), .int .i64 n, .slice qa ql qc] w fun r w' => ∃ v : Nat, r = .returned (.pointer (some ⟨v, 0, none⟩)) ∧ ∃ fs : Files, P fs ∧ Lv w0 w' v p room fs fs (c + 6) G ∧ Stay G w w' := by
 have HCR := Lib.hid fun (X : World) (c' : Nat) (h : Dv w0 X p room P c' G) (hc : c' ≤ 1000000) => h.crash hc (hp.keep TZ h.upd) hpk (fun q b hb => .inr (hpo q b hb))
 have HP := Lib.hid fun X : World => pick_ok n 40 X hn.1 hn.2 (by omega) (by omega)
 have H := Lib.hid h
 clear hp hpk hpo h hn
 go_enter Tryz.func65, Tryz.ntmps65
 go_wp2_with fail
 refine (HCR.out _ _ H.out (by omega)).mono ?_
 rintro r w1 ⟨rfl, hcr1, hst1⟩
 have H1 := Lib.hid (And.intro hcr1 hst1)
 clear hcr1 hst1
 go_wp2_with fail
 go_loopg [7, 8, 9] 4 (fun gh v7 v8 v9 wr => ∃ (i c' : Nat), v7 = .int .i64 i ∧ i ≤ 4 ∧ gh = 4 - i ∧ c' ≤ c + i ∧ Hid (CrF w0 wr p room P true c' G ∧ Stay G w wr))
 case atStart => exact ⟨0, c, rfl, by omega, rfl, by omega, H1⟩
 case round =>
  obtain ⟨i, c', rfl, hi, rfl, hc', HS⟩ := hrel
  by_cases hi4 : i < 4
  ·have hi4' : (i : Int) < 4 := by omega
   have HFu := Lib.hid fun (m : Int) (hm : In64 m) => HS.out.1.fuse m hm
   go_wp2_with fail
   refine (HP.out _).mono ?_
   rintro r w2 ⟨⟨rr, rfl, hr0, hr1⟩, rfl⟩
   have hm0 : 0 ≤ rr * ((i : Int) + 1) := Int.mul_nonneg hr0 (by omega)
   have hm1 : rr * ((i : Int) + 1) ≤ 40 * 4 := Int.mul_le_mul (by omega) (by omega) (by omega) (by omega)
   go_wp2_with fail
   refine (HFu.out _ ⟨by omega, by omega⟩).mono ?_
   rintro r w3 ⟨rfl, hcr3, hst3⟩
   have HMo := Lib.hid (hcr3.mount (by omega))
   have HS3 := Lib.hid (HS.out.2.trans hst3)
   clear hcr3 hst3 hm0 hm1 HFu
   go_wp2_with fail
   refine HMo.out.mono ?_
   rintro r w4 (⟨v4, fs4, rfl, hP4, hl4, hst4, -⟩ | ⟨-, rfl, hdv4, hst4⟩)
   ·have HFu := Lib.hid (hl4.fuse (-1) ⟨by omega, by omega⟩)
    have HS4 := Lib.hid (And.intro hP4 (HS3.out.trans hst4))
    clear hl4 hP4 hst4 HMo HS3
    go_wp2_with fail
    refine HFu.out.mono ?_
    rintro r w5 ⟨rfl, -, hst5, hlv5⟩
    have H5 := Lib.hid ((hlv5 (by omega)).more (c' := c + 6) (by omega))
    have HS5 := Lib.hid (HS4.out.2.trans hst5)
    clear hst5 hlv5 HFu
    go_wp2_with fail
    go_ret
    exact ⟨v4, rfl, fs4, HS4.out.1, H5.out, HS5.out⟩
   ·have HCr := Lib.hid (HCR.out _ _ hdv4 (by omega))
    have HS4 := Lib.hid (HS3.out.trans hst4)
    clear hdv4 hst4 HMo HS3
    go_wp2_with fail
    refine HCr.out.mono ?_
    rintro r w5 ⟨rfl, hcr5, hst5⟩
    have H5 := Lib.hid (And.intro hcr5 (HS4.out.trans hst5))
    clear hcr5 hst5 HCr HS4
    go_wp2_with fail
    go_roundg (4 - (i + 1))
    case measure => omega
    case rel => exact ⟨i + 1, c' + 1, by go_num, by omega, rfl, by omega, H5⟩
  ·have hi4' : ¬ (i : Int) < 4 := by omega
   have HMo := Lib.hid (HS.out.1.mount (by omega))
   go_wp2_with fail
   refine HMo.out.mono ?_
   rintro r w4 (⟨v4, fs4, rfl, hP4, -, hst4, hl4⟩ | ⟨q, -⟩)
   ·have H4 := Lib.hid (And.intro hP4 (And.intro ((hl4 trivial).more (c' := c + 6) (by omega)) (HS.out.2.trans hst4)))
    clear hl4 hP4 hst4 HMo
    go_wp2_with fail
    go_ret
    exact ⟨v4, rfl, fs4, H4.out⟩
   ·cases q
end Go.Proofs.YtgpefiacbipfpaaGreatDoor

namespace Go.Proofs.YtgpefiacbipfpaaGreatDoor
open Go.RowKit Go.Maps
theorem Lv.apd {w0 w : World} {v p room : Nat} {fs last : Files} {c : Nat} {G : List Nat} (h : Lv w0 w v p room fs last c G) (hs : ∀ b ∈ allBlks last, b ∈ allBlks fs) {nm : Bs} {f : Fil} (hg : getA fs nm = some f) {d : Bs} (hm : f.data.length + d.length ≤ 32768) {m : Nat} (hk : ∀ q ∈ fs, q.2.data.length ≤ 512 * m) (hb : m * fs.length + needN f d.length ≤ room) :
  codeP room fs last nm d.length = 0 ∧ ∃ g : Fil, g.data = f.data ++ d ∧ apdF room fs last nm d = putA ltN fs nm g := by
 obtain ⟨l, k, s, hi⟩ := h.inv
 have hle := blks_le hi.now hk
 have hc := h.app_code hs hg (n := d.length) hm (by omega)
 refine ⟨hc, growF room fs last f d, growF_data _ _ _ _ _, ?_⟩
 unfold apdF
 rw [if_pos hc]
 unfold appF
 rw [hg]
theorem need_le (f : Fil) (n : Nat) : needN f n ≤ n / 512 + 1 := by unfold needN blocksN; omega
theorem Lv.readAll {w0 w : World} {v p room : Nat} {fs last : Files} {c : Nat} {G : List Nat} {f : Fil} (h : Lv w0 w v p room fs last c G) (hc : c ≤ 1000000) (nm : ByteArray) (hs : nm.size ≤ maxLen) (hg : getA fs nm.data.toList = some f) (n : Nat) (hn : f.data.length ≤ n) :
  Calls Tryz.prog 56 #[.pointer (some ⟨v, 0, none⟩), .string nm, .int .i64 0, .int .i64 (n : Int)] w fun r w' => ∃ rv, r = .returned (.tuple #[rv, .int .i64 0]) ∧ Ow w' w.heap.size rv f.data ∧ Lv w0 w' v p room fs last c (rv.ownBlock.toList ++ G) ∧ Stay G w w' := by
 have hcR : codeR fs nm.data.toList 0 n = 0 := by unfold codeR; rw [hg]; dsimp only; rw [if_neg (by omega)]
 have hdR : dataR fs nm.data.toList 0 n = f.data := by unfold dataR; rw [hg]; dsimp only; rw [show (0 : Int).toNat = 0 from rfl, List.drop_zero, List.take_of_length_le (by simp only [Int.toNat_natCast]; exact hn)]
 refine (h.read hc nm hs 0 n).mono fun r w' ⟨rv, e, ho, _, hl, hst⟩ => ?_
 rw [hcR] at e ho
 rw [hdR] at ho
 exact ⟨rv, e, ho rfl, hl, hst⟩
end Go.Proofs.YtgpefiacbipfpaaGreatDoor

namespace Go.Proofs.YtgpefiacbipfpaaGreatDoor
abbrev Frm := UInt8 × Bs
def encF (l : List Frm) : Bs := l.flatMap fun x => putFrame x.1 x.2
theorem encF_nil : encF [] = [] := rfl
theorem encF_cons (x : Frm) (l : List Frm) : encF (x :: l) = putFrame x.1 x.2 ++ encF l := rfl
theorem encF_one (x : Frm) : encF [x] = putFrame x.1 x.2 := by rw [encF_cons, encF_nil, List.append_nil]
theorem putFrame_len (k : UInt8) (d : Bs) : (putFrame k d).length = 5 + (putU d.length).length + d.length := by simp [putFrame, frameRest, put32]; omega
theorem putFrame_le {k : UInt8} {d : Bs} (h : d.length ≤ 2000) : 6 ≤ (putFrame k d).length ∧ (putFrame k d).length ≤ d.length + 7 := by
 rw [putFrame_len]
 have h1 := putU_pos d.length
 have h2 := putU_len 1 d.length (by omega)
 omega
theorem getFrame_pos {b : Bs} (h : (getFrame b).2.2.2 = 0) : 5 < (getFrame b).2.2.1 ∧ (getFrame b).2.2.1 ≤ b.length := by
 have hb := getU_bounds 10 0 0 (b.drop 5) (by decide)
 have hl : (b.drop 5).length = b.length - 5 := List.length_drop
 unfold getFrame getUint at *
 generalize getU 10 0 0 (b.drop 5) = g at *
 dsimp only at *
 by_cases h1 : b.length < 5
 ·rw [if_pos h1] at h; cases h
 ·rw [if_neg h1] at h ⊢
  by_cases h2 : g.2.2 ≠ 0
  ·rw [if_pos h2] at h; exact absurd h h2
  ·rw [if_neg h2] at h ⊢
   have h3 := hb.2.1 (by simpa using h2)
   by_cases h4 : 2000 < g.1
   ·rw [if_pos h4] at h; cases h
   ·rw [if_neg h4] at h ⊢
    by_cases h5 : b.length - 5 - g.2.1 < g.1
    ·rw [if_pos h5] at h; cases h
    ·rw [if_neg h5] at h ⊢
     split at h
     ·cases h
     ·rename_i h6
      rw [if_neg h6]
      dsimp only
      omega
def scanN : Nat → Bs → List Frm × Nat
 | 0, _ => ([], 0)
 | k + 1, b => if (getFrame b).2.2.2 ≠ 0 then ([], 0) else (((getFrame b).1, (getFrame b).2.1) :: (scanN k (b.drop (getFrame b).2.2.1)).1, (getFrame b).2.2.1 + (scanN k (b.drop (getFrame b).2.2.1)).2)
theorem scanN_succ (k : Nat) (b : Bs) : scanN (k + 1) b = if (getFrame b).2.2.2 ≠ 0 then ([], 0) else (((getFrame b).1, (getFrame b).2.1) :: (scanN k (b.drop (getFrame b).2.2.1)).1, (getFrame b).2.2.1 + (scanN k (b.drop (getFrame b).2.2.1)).2) := rfl
def scanB (b : Bs) : List Frm × Nat := scanN b.length b
theorem scanN_same : ∀ (k j : Nat) (b : Bs), b.length ≤ k → b.length ≤ j → scanN k b = scanN j b := by
 intro k
 induction k with
 | zero =>
  intro j b h1 h2
  cases j with
  | zero => rfl
  | succ j =>
   unfold scanN
   rw [if_pos fun e => by have := getFrame_pos e; omega]
 | succ k ih =>
  intro j b h1 h2
  cases j with
  | zero =>
   unfold scanN
   rw [if_pos fun e => by have := getFrame_pos e; omega]
  | succ j =>
   unfold scanN
   by_cases he : (getFrame b).2.2.2 ≠ 0
   ·rw [if_pos he, if_pos he]
   ·rw [if_neg he, if_neg he]
    have := getFrame_pos (by simpa using he)
    rw [ih j (b.drop (getFrame b).2.2.1) (by rw [List.length_drop]; omega) (by rw [List.length_drop]; omega)]
theorem scanB_stop {b : Bs} (h : (getFrame b).2.2.2 ≠ 0) : scanB b = ([], 0) := by
 unfold scanB
 cases hl : b.length with
 | zero => rfl
 | succ k => unfold scanN; rw [if_pos h]
theorem scanB_step {b : Bs} (h : (getFrame b).2.2.2 = 0) : scanB b = (((getFrame b).1, (getFrame b).2.1) :: (scanB (b.drop (getFrame b).2.2.1)).1, (getFrame b).2.2.1 + (scanB (b.drop (getFrame b).2.2.1)).2) := by
 have hp := getFrame_pos h
 unfold scanB
 cases hl : b.length with
 | zero => omega
 | succ k =>
  have hd : (b.drop (getFrame b).2.2.1).length ≤ k := by rw [List.length_drop]; omega
  rw [scanN_succ, if_neg (by simpa using h), scanN_same k _ _ hd (Nat.le_refl _)]
theorem scanB_le (b : Bs) : (scanB b).2 ≤ b.length := by
 suffices ∀ (n : Nat) (b : Bs), b.length ≤ n → (scanB b).2 ≤ b.length from this _ b (Nat.le_refl _)
 intro n
 induction n with
 | zero => intro b h; rw [scanB_stop fun e => by have := getFrame_pos e; omega]; omega
 | succ n ih =>
  intro b h
  by_cases he : (getFrame b).2.2.2 = 0
  ·rw [scanB_step he]
   have hp := getFrame_pos he
   have := ih (b.drop (getFrame b).2.2.1) (by rw [List.length_drop]; omega)
   rw [List.length_drop] at this
   dsimp only
   omega
  ·rw [scanB_stop he]; omega
theorem scanB_few (b : Bs) : 6 * (scanB b).1.length ≤ (scanB b).2 := by
 suffices ∀ (n : Nat) (b : Bs), b.length ≤ n → 6 * (scanB b).1.length ≤ (scanB b).2 from this _ b (Nat.le_refl _)
 intro n
 induction n with
 | zero => intro b h; rw [scanB_stop fun e => by have := getFrame_pos e; omega]; simp
 | succ n ih =>
  intro b h
  by_cases he : (getFrame b).2.2.2 = 0
  ·rw [scanB_step he]
   have hp := getFrame_pos he
   have := ih (b.drop (getFrame b).2.2.1) (by rw [List.length_drop]; omega)
   dsimp only
   rw [List.length_cons]
   omega
  ·rw [scanB_stop he]; simp
theorem scan_enc (l : List Frm) (h : ∀ x ∈ l, x.2.length ≤ 2000) (r : Bs) : scanB (encF l ++ r) = (l ++ (scanB r).1, (encF l).length + (scanB r).2) := by
 induction l with
 | nil => simp [encF_nil]
 | cons x l ih =>
  have hg := getFrame_putFrame x.1 x.2 (encF l ++ r) (h x (by simp))
  rw [encF_cons, List.append_assoc, scanB_step (by rw [hg]), hg]
  dsimp only
  rw [List.drop_left, ih fun y hy => h y (List.mem_cons_of_mem _ hy)]
  simp only [List.cons_append, List.length_append]
  refine Prod.mk.injEq .. ▸ ⟨rfl, by omega⟩
theorem scan_all (l : List Frm) (h : ∀ x ∈ l, x.2.length ≤ 2000) : scanB (encF l) = (l, (encF l).length) := by
 have := scan_enc l h []
 rw [List.append_nil] at this
 rw [this, scanB_stop (by decide)]
 simp
def nameS (n : Nat) : Bs := [115, 101, 103, 46] ++ (if n < 10 then [UInt8.ofNat (48 + n)] else [UInt8.ofNat (48 + n / 10), UInt8.ofNat (48 + n % 10)])
theorem nameS_len (n : Nat) : 1 ≤ (nameS n).length ∧ (nameS n).length ≤ 6 := by unfold nameS; split <;> simp
theorem nameS_inj {a b : Nat} (ha : a < 100) (hb : b < 100) (h : nameS a = nameS b) : a = b := by
 unfold nameS at h
 rw [List.append_cancel_left_eq] at h
 split at h <;> split at h
 ·have := congrArg UInt8.toNat (List.cons.inj h).1
  simp [UInt8.toNat_ofNat'] at this; omega
 ·cases (List.cons.inj h).2
 ·cases (List.cons.inj h).2
 ·have h1 := congrArg UInt8.toNat (List.cons.inj h).1
  have h2 := congrArg UInt8.toNat (List.cons.inj (List.cons.inj h).2).1
  simp [UInt8.toNat_ofNat'] at h1 h2; omega
def nmS (i : Nat) : ByteArray := ⟨(nameS i).toArray⟩
theorem nmS_list (i : Nat) : (nmS i).data.toList = nameS i := rfl
theorem nmS_size (i : Nat) : (nmS i).size ≤ maxLen := by
 have := (nameS_len i).2
 show (nameS i).toArray.size ≤ maxLen
 rw [List.size_toArray]
 unfold maxLen
 omega
end Go.Proofs.YtgpefiacbipfpaaGreatDoor

namespace Go.Proofs.YtgpefiacbipfpaaGreatDoor
theorem getU_app : ∀ (k i acc : Nat) (b r : Bs), (getU k i acc b).2.2 = 0 → getU k i acc (b ++ r) = getU k i acc b := by
 intro k
 induction k with
 | zero => intro i acc b r h; simp [getU] at h
 | succ k ih =>
  intro i acc b r h
  cases b with
  | nil => simp [getU] at h
  | cons c b =>
   simp only [getU, List.cons_append] at h ⊢
   by_cases h1 : 128 ≤ c.toNat
   ·rw [if_pos h1] at h; rw [if_pos h1, if_pos h1]; exact ih _ _ _ _ h
   ·rw [if_neg h1, if_neg h1]
theorem get32_app {b : Bs} (h : 4 ≤ b.length) (r : Bs) : get32 (b ++ r) = get32 b := by
 match b, h with
 | a :: b :: c :: d :: l, _ => rfl
theorem getFrame_app {b : Bs} (h : (getFrame b).2.2.2 = 0) (r : Bs) : getFrame (b ++ r) = getFrame b := by
 have hp := getFrame_pos h
 have hl5 : 5 ≤ b.length := by omega
 have hd : (b ++ r).drop 5 = b.drop 5 ++ r := List.drop_append_of_le_length hl5
 have hb := getU_bounds 10 0 0 (b.drop 5) (by decide)
 have hl : (b.drop 5).length = b.length - 5 := List.length_drop
 have ha := getU_app 10 0 0 (b.drop 5) r
 have hg32 := get32_app (show 4 ≤ b.length by omega) r
 have hg4 : (b ++ r).getD 4 0 = b.getD 4 0 := by rw [List.getD_eq_getElem?_getD, List.getD_eq_getElem?_getD, List.getElem?_append_left (by omega)]
 unfold getFrame getUint at *
 rw [hd, hg4, hg32, List.length_append]
 by_cases hu : (getU 10 0 0 (b.drop 5)).2.2 = 0
 ·rw [ha hu]
  generalize getU 10 0 0 (b.drop 5) = g at *
  dsimp only at *
  rw [if_neg (by omega)] at h hp
  rw [if_neg (show ¬ b.length + r.length < 5 by omega), if_neg (show ¬ b.length < 5 by omega)]
  rw [if_neg (by simpa using hu)] at h hp
  rw [if_neg (show ¬ g.2.2 ≠ 0 by simpa using hu), if_neg (show ¬ g.2.2 ≠ 0 by simpa using hu)]
  by_cases h4 : 2000 < g.1
  ·rw [if_pos h4, if_pos h4]
  ·rw [if_neg h4] at h hp
   rw [if_neg h4, if_neg h4]
   by_cases h5 : b.length - 5 - g.2.1 < g.1
   ·rw [if_pos h5] at h; cases h
   ·have h3 := hb.2.1 hu
    rw [if_neg h5, if_neg (show ¬ b.length + r.length - 5 - g.2.1 < g.1 by omega), List.take_append_of_le_length (by omega)]
 ·exfalso
  dsimp only at h
  rw [if_neg (by omega), if_pos hu] at h
  exact hu h
theorem scan_app (r : Bs) : ∀ (n : Nat) (b : Bs), b.length ≤ n → (scanB b).2 = b.length → scanB (b ++ r) = ((scanB b).1 ++ (scanB r).1, b.length + (scanB r).2) := by
 intro n
 induction n with
 | zero =>
  intro b h _
  obtain rfl : b = [] := List.length_eq_zero_iff.1 (by omega)
  rw [scanB_stop (b := []) (by decide)]
  simp
 | succ n ih =>
  intro b h hs
  by_cases he : (getFrame b).2.2.2 = 0
  ·have hp := getFrame_pos he
   have ha := getFrame_app he r
   rw [scanB_step he] at hs ⊢
   dsimp only at hs ⊢
   have hdl : (b.drop (getFrame b).2.2.1).length = b.length - (getFrame b).2.2.1 := List.length_drop
   have := ih (b.drop (getFrame b).2.2.1) (by omega) (by omega)
   rw [scanB_step (by rw [ha]; exact he), ha, List.drop_append_of_le_length hp.2, this]
   dsimp only
   rw [List.cons_append, hdl]
   exact Prod.ext rfl (by dsimp only; omega)
  ·rw [scanB_stop he] at hs
   obtain rfl : b = [] := List.length_eq_zero_iff.1 hs.symm
   rw [scanB_stop (b := []) (by decide)]
   simp
def openD : List Bs → List Bs × Bool × List Frm
 | [] => ([], false, [])
 | b :: r => if (scanB b).2 = b.length then (b :: (openD r).1, (openD r).2.1, (scanB b).1 ++ (openD r).2.2) else ([b.take (scanB b).2], true, (scanB b).1)
def Whole (ds : List Bs) (l : List Frm) : Prop := openD ds = (ds, false, l)
theorem openD_whole {b : Bs} {r : List Bs} (h : (scanB b).2 = b.length) : openD (b :: r) = (b :: (openD r).1, (openD r).2.1, (scanB b).1 ++ (openD r).2.2) := by rw [openD, if_pos h]
theorem openD_torn {b : Bs} {r : List Bs} (h : (scanB b).2 ≠ b.length) : openD (b :: r) = ([b.take (scanB b).2], true, (scanB b).1) := by rw [openD, if_neg h]
theorem whole_cons {b : Bs} {r : List Bs} {l : List Frm} : Whole (b :: r) l ↔ (scanB b).2 = b.length ∧ ∃ l', Whole r l' ∧ l = (scanB b).1 ++ l' := by
 unfold Whole
 constructor
 ·intro h
  by_cases hb : (scanB b).2 = b.length
  ·rw [openD_whole hb] at h
   obtain ⟨h1, h2⟩ := Prod.mk.inj h
   obtain ⟨h2, h3⟩ := Prod.mk.inj h2
   exact ⟨hb, _, Prod.ext (List.cons.inj h1).2 (Prod.ext h2 rfl), h3.symm⟩
  ·rw [openD_torn hb] at h
   cases (Prod.mk.inj (Prod.mk.inj h).2).1
 ·rintro ⟨hb, l', h, rfl⟩
  rw [openD_whole hb, h]
theorem whole_app {a r : List Bs} {l : List Frm} : Whole (a ++ r) l ↔ ∃ x y, Whole a x ∧ Whole r y ∧ l = x ++ y := by
 induction a generalizing l with
 | nil =>
  constructor
  ·intro h; exact ⟨[], l, rfl, h, rfl⟩
  ·rintro ⟨x, y, h1, h2, rfl⟩
   obtain rfl : [] = x := congrArg (fun z => z.2.2) h1
   exact h2
 | cons b a ih =>
  rw [List.cons_append, whole_cons]
  constructor
  ·rintro ⟨hb, l', h, rfl⟩
   obtain ⟨x, y, h1, h2, rfl⟩ := ih.1 h
   exact ⟨_, y, whole_cons.2 ⟨hb, x, h1, rfl⟩, h2, (List.append_assoc ..).symm⟩
  ·rintro ⟨x, y, h1, h2, rfl⟩
   obtain ⟨hb, x', h3, rfl⟩ := whole_cons.1 h1
   exact ⟨hb, _, ih.2 ⟨x', y, h3, h2, rfl⟩, List.append_assoc ..⟩
theorem whole_one {b : Bs} {l : List Frm} : Whole [b] l ↔ (scanB b).2 = b.length ∧ l = (scanB b).1 := by
 rw [whole_cons]
 constructor
 ·rintro ⟨h, l', h2, rfl⟩
  obtain rfl : [] = l' := congrArg (fun z => z.2.2) h2
  exact ⟨h, List.append_nil _⟩
 ·rintro ⟨h, rfl⟩
  exact ⟨h, [], rfl, (List.append_nil _).symm⟩
def addD (ds : List Bs) (b : Bs) : List Bs := match ds.getLast? with | none => [b] | some x => if 8192 < x.length + b.length then ds ++ [b] else ds.dropLast ++ [x ++ b]
theorem addD_nil (b : Bs) : addD [] b = [b] := rfl
theorem addD_snoc (ds : List Bs) (x b : Bs) : addD (ds ++ [x]) b = if 8192 < x.length + b.length then ds ++ [x] ++ [b] else ds ++ [x ++ b] := by
 unfold addD
 rw [List.getLast?_concat, List.dropLast_concat]
theorem snoc_or {α : Type} (l : List α) : l = [] ∨ ∃ a x, l = a ++ [x] := by
 rcases List.eq_nil_or_concat l with h | ⟨a, x, h⟩
 ·exact .inl h
 ·exact .inr ⟨a, x, by rw [h, List.concat_eq_append]⟩
theorem whole_add {ds : List Bs} {l : List Frm} (h : Whole ds l) (x : Frm) (hx : x.2.length ≤ 2000) : Whole (addD ds (putFrame x.1 x.2)) (l ++ [x]) := by
 have hp : scanB (putFrame x.1 x.2) = ([x], (putFrame x.1 x.2).length) := by
  have := scan_all [x] (by simpa using hx)
  rwa [encF_one] at this
 rcases snoc_or ds with rfl | ⟨a, y, rfl⟩
 ·obtain rfl : [] = l := congrArg (fun z => z.2.2) h
  rw [addD_nil]
  exact whole_one.2 ⟨by rw [hp], by rw [hp]; rfl⟩
 ·obtain ⟨u, v, h1, h2, rfl⟩ := whole_app.1 h
  obtain ⟨h3, rfl⟩ := whole_one.1 h2
  rw [addD_snoc]
  split
  ·exact whole_app.2 ⟨_, _, h, whole_one.2 ⟨by rw [hp], rfl⟩, by rw [hp]⟩
  ·have := scan_app (putFrame x.1 x.2) _ y (Nat.le_refl _) h3
   rw [hp] at this
   refine whole_app.2 ⟨_, _, h1, whole_one.2 ⟨by rw [this, List.length_append], rfl⟩, ?_⟩
   rw [this, List.append_assoc]
def addsD (ds : List Bs) (l : List Frm) : List Bs := l.foldl (fun ds x => addD ds (putFrame x.1 x.2)) ds
theorem addsD_app (ds : List Bs) (a b : List Frm) : addsD ds (a ++ b) = addsD (addsD ds a) b := by unfold addsD; rw [List.foldl_append]
theorem whole_adds {l : List Frm} : ∀ {ds : List Bs} {k : List Frm}, Whole ds k → (∀ x ∈ l, x.2.length ≤ 2000) → Whole (addsD ds l) (k ++ l) := by
 induction l with
 | nil => intro ds k h _; rw [List.append_nil]; exact h
 | cons x l ih =>
  intro ds k h hx
  have := ih (whole_add h x (hx x (by simp))) fun y hy => hx y (List.mem_cons_of_mem _ hy)
  rw [List.append_assoc] at this
  exact this
theorem addD_le {ds : List Bs} (h : ∀ d ∈ ds, d.length ≤ 8192) {b : Bs} (hb : b.length ≤ 8192) : ∀ d ∈ addD ds b, d.length ≤ 8192 := by
 intro d hd
 rcases snoc_or ds with rfl | ⟨a, y, rfl⟩
 ·rw [addD_nil] at hd; rw [List.mem_singleton.1 hd]; exact hb
 ·rw [addD_snoc] at hd
  split at hd
  ·rcases List.mem_append.1 hd with q | q
   ·exact h d q
   ·rw [List.mem_singleton.1 q]; exact hb
  ·rcases List.mem_append.1 hd with q | q
   ·exact h d (by simp [q])
   ·rw [List.mem_singleton.1 q, List.length_append]; omega
theorem addsD_le {l : List Frm} (hl : ∀ x ∈ l, x.2.length ≤ 2000) : ∀ {ds : List Bs}, (∀ d ∈ ds, d.length ≤ 8192) → ∀ d ∈ addsD ds l, d.length ≤ 8192 := by
 induction l with
 | nil => intro ds h; exact h
 | cons x l ih =>
  intro ds h
  have := putFrame_le (k := x.1) (hl x (by simp))
  have hx := hl x (by simp)
  exact ih (fun y hy => hl y (List.mem_cons_of_mem _ hy)) (addD_le h (by omega))
def Full (ds : List Bs) : Prop := ∀ a x, ds = a ++ [x] → 6186 * a.length ≤ (a.map List.length).sum ∧ 1 ≤ x.length
theorem full_nil : Full [] := fun a x h => by cases a <;> cases h
theorem sum_app (a b : List Bs) : ((a ++ b).map List.length).sum = (a.map List.length).sum + (b.map List.length).sum := by simp
theorem addD_sum (ds : List Bs) (b : Bs) : ((addD ds b).map List.length).sum = (ds.map List.length).sum + b.length := by
 rcases snoc_or ds with rfl | ⟨a, y, rfl⟩
 ·rw [addD_nil]; simp
 ·rw [addD_snoc]
  split
  ·rw [sum_app]; simp
  ·rw [sum_app, sum_app]; simp; omega
theorem addD_full {ds : List Bs} (h : Full ds) {b : Bs} (h1 : 1 ≤ b.length) (hb : b.length ≤ 2007) : Full (addD ds b) := by
 intro a x e
 rcases snoc_or ds with rfl | ⟨c, y, rfl⟩
 ·rw [addD_nil] at e
  have := List.append_inj_right' (s₁ := []) (t₁ := [b]) e rfl
  have := List.append_inj_left' (s₁ := []) (t₁ := [b]) e rfl
  simp_all
 ·obtain ⟨h3, h4⟩ := h c y rfl
  rw [addD_snoc] at e
  split at e
  ·have e1 := List.append_inj_left' e rfl
   have e2 := List.append_inj_right' e rfl
   obtain rfl : b = x := (List.cons.inj e2).1
   rw [← e1, sum_app, List.length_append]
   simp
   omega
  ·have e1 := List.append_inj_left' e rfl
   have e2 := List.append_inj_right' e rfl
   obtain rfl := (List.cons.inj e2).1
   rw [← e1, List.length_append]
   exact ⟨h3, by omega⟩
theorem addsD_full {l : List Frm} (hl : ∀ x ∈ l, x.2.length ≤ 2000) : ∀ {ds : List Bs}, Full ds → Full (addsD ds l) := by
 induction l with
 | nil => intro ds h; exact h
 | cons x l ih =>
  intro ds h
  have := putFrame_le (k := x.1) (hl x (by simp))
  have hx := hl x (by simp)
  exact ih (fun y hy => hl y (List.mem_cons_of_mem _ hy)) (addD_full h (by omega) (by omega))
theorem addsD_sum (l : List Frm) : ∀ (ds : List Bs), ((addsD ds l).map List.length).sum = (ds.map List.length).sum + (encF l).length := by
 induction l with
 | nil => intro ds; simp [addsD, encF]
 | cons x l ih =>
  intro ds
  show ((addsD (addD ds (putFrame x.1 x.2)) l).map List.length).sum = _
  rw [ih, addD_sum, encF_cons, List.length_append]
  omega
theorem full_len {ds : List Bs} (h : Full ds) : 6186 * ds.length ≤ (ds.map List.length).sum + 6185 := by
 rcases snoc_or ds with rfl | ⟨a, x, rfl⟩
 ·simp
 ·obtain ⟨h1, h2⟩ := h a x rfl
  rw [sum_app, List.length_append]
  simp
  omega
theorem encF_le {l : List Frm} (hl : ∀ x ∈ l, x.2.length ≤ 2000) : (encF l).length ≤ (l.map (·.2.length)).sum + 7 * l.length := by
 induction l with
 | nil => simp [encF]
 | cons x l ih =>
  have := ih fun y hy => hl y (List.mem_cons_of_mem _ hy)
  have := (putFrame_le (k := x.1) (hl x (by simp))).2
  rw [encF_cons, List.length_append, List.map_cons, List.sum_cons, List.length_cons]
  omega
end Go.Proofs.YtgpefiacbipfpaaGreatDoor
