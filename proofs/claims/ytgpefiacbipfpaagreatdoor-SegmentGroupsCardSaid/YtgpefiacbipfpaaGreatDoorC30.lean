/- Mounted: behind a crash a file system is mounted, however often the device goes down in that. FsdirAtoms: the walk. Segment, in plain words: frames as bytes, one behind the other, what is read of bytes, the name of a segment. Segment, in plain words: what is read of many files; a frame is put behind them. -/
import Derived.Test.YtgpefiacbipfpaaGreatDoorC29
import Derived.Test.YtgpefiacbipfpaaGreatDoorC00
namespace Go.Proofs.YtgpefiacbipfpaaGreatDoor
open Go.RowKit Go.Maps
end Go.Proofs.YtgpefiacbipfpaaGreatDoor

namespace Go.Proofs.YtgpefiacbipfpaaGreatDoor
open Go.RowKit Go.Maps
theorem Lv.apd {w0 w : World} {v p room : Nat} {fs last : Files} {c : Nat} {G : List Nat} (h : Lv w0 w v p room fs last c G) (hs : ∀ b ∈ allBlks last, b ∈ allBlks fs) {nm : Bs} {f : Fil} (hg : getA fs nm = some f) {d : Bs} (hm : f.data.length + d.length ≤ 32768) {m : Nat} (hk : ∀ q ∈ fs, q.2.data.length ≤ 512 * m) (hb : m * fs.length + needN f d.length ≤ room) :
  codeP room fs last nm d.length = 0 ∧ ∃ g : Fil, g.data = f.data ++ d ∧ apdF room fs last nm d = putA ltN fs nm g := by
 obtain ⟨l, k, s, hi⟩ := h.inv
 have hle := blks_le hi.now hk
 have hc := h.app_code hs hg (n := d.length) hm (by omega)
 refine ⟨hc, growF room fs last f d, growF_data _ _ _ _ _, ?_⟩
 unfold apdF
 rw [if_pos hc]
 unfold appF
 rw [hg]
theorem need_le (f : Fil) (n : Nat) : needN f n ≤ n / 512 + 1 := by unfold needN blocksN; omega
theorem Lv.readAll {w0 w : World} {v p room : Nat} {fs last : Files} {c : Nat} {G : List Nat} {f : Fil} (h : Lv w0 w v p room fs last c G) (hc : c ≤ 1000000) (nm : ByteArray) (hs : nm.size ≤ maxLen) (hg : getA fs nm.data.toList = some f) (n : Nat) (hn : f.data.length ≤ n) :
  Calls Tryz.prog 56 #[.pointer (some ⟨v, 0, none⟩), .string nm, .int .i64 0, .int .i64 (n : Int)] w fun r w' => ∃ rv, r = .returned (.tuple #[rv, .int .i64 0]) ∧ Ow w' w.heap.size rv f.data ∧ Lv w0 w' v p room fs last c (rv.ownBlock.toList ++ G) ∧ Stay G w w' := by
 have hcR : codeR fs nm.data.toList 0 n = 0 := by unfold codeR; rw [hg]; dsimp only; rw [if_neg (by omega)]
 have hdR : dataR fs nm.data.toList 0 n = f.data := by unfold dataR; rw [hg]; dsimp only; rw [show (0 : Int).toNat = 0 from rfl, List.drop_zero, List.take_of_length_le (by simp only [Int.toNat_natCast]; exact hn)]
 refine (h.read hc nm hs 0 n).mono fun r w' ⟨rv, e, ho, _, hl, hst⟩ => ?_
 rw [hcR] at e ho
 rw [hdR] at ho
 exact ⟨rv, e, ho rfl, hl, hst⟩
end Go.Proofs.YtgpefiacbipfpaaGreatDoor

namespace Go.Proofs.YtgpefiacbipfpaaGreatDoor
abbrev Frm := UInt8 × Bs
def encF (l : List Frm) : Bs := l.flatMap fun x => putFrame x.1 x.2
theorem encF_cons (x : Frm) (l : List Frm) : encF (x :: l) = putFrame x.1 x.2 ++ encF l := rfl
theorem putFrame_len (k : UInt8) (d : Bs) : (putFrame k d).length = 5 + (putU d.length).length + d.length := by simp [putFrame, frameRest, put32]; omega
theorem putFrame_le {k : UInt8} {d : Bs} (h : d.length ≤ 2000) : 6 ≤ (putFrame k d).length ∧ (putFrame k d).length ≤ d.length + 7 := by
 rw [putFrame_len]
 have h1 := putU_pos d.length
 have h2 := putU_len 1 d.length (by omega)
 omega
theorem getFrame_pos {b : Bs} (h : (getFrame b).2.2.2 = 0) : 5 < (getFrame b).2.2.1 ∧ (getFrame b).2.2.1 ≤ b.length := by
 have hb := getU_bounds 10 0 0 (b.drop 5) (by decide)
 have hl : (b.drop 5).length = b.length - 5 := List.length_drop
 unfold getFrame getUint at *
 generalize getU 10 0 0 (b.drop 5) = g at *
 dsimp only at *
 by_cases h1 : b.length < 5
 ·rw [if_pos h1] at h; cases h
 ·rw [if_neg h1] at h ⊢
  by_cases h2 : g.2.2 ≠ 0
  ·rw [if_pos h2] at h; exact absurd h h2
  ·rw [if_neg h2] at h ⊢
   have h3 := hb.2.1 (by simpa using h2)
   by_cases h4 : 2000 < g.1
   ·rw [if_pos h4] at h; cases h
   ·rw [if_neg h4] at h ⊢
    by_cases h5 : b.length - 5 - g.2.1 < g.1
    ·rw [if_pos h5] at h; cases h
    ·rw [if_neg h5] at h ⊢
     split at h
     ·cases h
     ·rename_i h6
      rw [if_neg h6]
      dsimp only
      omega
def scanN : Nat → Bs → List Frm × Nat
 | 0, _ => ([], 0)
 | k + 1, b => if (getFrame b).2.2.2 ≠ 0 then ([], 0) else (((getFrame b).1, (getFrame b).2.1) :: (scanN k (b.drop (getFrame b).2.2.1)).1, (getFrame b).2.2.1 + (scanN k (b.drop (getFrame b).2.2.1)).2)
theorem scanN_succ (k : Nat) (b : Bs) : scanN (k + 1) b = if (getFrame b).2.2.2 ≠ 0 then ([], 0) else (((getFrame b).1, (getFrame b).2.1) :: (scanN k (b.drop (getFrame b).2.2.1)).1, (getFrame b).2.2.1 + (scanN k (b.drop (getFrame b).2.2.1)).2) := rfl
def scanB (b : Bs) : List Frm × Nat := scanN b.length b
theorem scanN_same : ∀ (k j : Nat) (b : Bs), b.length ≤ k → b.length ≤ j → scanN k b = scanN j b := by
 intro k
 induction k with
 | zero =>
  intro j b h1 h2
  cases j with
  | zero => rfl
  | succ j =>
   unfold scanN
   rw [if_pos fun e => by have := getFrame_pos e; omega]
 | succ k ih =>
  intro j b h1 h2
  cases j with
  | zero =>
   unfold scanN
   rw [if_pos fun e => by have := getFrame_pos e; omega]
  | succ j =>
   unfold scanN
   by_cases he : (getFrame b).2.2.2 ≠ 0
   ·rw [if_pos he, if_pos he]
   ·rw [if_neg he, if_neg he]
    have := getFrame_pos (by simpa using he)
    rw [ih j (b.drop (getFrame b).2.2.1) (by rw [List.length_drop]; omega) (by rw [List.length_drop]; omega)]
theorem scanB_stop {b : Bs} (h : (getFrame b).2.2.2 ≠ 0) : scanB b = ([], 0) := by
 unfold scanB
 cases hl : b.length with
 | zero => rfl
 | succ k => unfold scanN; rw [if_pos h]
theorem scanB_step {b : Bs} (h : (getFrame b).2.2.2 = 0) : scanB b = (((getFrame b).1, (getFrame b).2.1) :: (scanB (b.drop (getFrame b).2.2.1)).1, (getFrame b).2.2.1 + (scanB (b.drop (getFrame b).2.2.1)).2) := by
 have hp := getFrame_pos h
 unfold scanB
 cases hl : b.length with
 | zero => omega
 | succ k =>
  have hd : (b.drop (getFrame b).2.2.1).length ≤ k := by rw [List.length_drop]; omega
  rw [scanN_succ, if_neg (by simpa using h), scanN_same k _ _ hd (Nat.le_refl _)]
theorem scanB_le (b : Bs) : (scanB b).2 ≤ b.length := by
 suffices ∀ (n : Nat) (b : Bs), b.length ≤ n → (scanB b).2 ≤ b.length from this _ b (Nat.le_refl _)
 intro n
 induction n with
 | zero => intro b h; rw [scanB_stop fun e => by have := getFrame_pos e; omega]; omega
 | succ n ih =>
  intro b h
  by_cases he : (getFrame b).2.2.2 = 0
  ·rw [scanB_step he]
   have hp := getFrame_pos he
   have := ih (b.drop (getFrame b).2.2.1) (by rw [List.length_drop]; omega)
   rw [List.length_drop] at this
   dsimp only
   omega
  ·rw [scanB_stop he]; omega
theorem scanB_few (b : Bs) : 6 * (scanB b).1.length ≤ (scanB b).2 := by
 suffices ∀ (n : Nat) (b : Bs), b.length ≤ n → 6 * (scanB b).1.length ≤ (scanB b).2 from this _ b (Nat.le_refl _)
 intro n
 induction n with
 | zero => intro b h; rw [scanB_stop fun e => by have := getFrame_pos e; omega]; simp
 | succ n ih =>
  intro b h
  by_cases he : (getFrame b).2.2.2 = 0
  ·rw [scanB_step he]
   have hp := getFrame_pos he
   have := ih (b.drop (getFrame b).2.2.1) (by rw [List.length_drop]; omega)
   dsimp only
   rw [List.length_cons]
   omega
  ·rw [scanB_stop he]; simp
def nameS (n : Nat) : Bs := [115, 101, 103, 46] ++ (if n < 10 then [UInt8.ofNat (48 + n)] else [UInt8.ofNat (48 + n / 10), UInt8.ofNat (48 + n % 10)])
theorem nameS_len (n : Nat) : 1 ≤ (nameS n).length ∧ (nameS n).length ≤ 6 := by unfold nameS; split <;> simp
theorem nameS_inj {a b : Nat} (ha : a < 100) (hb : b < 100) (h : nameS a = nameS b) : a = b := by
 unfold nameS at h
 rw [List.append_cancel_left_eq] at h
 split at h <;> split at h
 ·have := congrArg UInt8.toNat (List.cons.inj h).1
  simp [UInt8.toNat_ofNat'] at this; omega
 ·cases (List.cons.inj h).2
 ·cases (List.cons.inj h).2
 ·have h1 := congrArg UInt8.toNat (List.cons.inj h).1
  have h2 := congrArg UInt8.toNat (List.cons.inj (List.cons.inj h).2).1
  simp [UInt8.toNat_ofNat'] at h1 h2; omega
def nmS (i : Nat) : ByteArray := ⟨(nameS i).toArray⟩
theorem nmS_list (i : Nat) : (nmS i).data.toList = nameS i := rfl
theorem nmS_size (i : Nat) : (nmS i).size ≤ maxLen := by
 have := (nameS_len i).2
 show (nameS i).toArray.size ≤ maxLen
 rw [List.size_toArray]
 unfold maxLen
 omega
end Go.Proofs.YtgpefiacbipfpaaGreatDoor

namespace Go.Proofs.YtgpefiacbipfpaaGreatDoor
def openD : List Bs → List Bs × Bool × List Frm
 | [] => ([], false, [])
 | b :: r => if (scanB b).2 = b.length then (b :: (openD r).1, (openD r).2.1, (scanB b).1 ++ (openD r).2.2) else ([b.take (scanB b).2], true, (scanB b).1)
def Whole (ds : List Bs) (l : List Frm) : Prop := openD ds = (ds, false, l)
def addD (ds : List Bs) (b : Bs) : List Bs := match ds.getLast? with | none => [b] | some x => if 8192 < x.length + b.length then ds ++ [b] else ds.dropLast ++ [x ++ b]
theorem addD_nil (b : Bs) : addD [] b = [b] := rfl
theorem addD_snoc (ds : List Bs) (x b : Bs) : addD (ds ++ [x]) b = if 8192 < x.length + b.length then ds ++ [x] ++ [b] else ds ++ [x ++ b] := by
 unfold addD
 rw [List.getLast?_concat, List.dropLast_concat]
theorem snoc_or {α : Type} (l : List α) : l = [] ∨ ∃ a x, l = a ++ [x] := by
 rcases List.eq_nil_or_concat l with h | ⟨a, x, h⟩
 ·exact .inl h
 ·exact .inr ⟨a, x, by rw [h, List.concat_eq_append]⟩
def addsD (ds : List Bs) (l : List Frm) : List Bs := l.foldl (fun ds x => addD ds (putFrame x.1 x.2)) ds
theorem addsD_app (ds : List Bs) (a b : List Frm) : addsD ds (a ++ b) = addsD (addsD ds a) b := by unfold addsD; rw [List.foldl_append]
theorem addD_le {ds : List Bs} (h : ∀ d ∈ ds, d.length ≤ 8192) {b : Bs} (hb : b.length ≤ 8192) : ∀ d ∈ addD ds b, d.length ≤ 8192 := by
 intro d hd
 rcases snoc_or ds with rfl | ⟨a, y, rfl⟩
 ·rw [addD_nil] at hd; rw [List.mem_singleton.1 hd]; exact hb
 ·rw [addD_snoc] at hd
  split at hd
  ·rcases List.mem_append.1 hd with q | q
   ·exact h d q
   ·rw [List.mem_singleton.1 q]; exact hb
  ·rcases List.mem_append.1 hd with q | q
   ·exact h d (by simp [q])
   ·rw [List.mem_singleton.1 q, List.length_append]; omega
theorem addsD_le {l : List Frm} (hl : ∀ x ∈ l, x.2.length ≤ 2000) : ∀ {ds : List Bs}, (∀ d ∈ ds, d.length ≤ 8192) → ∀ d ∈ addsD ds l, d.length ≤ 8192 := by
 induction l with
 | nil => intro ds h; exact h
 | cons x l ih =>
  intro ds h
  have := putFrame_le (k := x.1) (hl x (by simp))
  have hx := hl x (by simp)
  exact ih (fun y hy => hl y (List.mem_cons_of_mem _ hy)) (addD_le h (by omega))
def Full (ds : List Bs) : Prop := ∀ a x, ds = a ++ [x] → 6186 * a.length ≤ (a.map List.length).sum ∧ 1 ≤ x.length
theorem full_nil : Full [] := fun a x h => by cases a <;> cases h
theorem sum_app (a b : List Bs) : ((a ++ b).map List.length).sum = (a.map List.length).sum + (b.map List.length).sum := by simp
theorem addD_sum (ds : List Bs) (b : Bs) : ((addD ds b).map List.length).sum = (ds.map List.length).sum + b.length := by
 rcases snoc_or ds with rfl | ⟨a, y, rfl⟩
 ·rw [addD_nil]; simp
 ·rw [addD_snoc]
  split
  ·rw [sum_app]; simp
  ·rw [sum_app, sum_app]; simp; omega
theorem addD_full {ds : List Bs} (h : Full ds) {b : Bs} (h1 : 1 ≤ b.length) (hb : b.length ≤ 2007) : Full (addD ds b) := by
 intro a x e
 rcases snoc_or ds with rfl | ⟨c, y, rfl⟩
 ·rw [addD_nil] at e
  have := List.append_inj_right' (s₁ := []) (t₁ := [b]) e rfl
  have := List.append_inj_left' (s₁ := []) (t₁ := [b]) e rfl
  simp_all
 ·obtain ⟨h3, h4⟩ := h c y rfl
  rw [addD_snoc] at e
  split at e
  ·have e1 := List.append_inj_left' e rfl
   have e2 := List.append_inj_right' e rfl
   obtain rfl : b = x := (List.cons.inj e2).1
   rw [← e1, sum_app, List.length_append]
   simp
   omega
  ·have e1 := List.append_inj_left' e rfl
   have e2 := List.append_inj_right' e rfl
   obtain rfl := (List.cons.inj e2).1
   rw [← e1, List.length_append]
   exact ⟨h3, by omega⟩
theorem addsD_full {l : List Frm} (hl : ∀ x ∈ l, x.2.length ≤ 2000) : ∀ {ds : List Bs}, Full ds → Full (addsD ds l) := by
 induction l with
 | nil => intro ds h; exact h
 | cons x l ih =>
  intro ds h
  have := putFrame_le (k := x.1) (hl x (by simp))
  have hx := hl x (by simp)
  exact ih (fun y hy => hl y (List.mem_cons_of_mem _ hy)) (addD_full h (by omega) (by omega))
theorem addsD_sum (l : List Frm) : ∀ (ds : List Bs), ((addsD ds l).map List.length).sum = (ds.map List.length).sum + (encF l).length := by
 induction l with
 | nil => intro ds; simp [addsD, encF]
 | cons x l ih =>
  intro ds
  show ((addsD (addD ds (putFrame x.1 x.2)) l).map List.length).sum = _
  rw [ih, addD_sum, encF_cons, List.length_append]
  omega
theorem full_len {ds : List Bs} (h : Full ds) : 6186 * ds.length ≤ (ds.map List.length).sum + 6185 := by
 rcases snoc_or ds with rfl | ⟨a, x, rfl⟩
 ·simp
 ·obtain ⟨h1, h2⟩ := h a x rfl
  rw [sum_app, List.length_append]
  simp
  omega
theorem encF_le {l : List Frm} (hl : ∀ x ∈ l, x.2.length ≤ 2000) : (encF l).length ≤ (l.map (·.2.length)).sum + 7 * l.length := by
 induction l with
 | nil => simp [encF]
 | cons x l ih =>
  have := ih fun y hy => hl y (List.mem_cons_of_mem _ hy)
  have := (putFrame_le (k := x.1) (hl x (by simp))).2
  rw [encF_cons, List.length_append, List.map_cons, List.sum_cons, List.length_cons]
  omega
end Go.Proofs.YtgpefiacbipfpaaGreatDoor
