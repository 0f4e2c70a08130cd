/- The document's files in memory: rows of names, data, counts; Find, named, blocks, Size, Read. The document's files: what turns of them in memory; New, Reset, Create. The document's files: Sync, Free. -/
import Derived.BigQuiet
import Derived.Test.YteepgehjkcahiaaGreatC39
namespace Go.Proofs.YteepgehjkcahiaaGreat
open Go.RowKit Go.Maps
structure RF where
 nm : Bs
 data : Bs
 old : Nat
def RF.nil : RF := ⟨[], [], 0⟩
def cF (x : RF) : List Value := [.string (strOf x.nm), .string (strOf x.data), .int .i64 x.old]
theorem TF : RowT cF 3 40 115 120 where
 len := fun _ => rfl
 pos := by omega
 und := Tryz.underlying115
 info := by
  obtain ⟨i, h, h1, h2, h3⟩ := info_parts (show (Tryz.prog.info? 120).map (fun i => (i.zero, i.size, i.bytes)) = some (some (.agg #[.string ⟨#[]⟩, .string ⟨#[]⟩, .int .i64 0]), 3, 40) by kernel_rfl)
  exact ⟨i, _, h, h1, h2, h3, rfl⟩
theorem oneF (l : List RF) : ∀ x ∈ l, ∀ u ∈ cF x, u.oneCell' = true := by
 intro x _ u hu
 simp only [cF, List.mem_cons, List.not_mem_nil, or_false] at hu
 rcases hu with rfl | rfl | rfl <;> rfl
abbrev OwF (w : World) (base : Nat) (v : Value) (l : List RF) : Prop := OwnG cF 120 3 w base v l
theorem owF_at {w : World} {base : Nat} {a : Option Addr} {n c : Nat} {l : List RF} (h : OwF w base (.slice a n c) l) {i : Nat} (hi : i < l.length) : ∃ g, a = some ⟨g, 0, none⟩ ∧ base ≤ g ∧ (∀ o, w.frozen? ⟨g, o, none⟩ = false) ∧ w.cell? ⟨g, i * 3, none⟩ = some (.string (strOf (l.getD i RF.nil).nm)) ∧ w.cell? ⟨g, i * 3 + 1, none⟩ = some (.string (strOf (l.getD i RF.nil).data)) ∧ w.cell? ⟨g, i * 3 + 2, none⟩ = some (.int .i64 (l.getD i RF.nil).old) := by
 obtain ⟨-, -, -, h3⟩ := OwnG.at TF h
 obtain ⟨g, e, hb, hf, hc⟩ := h3 i hi
 rw [List.getD_eq_getElem?_getD, List.getElem?_eq_getElem hi]
 exact ⟨g, e, hb, hf, hc 0 _ rfl, hc 1 _ rfl, hc 2 _ rfl⟩
theorem owF_len {w : World} {base : Nat} {a : Option Addr} {n c : Nat} {l : List RF} (h : OwF w base (.slice a n c) l) : n = l.length ∧ n ≤ c ∧ c ≤ 9223372036854775807 := by
 obtain ⟨h1, h2, h3, -⟩ := OwnG.at TF h
 exact ⟨h1, h2, by unfold maxLen at h3; omega⟩
abbrev boxR (room : Nat) (nv lv : Value) : Obj := .cells #[.int .i64 room, nv, lv] 117 (0, 0)
structure RAt (w : World) (base rp room : Nat) (nv lv : Value) (now lst : List RF) : Prop where
 box : w.heap[rp]? = some (boxR room nv lv)
 now : OwF w base nv now
 lst : OwF w base lv lst
 low : base ≤ rp
 n1 : nv.ownBlock ≠ some rp
 n2 : lv.ownBlock ≠ some rp
 n3 : ∀ g, nv.ownBlock = some g → lv.ownBlock ≠ some g
def rfoot (rp : Nat) (nv lv : Value) : List Nat := rp :: (nv.ownBlock.toList ++ lv.ownBlock.toList)
theorem mem_rfoot {rp i : Nat} {nv lv : Value} : i ∈ rfoot rp nv lv ↔ i = rp ∨ nv.ownBlock = some i ∨ lv.ownBlock = some i := by
 simp [rfoot]
theorem RAt.upd {w w' : World} {base rp room : Nat} {nv lv : Value} {now lst : List RF} (h : RAt w base rp room nv lv now lst) {F : List Nat} (u : Upd F w w') (hF : ∀ i ∈ rfoot rp nv lv, i ∉ F) : RAt w' base rp room nv lv now lst :=
 ⟨(u.block rp (lt_of_blk h.box) (hF _ (mem_rfoot.2 (.inl rfl)))).trans h.box, h.now.upd u (fun j hj e => hF j (mem_rfoot.2 (.inr (.inl e))) hj), h.lst.upd u (fun j hj e => hF j (mem_rfoot.2 (.inr (.inr e))) hj), h.low, h.n1, h.n2, h.n3⟩
theorem RAt.keep {w w' : World} {base rp room : Nat} {nv lv : Value} {now lst : List RF} (h : RAt w base rp room nv lv now lst) (u : Upd [] w w') : RAt w' base rp room nv lv now lst := h.upd u (by simp)
theorem RAt.lt {w : World} {base rp room : Nat} {nv lv : Value} {now lst : List RF} (h : RAt w base rp room nv lv now lst) : ∀ i ∈ rfoot rp nv lv, base ≤ i ∧ i < w.heap.size := fun i hi => by
 rcases mem_rfoot.1 hi with rfl | e | e
 ·exact ⟨h.low, lt_of_blk h.box⟩
 ·exact h.now.block i e
 ·exact h.lst.block i e
def RNext (w : World) (base rp room : Nat) (nv lv : Value) (now' lst' : List RF) (w' : World) : Prop :=
 ∃ nv' lv', RAt w' base rp room nv' lv' now' lst' ∧ Upd (rfoot rp nv lv) w w' ∧ ∀ i ∈ rfoot rp nv' lv', i ∈ rfoot rp nv lv ∨ w.heap.size ≤ i
def idxR : List RF → Bs → Option Nat
 | [], _ => none
 | x :: l, nm => if x.nm = nm then some 0 else (idxR l nm).map (· + 1)
theorem idxR_none {l : List RF} {nm : Bs} : idxR l nm = none ↔ ∀ x ∈ l, x.nm ≠ nm := by
 induction l with
 | nil => simp [idxR]
 | cons x l ih =>
  unfold idxR
  by_cases h : x.nm = nm
  ·rw [if_pos h]; simp [h]
  ·rw [if_neg h, Option.map_eq_none_iff, ih]; simp [h]
theorem idxR_some {l : List RF} {nm : Bs} {i : Nat} (h : idxR l nm = some i) : ∃ a b x, l = a ++ x :: b ∧ a.length = i ∧ x.nm = nm ∧ ∀ y ∈ a, y.nm ≠ nm := by
 induction l generalizing i with
 | nil => cases h
 | cons x l ih =>
  unfold idxR at h
  by_cases hx : x.nm = nm
  ·rw [if_pos hx] at h
   cases h
   exact ⟨[], l, x, rfl, rfl, hx, by simp⟩
  ·rw [if_neg hx] at h
   obtain ⟨j, hj, rfl⟩ := Option.map_eq_some_iff.1 h
   obtain ⟨a, b, y, rfl, e1, e2, e3⟩ := ih hj
   exact ⟨x :: a, b, y, rfl, by simp [e1], e2, fun z hz => by
    rcases List.mem_cons.1 hz with rfl | q
    ·exact hx
    ·exact e3 z q⟩
theorem idxR_app {a b : List RF} {x : RF} {nm : Bs} (hx : x.nm = nm) (ha : ∀ y ∈ a, y.nm ≠ nm) : idxR (a ++ x :: b) nm = some a.length := by
 induction a with
 | nil => simp [idxR, hx]
 | cons y a ih =>
  simp only [List.cons_append, idxR]
  rw [if_neg (ha y (by simp)), ih fun z hz => ha z (by simp [hz])]
  rfl
theorem idxR_lt {l : List RF} {nm : Bs} {i : Nat} (h : idxR l nm = some i) : i < l.length ∧ (l.getD i RF.nil).nm = nm := by
 obtain ⟨a, b, x, rfl, rfl, e, -⟩ := idxR_some h
 refine ⟨by simp, ?_⟩
 rw [List.getD_eq_getElem?_getD, List.getElem?_append_right (Nat.le_refl _), Nat.sub_self]
 exact e
def findR (l : List RF) (nm : Bs) : Int := match idxR l nm with | some i => i | none => -1
section
variable {w : World} {base rp room : Nat} {nv lv : Value} {now lst : List RF}
set_option maxRecDepth 100000 in
theorem rfind_ok (h : RAt w base rp room nv lv now lst) (nm : ByteArray) :
  Calls Tryz.prog 122 #[.pointer (some ⟨rp, 0, none⟩), .string nm] w fun r w' => r = .returned (.int .i64 (findR now nm.data.toList)) ∧ w = w' := by
 obtain ⟨na, nc, rfl⟩ := h.now.slice
 obtain ⟨-, hnc, hncm⟩ := owF_len h.now
 obtain ⟨n, hn⟩ : ∃ n, n = now.length := ⟨_, rfl⟩
 have c1 := cell_blk h.box 1
 simp only [List.getElem?_toArray, List.getElem?_cons_zero, List.getElem?_cons_succ] at c1
 have HC := Lib.hid fun i (hi : i < now.length) => owF_at h.now hi
 rw [← hn] at c1 hnc HC
 have HN := Lib.hid hn
 have hse : nm = strOf nm.data.toList := strOf_eq rfl
 generalize hL : nm.data.toList = L at *
 clear hL
 have HSE := Lib.hid hse
 clear h hn hse
 go_enter Tryz.func122, Tryz.ntmps122
 go_wp2_with fail
 go_loopg [5] n (fun gh v5 wr => ∃ i : Nat, v5 = .int .i64 i ∧ i ≤ n ∧ gh = n - i ∧ w = wr ∧ Hid (∀ x ∈ now.take i, x.nm ≠ L))
 case atStart => exact ⟨0, rfl, by omega, rfl, rfl, Lib.hid (by simp)⟩
 case round =>
  obtain ⟨i, rfl, hi, rfl, rfl, HT⟩ := hrel
  by_cases hin : i < n
  ·have hin' : (i : Int) < (n : Int) := by omega
   obtain ⟨g, rfl, -, -, d0, -, -⟩ := HC.out i hin
   have hb := strOf_beq (now.getD i RF.nil).nm L
   rw [← HSE.out] at hb
   have hsp : i < now.length → now = now.take i ++ now.getD i RF.nil :: now.drop (i + 1) := fun hi => by
    rw [List.getD_eq_getElem?_getD, List.getElem?_eq_getElem hi]
    simp
   have HSP := Lib.hid (hsp (by rw [← HN.out]; exact hin))
   clear hsp
   by_cases he : (now.getD i RF.nil).nm = L
   ·have HE := Lib.hid he
    rw [decide_eq_true he] at hb
    clear he
    generalize strOf (now.getD i RF.nil).nm = s1 at *
    go_wp2_with fail
    go_ret
    refine ⟨?_, rfl⟩
    have hidx : idxR now L = some i := by
     have h1 := idxR_app (b := now.drop (i + 1)) HE.out HT.out
     rw [← HSP.out, List.length_take, ← HN.out, Nat.min_eq_left (by omega)] at h1
     exact h1
    simp [findR, hidx]
   ·have HE := Lib.hid he
    rw [decide_eq_false he] at hb
    clear he
    generalize strOf (now.getD i RF.nil).nm = s1 at *
    go_wp2_with fail
    go_roundg (n - (i + 1))
    case measure => omega
    case rel =>
     refine ⟨i + 1, by go_num, by omega, rfl, rfl, Lib.hid fun x hx => ?_⟩
     have hl : i < now.length := by rw [← HN.out]; exact hin
     rw [List.take_add_one, List.getElem?_eq_getElem hl] at hx
     rcases List.mem_append.1 hx with q | q
     ·exact HT.out x q
     ·have : x = now[i] := by simpa using q
      rw [this]
      have h2 := HE.out
      rw [List.getD_eq_getElem?_getD, List.getElem?_eq_getElem hl] at h2
      exact h2
  ·have hin' : ¬ (i : Int) < (n : Int) := by omega
   go_wp2_with fail
   go_ret
   refine ⟨?_, rfl⟩
   have h1 := HT.out
   rw [List.take_of_length_le (by rw [← HN.out]; omega)] at h1
   have h2 := idxR_none.2 h1
   simp [findR, h2]
theorem rnamed_ok (w : World) (nm : ByteArray) (hs : nm.size ≤ maxLen) :
  Calls Tryz.prog 123 #[.string nm] w fun r w' => r = .returned (.bool (decide (1 ≤ nm.data.toList.length ∧ nm.data.toList.length ≤ 40))) ∧ w = w' := by
 have hl : nm.data.toList.length = nm.size := Array.length_toList
 rw [hl]
 unfold maxLen at hs
 clear hl
 obtain ⟨n, hn⟩ : ∃ n, n = nm.size := ⟨_, rfl⟩
 have hz : nm.size = n := hn.symm
 rw [← hn] at hs ⊢
 clear hn
 by_cases h1 : 1 ≤ n
 ·have h1' : (1 : Int) ≤ (n : Int) := by omega
  by_cases h2 : n ≤ 40
  ·have h2' : (n : Int) ≤ 40 := by omega
   go_enter Tryz.func123, Tryz.ntmps123
   go_wp2_with fail
   go_ret
   exact ⟨by simp [h1, h2], rfl⟩
  ·have h2' : ¬ (n : Int) ≤ 40 := by omega
   go_enter Tryz.func123, Tryz.ntmps123
   go_wp2_with fail
   go_ret
   exact ⟨by simp, rfl⟩
 ·have h1' : ¬ (1 : Int) ≤ (n : Int) := by omega
  go_enter Tryz.func123, Tryz.ntmps123
  go_wp2_with fail
  go_ret
  exact ⟨by simp, rfl⟩
theorem rblocks_ok (w : World) (n : Nat) (hn : n ≤ 1000000000) :
  Calls Tryz.prog 72 #[.int .i64 n] w fun r w' => r = .returned (.int .i64 (blocksN n)) ∧ w = w' := by
 have e1 : (n : Int).tdiv 512 = ((n / 512 : Nat) : Int) := by rw [Int.tdiv_eq_ediv_of_nonneg (by omega)]; omega
 have e2 : (n : Int).tmod 512 = ((n % 512 : Nat) : Int) := by rw [Int.tmod_eq_emod_of_nonneg (by omega)]; omega
 have h1 : n / 512 ≤ 1000000000 := by omega
 have hb : blocksN n = n / 512 + (if 0 < n % 512 then 1 else 0) := by unfold blocksN; split <;> omega
 have HB := Lib.hid hb
 clear hb hn
 generalize n / 512 = q at *
 generalize n % 512 = m at *
 by_cases h2 : 0 < m
 ·have h2' : (0 : Int) < (m : Int) := by omega
  have hb := HB.out
  rw [if_pos h2] at hb
  have HB2 := Lib.hid hb
  clear hb h2 HB
  go_enter Tryz.func72, Tryz.ntmps72
  go_wp2_with fail
  go_ret
  exact ⟨by rw [HB2.out]; simp, rfl⟩
 ·have h2' : ¬ (0 : Int) < (m : Int) := by omega
  have hb := HB.out
  rw [if_neg h2] at hb
  have HB2 := Lib.hid hb
  clear hb h2 HB
  go_enter Tryz.func72, Tryz.ntmps72
  go_wp2_with fail
  go_ret
  exact ⟨by rw [HB2.out]; simp, rfl⟩
def sizeR (l : List RF) (nm : Bs) : Nat × Nat := match idxR l nm with | some i => ((l.getD i RF.nil).data.length, 0) | none => (0, 80)
set_option maxRecDepth 100000 in
theorem rsize_ok (h : RAt w base rp room nv lv now lst) (nm : ByteArray) (hsm : ∀ x ∈ now, x.data.length ≤ 32768) :
  Calls Tryz.prog 78 #[.pointer (some ⟨rp, 0, none⟩), .string nm] w fun r w' => r = .returned (.tuple #[.int .i64 (sizeR now nm.data.toList).1, .int .i64 (sizeR now nm.data.toList).2]) ∧ w = w' := by
 have HF := Lib.hid (rfind_ok h nm)
 obtain ⟨na, nc, rfl⟩ := h.now.slice
 obtain ⟨-, hnc, hncm⟩ := owF_len h.now
 obtain ⟨n, hn⟩ : ∃ n, n = now.length := ⟨_, rfl⟩
 have c1 := cell_blk h.box 1
 simp only [List.getElem?_toArray, List.getElem?_cons_zero, List.getElem?_cons_succ] at c1
 rw [← hn] at c1 hnc
 cases hi : idxR now nm.data.toList with
 | none =>
  have e1 : findR now nm.data.toList = -1 := by simp [findR, hi]
  have e2 : sizeR now nm.data.toList = (0, 80) := by simp [sizeR, hi]
  rw [e1] at HF
  rw [e2]
  clear h hn hi e1 e2 hsm
  go_enter Tryz.func78, Tryz.ntmps78
  go_wp2_with fail
  refine HF.out.mono ?_
  rintro r w1 ⟨rfl, rfl⟩
  go_wp2_with fail
  go_ret2
  exact ⟨rfl, rfl⟩
 | some i =>
  have e1 : findR now nm.data.toList = (i : Int) := by simp [findR, hi]
  have e2 : sizeR now nm.data.toList = ((now.getD i RF.nil).data.length, 0) := by simp [sizeR, hi]
  have hil := (idxR_lt hi).1
  obtain ⟨g, rfl, -, -, -, d1, -⟩ := owF_at h.now hil
  have hin : (i : Int) < (n : Int) := by omega
  have hi0 : (0 : Int) ≤ (i : Int) := by omega
  have hds := strOf_size (now.getD i RF.nil).data
  have hdl : (now.getD i RF.nil).data.length ≤ 32768 := by
   rw [List.getD_eq_getElem?_getD, List.getElem?_eq_getElem hil]
   exact hsm _ (List.getElem_mem hil)
  rw [e1] at HF
  rw [e2]
  clear h hn hi e1 e2 hsm hil
  generalize (now.getD i RF.nil).data.length = k at *
  generalize strOf (now.getD i RF.nil).data = s1 at *
  go_enter Tryz.func78, Tryz.ntmps78
  go_wp2_with fail
  refine HF.out.mono ?_
  rintro r w1 ⟨rfl, rfl⟩
  go_wp2_with fail
  go_ret2
  exact ⟨by simp, rfl⟩
def codeQ (l : List RF) (nm : Bs) (at_ n : Int) : Nat := match idxR l nm with | none => 80 | some i => if at_ < 0 ∨ ((l.getD i RF.nil).data.length : Int) < at_ ∨ n < 0 then 1 else 0
def dataQ (l : List RF) (nm : Bs) (at_ n : Int) : Bs := match idxR l nm with | none => [] | some i => if at_ < 0 ∨ ((l.getD i RF.nil).data.length : Int) < at_ ∨ n < 0 then [] else ((l.getD i RF.nil).data.drop at_.toNat).take n.toNat
theorem str_cut (d : Bs) (a e : Nat) (_h : a ≤ e) : (strOf d).extract a e = strOf ((d.drop a).take (e - a)) := by
 unfold strOf
 rw [ByteArray.extract_mk]
set_option maxRecDepth 100000 in
theorem rread_ok (h : RAt w base rp room nv lv now lst) (nm : ByteArray) (at_ cnt : Int) (ha : In64 at_) (hc : In64 cnt) (hsm : ∀ x ∈ now, x.data.length ≤ 32768) :
  Calls Tryz.prog 75 #[.pointer (some ⟨rp, 0, none⟩), .string nm, .int .i64 at_, .int .i64 cnt] w fun r w' => r = .returned (.tuple #[.string (strOf (dataQ now nm.data.toList at_ cnt)), .int .i64 (codeQ now nm.data.toList at_ cnt)]) ∧ w = w' := by
 have HF := Lib.hid (rfind_ok h nm)
 obtain ⟨na, nc, rfl⟩ := h.now.slice
 obtain ⟨-, hnc, hncm⟩ := owF_len h.now
 obtain ⟨n, hn⟩ : ∃ n, n = now.length := ⟨_, rfl⟩
 have c1 := cell_blk h.box 1
 simp only [List.getElem?_toArray, List.getElem?_cons_zero, List.getElem?_cons_succ] at c1
 rw [← hn] at c1 hnc
 cases hi : idxR now nm.data.toList with
 | none =>
  have e1 : findR now nm.data.toList = -1 := by simp [findR, hi]
  have e2 : codeQ now nm.data.toList at_ cnt = 80 := by simp [codeQ, hi]
  have e3 : dataQ now nm.data.toList at_ cnt = [] := by simp [dataQ, hi]
  rw [e1] at HF
  rw [e2, e3]
  clear h hn hi e1 e2 e3 hsm
  go_enter Tryz.func75, Tryz.ntmps75
  go_wp2_with fail
  refine HF.out.mono ?_
  rintro r w1 ⟨rfl, rfl⟩
  go_wp2_with fail
  go_ret2
  exact ⟨rfl, rfl⟩
 | some i =>
  have e1 : findR now nm.data.toList = (i : Int) := by simp [findR, hi]
  have hil := (idxR_lt hi).1
  obtain ⟨g, rfl, -, -, -, d1, -⟩ := owF_at h.now hil
  have hin : (i : Int) < (n : Int) := by omega
  have hi0 : (0 : Int) ≤ (i : Int) := by omega
  have hds := strOf_size (now.getD i RF.nil).data
  have hdl : (now.getD i RF.nil).data.length ≤ 32768 := by
   rw [List.getD_eq_getElem?_getD, List.getElem?_eq_getElem hil]
   exact hsm _ (List.getElem_mem hil)
  have e2 : codeQ now nm.data.toList at_ cnt = if at_ < 0 ∨ ((now.getD i RF.nil).data.length : Int) < at_ ∨ cnt < 0 then 1 else 0 := by simp [codeQ, hi]
  have e3 : dataQ now nm.data.toList at_ cnt = if at_ < 0 ∨ ((now.getD i RF.nil).data.length : Int) < at_ ∨ cnt < 0 then [] else ((now.getD i RF.nil).data.drop at_.toNat).take cnt.toNat := by simp [dataQ, hi]
  rw [e1] at HF
  rw [e2, e3]
  clear h hn hi e1 e2 e3 hsm hil
  generalize (now.getD i RF.nil).data = D at *
  obtain ⟨k, hk⟩ : ∃ k, k = D.length := ⟨_, rfl⟩
  rw [← hk] at hds hdl ⊢
  obtain ⟨ha1, ha2⟩ := ha
  obtain ⟨hc1, hc2⟩ := hc
  by_cases q1 : at_ < 0
  ·rw [if_pos (.inl q1), if_pos (.inl q1)]
   generalize strOf D = s1 at *
   clear hk
   go_enter Tryz.func75, Tryz.ntmps75
   go_wp2_with fail
   refine HF.out.mono ?_
   rintro r w1 ⟨rfl, rfl⟩
   go_wp2_with fail
   go_ret2
   exact ⟨rfl, rfl⟩
  ·by_cases q2 : (k : Int) < at_
   ·rw [if_pos (.inr (.inl q2)), if_pos (.inr (.inl q2))]
    generalize strOf D = s1 at *
    clear hk
    go_enter Tryz.func75, Tryz.ntmps75
    go_wp2_with fail
    refine HF.out.mono ?_
    rintro r w1 ⟨rfl, rfl⟩
    go_wp2_with fail
    go_ret2
    exact ⟨rfl, rfl⟩
   ·by_cases q3 : cnt < 0
    ·rw [if_pos (.inr (.inr q3)), if_pos (.inr (.inr q3))]
     generalize strOf D = s1 at *
     clear hk
     go_enter Tryz.func75, Tryz.ntmps75
     go_wp2_with fail
     refine HF.out.mono ?_
     rintro r w1 ⟨rfl, rfl⟩
     go_wp2_with fail
     go_ret2
     exact ⟨rfl, rfl⟩
    ·rw [if_neg (by omega), if_neg (by omega)]
     obtain ⟨a, rfl⟩ : ∃ a : Nat, at_ = a := ⟨at_.toNat, by omega⟩
     obtain ⟨c, rfl⟩ : ∃ c : Nat, cnt = c := ⟨cnt.toNat, by omega⟩
     obtain ⟨m, hm⟩ : ∃ m : Nat, m = min c (k - a) := ⟨_, rfl⟩
     have hmin : min (c : Int) ((k : Int) - (a : Int)) = (m : Int) := by omega
     have hma : a + m ≤ k := by omega
     have hcut := str_cut D a (a + m) (by omega)
     have hcut2 : (D.drop a).take (a + m - a) = (D.drop (a : Int).toNat).take (c : Int).toNat := by
      rw [Nat.add_sub_cancel_left, Int.toNat_natCast, Int.toNat_natCast]
      rcases Nat.le_total c (k - a) with q | q
      ·rw [show m = c by omega]
      ·rw [List.take_of_length_le (by rw [List.length_drop]; omega), List.take_of_length_le (by rw [List.length_drop]; omega)]
     rw [hcut2] at hcut
     have HCUT := Lib.hid hcut
     have h0a : (0 : Int) ≤ (a : Int) := by omega
     have ham : (a : Int) ≤ (a : Int) + (m : Int) := by omega
     have hamk : (a : Int) + (m : Int) ≤ (k : Int) := by omega
     clear hcut hcut2 hk hm q1 q2 q3
     generalize strOf ((D.drop (a : Int).toNat).take (c : Int).toNat) = s2 at *
     generalize strOf D = s1 at *
     go_enter Tryz.func75, Tryz.ntmps75
     go_wp2_with fail
     refine HF.out.mono ?_
     rintro r w1 ⟨rfl, rfl⟩
     go_wp2_with fail
     go_ret2
     exact ⟨by rw [← HCUT.out]; simp, rfl⟩
end
end Go.Proofs.YteepgehjkcahiaaGreat

namespace Go.Proofs.YteepgehjkcahiaaGreat
open Go.RowKit Go.Maps
theorem flatF_set {l : List RF} {i j : Nat} (hi : i < l.length) (hj : j < 3) {x' : RF} {v : Value} (hx : cF x' = (cF l[i]).set j v) : flatG cF (l.set i x') = (flatG cF l).set (i * 3 + j) v := by
 induction l generalizing i with
 | nil => simp at hi
 | cons x l ih =>
  have e0 : ∀ (y : RF) (l : List RF), flatG cF (y :: l) = cF y ++ flatG cF l := fun _ _ => rfl
  cases i with
  | zero =>
   rw [List.set_cons_zero, e0, e0, hx, List.set_append_left _ _ (by show 0 * 3 + j < 3; omega)]
   simp
  | succ i =>
   rw [List.set_cons_succ, e0, e0, ih (i := i) (by simpa using hi) (by simpa using hx), List.set_append_right _ _ (by show 3 ≤ (i + 1) * 3 + j; omega)]
   congr 2
   show i * 3 + j = (i + 1) * 3 + j - 3
   omega
theorem owF_set {w : World} {base g n c : Nat} {l : List RF} (h : OwF w base (.slice (some ⟨g, 0, none⟩) n c) l) {i j : Nat} (hi : i < l.length) (hj : j < 3) {x' : RF} {v : Value} (hx : cF x' = (cF l[i]).set j v) : OwF (w.setCell ⟨g, i * 3 + j, none⟩ v) base (.slice (some ⟨g, 0, none⟩) n c) (l.set i x') := by
 obtain ⟨h0, h2⟩ := h
 refine ⟨by rw [flatF_set hi hj hx, List.length_set, List.length_set]; exact h0, ?_⟩
 rw [List.length_set]
 rcases h2 with ⟨hv, -⟩ | ⟨g', cap, cur, hv, hg, hh, r1, r2, r3, r4⟩
 ·cases hv
 ·simp only [Value.slice.injEq, Option.some.injEq, Addr.mk.injEq] at hv
  obtain ⟨⟨rfl, -⟩, rfl, rfl⟩ := hv
  refine .inr ⟨g, c, cur.setIfInBounds (i * 3 + j) v, rfl, hg, by rw [heap_setCell, if_pos rfl, hh]; rfl, r1, r2, by rw [Array.size_setIfInBounds]; exact r3, ?_⟩
  rw [Array.toList_setIfInBounds, flatF_set hi hj hx, ← r4, List.take_set]
section
variable {w w' : World} {base rp room : Nat} {nv lv : Value} {now lst : List RF}
theorem RAt.putNow (h : RAt w base rp room nv lv now lst) {nv' : Value} {now' : List RF} (u : Upd nv.ownBlock.toList w w') (ho : OwF w' base nv' now') (hn : nv'.ownBlock = nv.ownBlock ∨ ∀ g, nv'.ownBlock = some g → w.heap.size ≤ g) : RNext w base rp room nv lv now' lst (w'.setCell ⟨rp, 1, none⟩ nv') := by
 have hrl := lt_of_blk h.box
 have hb : w'.heap[rp]? = some (boxR room nv lv) := (u.block rp hrl fun q => h.n1 (by simpa using q)).trans h.box
 have us : Upd [rp] w' (w'.setCell ⟨rp, 1, none⟩ nv') := (Upd.refl [rp] w').setCell (by simp) _ _
 have hl := h.lst.upd u fun j hj => h.n3 j (by simpa using hj)
 have hn1 : nv'.ownBlock ≠ some rp := fun e => by
  rcases hn with q | q
  ·rw [q] at e; exact h.n1 e
  ·have := q rp e; omega
 refine ⟨nv', lv, ⟨by rw [heap_setCell, if_pos rfl, hb]; rfl, ho.upd us fun j hj => by rw [List.mem_singleton.1 hj]; exact hn1, hl.upd us fun j hj => by rw [List.mem_singleton.1 hj]; exact h.n2, h.low, hn1, h.n2, fun g hg e => ?_⟩, (u.mono fun k hk _ => mem_rfoot.2 (.inr (.inl (by simpa using hk)))).trans (us.mono fun k hk _ => mem_rfoot.2 (.inl (by simpa using hk))), fun i hi => ?_⟩
 ·rcases hn with q | q
  ·rw [q] at hg; exact h.n3 g hg e
  ·have := q g hg; have := (h.lst.block g e).2; omega
 ·rcases mem_rfoot.1 hi with e | e | e
  ·exact .inl (mem_rfoot.2 (.inl e))
  ·rcases hn with q | q
   ·rw [q] at e; exact .inl (mem_rfoot.2 (.inr (.inl e)))
   ·exact .inr (q i e)
  ·exact .inl (mem_rfoot.2 (.inr (.inr e)))
theorem RAt.putLst (h : RAt w base rp room nv lv now lst) {lv' : Value} {lst' : List RF} (u : Upd [] w w') (ho : OwF w' base lv' lst') (hn : ∀ g, lv'.ownBlock = some g → w.heap.size ≤ g) : RNext w base rp room nv lv now lst' (w'.setCell ⟨rp, 2, none⟩ lv') := by
 have hrl := lt_of_blk h.box
 have hb : w'.heap[rp]? = some (boxR room nv lv) := (u.block rp hrl (by simp)).trans h.box
 have us : Upd [rp] w' (w'.setCell ⟨rp, 2, none⟩ lv') := (Upd.refl [rp] w').setCell (by simp) _ _
 have hnw := h.now.upd u (by simp)
 have hn2 : lv'.ownBlock ≠ some rp := fun e => by have := hn rp e; omega
 refine ⟨nv, lv', ⟨by rw [heap_setCell, if_pos rfl, hb]; rfl, hnw.upd us fun j hj => by rw [List.mem_singleton.1 hj]; exact h.n1, ho.upd us fun j hj => by rw [List.mem_singleton.1 hj]; exact hn2, h.low, h.n1, hn2, fun g hg e => ?_⟩, (u.mono (by simp)).trans (us.mono fun k hk _ => mem_rfoot.2 (.inl (by simpa using hk))), fun i hi => ?_⟩
 ·have := hn g e; have := (h.now.block g hg).2; omega
 ·rcases mem_rfoot.1 hi with e | e | e
  ·exact .inl (mem_rfoot.2 (.inl e))
  ·exact .inl (mem_rfoot.2 (.inr (.inl e)))
  ·exact .inr (hn i e)
theorem RNext.refl (h : RAt w' base rp room nv lv now lst) (u : Upd [] w w') : RNext w base rp room nv lv now lst w' := ⟨nv, lv, h, u.mono (by simp), fun i hi => .inl hi⟩
set_option maxRecDepth 100000 in
theorem rnew_ok (w : World) (n : Nat) (h1 : 36 ≤ n) (h2 : n ≤ 1000) :
  Calls Tryz.prog 34 #[.int .i64 n] w fun r w' => r = .returned (.pointer (some ⟨w.heap.size, 0, none⟩)) ∧ RAt w' w.heap.size w.heap.size (n - 36) (.slice none 0 0) (.slice none 0 0) [] [] ∧ Upd [] w w' := by
 have e : (n : Int) - 36 = ((n - 36 : Nat) : Int) := by omega
 go_enter Tryz.func34, Tryz.ntmps34
 go_wp2_with fail
 go_ret
 exact ⟨rfl, ⟨by first | exact heap_top _ _ | (rw [← e]; exact heap_top _ _), OwnG.nil _ _, OwnG.nil _ _, Nat.le_refl _, (fun q => by cases q), (fun q => by cases q), (fun g hg => by cases hg)⟩, (Upd.refl [] w).alloc _⟩
set_option maxRecDepth 100000 in
theorem rreset_ok (h : RAt w base rp room nv lv now lst) (hb : base ≤ w.heap.size) (hl : lst.length ≤ 1000000) :
  Calls Tryz.prog 37 #[.pointer (some ⟨rp, 0, none⟩)] w fun r w' => r = .returned (.tuple #[]) ∧ RNext w base rp room nv lv lst lst w' := by
 obtain ⟨la, lc, rfl⟩ := h.lst.slice
 obtain ⟨n, hn⟩ : ∃ n, n = lst.length := ⟨_, rfl⟩
 have c2 := cell_blk h.box 2
 have f1 := frozen_blk h.box 1
 simp only [List.getElem?_toArray, List.getElem?_cons_zero, List.getElem?_cons_succ] at c2
 obtain ⟨-, hnc, hncm⟩ := owF_len h.lst
 rw [← hn] at c2 hnc
 have H := Lib.hid h
 have HN := Lib.hid hn
 have hua : Upd [] w (w.alloc (.cells #[] 120)) := (Upd.refl [] w).alloc _
 have HUA := Lib.hid hua
 have hrl := lt_of_blk h.box
 clear h hn hua
 go_enter Tryz.func37, Tryz.ntmps37
 go_wp2_with (first
  | (at_builtin; refine wpList_append_G TF rfl _ _ rfl (base := w.heap.size) (l := []) (r := lst) rfl (OwnG.empty TF (heap_top _ _) (Nat.le_refl _)) (by rw [← HN.out]; rfl) (OwnG.src TF (H.out.keep HUA.out).lst) (oneF _) ?c1 ?c2 ?c3 ?_)
  | fail)
 case c1 => simp; omega
 case c2 => simp; omega
 case c3 => simp
 intro v8 w8 ho8 hg8 hn8
 obtain ⟨a8, k8, m8, hm8, rfl⟩ := ho8.sliceM
 clear hm8
 have hu8 : Upd [] w w8 := HUA.out.grown hg8 (fun g hg => by cases hg; exact Nat.le_refl _)
 have hrs : RNext w base rp room nv (.slice la lst.length lc) lst lst (w8.setCell ⟨rp, 1, none⟩ (.slice a8 m8 k8)) := H.out.putNow (hu8.mono (by simp)) (ho8.base hb) (.inr fun g hg => (ho8.block g hg).1)
 have hb8 : w8.heap[rp]? = some (boxR room nv (.slice la lst.length lc)) := (hu8.block rp hrl (by simp)).trans H.out.box
 have f8 := frozen_blk hb8 1
 have c8 := cell_blk hb8 1
 simp only [List.getElem?_toArray, List.getElem?_cons_zero, List.getElem?_cons_succ] at c8
 have HRS := Lib.hid hrs
 clear hrs hu8 hg8 hn8 ho8 hb8 HUA
 go_wp2_with fail
 go_end0
 exact ⟨rfl, HRS.out⟩
def codeCR (l : List RF) (nm : Bs) : Nat := if 1 ≤ nm.length ∧ nm.length ≤ 40 then (match idxR l nm with | some _ => 81 | none => if 64 ≤ l.length then 83 else 0) else 82
def createR (l : List RF) (nm : Bs) : List RF := if codeCR l nm = 0 then l ++ [⟨nm, [], 0⟩] else l
set_option maxRecDepth 100000 in
theorem rcreate_ok (h : RAt w base rp room nv lv now lst) (hb : base ≤ w.heap.size) (nm : ByteArray) (hs : nm.size ≤ maxLen) (hl : now.length ≤ 1000) :
  Calls Tryz.prog 76 #[.pointer (some ⟨rp, 0, none⟩), .string nm] w fun r w' => r = .returned (.int .i64 (codeCR now nm.data.toList)) ∧ RNext w base rp room nv lv (createR now nm.data.toList) lst w' := by
 have HF := Lib.hid (rfind_ok h nm)
 have HNm := Lib.hid (rnamed_ok w nm hs)
 have hse : nm = strOf nm.data.toList := strOf_eq rfl
 have HSE := Lib.hid hse
 clear hse
 generalize hL : nm.data.toList = L at *
 clear hL
 have H := Lib.hid h
 by_cases h1 : 1 ≤ L.length ∧ L.length ≤ 40
 ·rw [decide_eq_true h1] at HNm
  cases hi : idxR now L with
  | some i =>
   have e1 : findR now L = (i : Int) := by simp [findR, hi]
   have e2 : codeCR now L = 81 := by simp [codeCR, h1, hi]
   have e3 : createR now L = now := by simp [createR, e2]
   have hi0 : (0 : Int) ≤ (i : Int) := by omega
   rw [e1] at HF
   rw [e2, e3]
   clear h h1 hi e1 e2 e3
   go_enter Tryz.func76, Tryz.ntmps76
   go_wp2_with fail
   refine HNm.out.mono ?_
   rintro r w1 ⟨rfl, rfl⟩
   go_wp2_with fail
   refine HF.out.mono ?_
   rintro r w1 ⟨rfl, rfl⟩
   go_wp2_with fail
   go_ret
   exact ⟨rfl, RNext.refl H.out (Upd.refl [] _)⟩
  | none =>
   have e1 : findR now L = -1 := by simp [findR, hi]
   rw [e1] at HF
   obtain ⟨na, nc, rfl⟩ := h.now.slice
   obtain ⟨n, hn⟩ : ∃ n, n = now.length := ⟨_, rfl⟩
   have c1 := cell_blk h.box 1
   have f1 := frozen_blk h.box 1
   simp only [List.getElem?_toArray, List.getElem?_cons_zero, List.getElem?_cons_succ] at c1
   obtain ⟨-, hnc, hncm⟩ := owF_len h.now
   rw [← hn] at c1 hnc hl
   have HN := Lib.hid hn
   have hrl := lt_of_blk h.box
   by_cases h64 : 64 ≤ n
   ·have h64' : (64 : Int) ≤ (n : Int) := by omega
    have e2 : codeCR now L = 83 := by simp [codeCR, h1, hi, ← hn, h64]
    have e3 : createR now L = now := by simp [createR, e2]
    rw [e2, e3]
    clear h h1 hi e1 e2 e3 hn
    go_enter Tryz.func76, Tryz.ntmps76
    go_wp2_with fail
    refine HNm.out.mono ?_
    rintro r w1 ⟨rfl, rfl⟩
    go_wp2_with fail
    refine HF.out.mono ?_
    rintro r w1 ⟨rfl, rfl⟩
    go_wp2_with fail
    go_ret
    exact ⟨rfl, RNext.refl H.out (Upd.refl [] _)⟩
   ·have h64' : ¬ (64 : Int) ≤ (n : Int) := by omega
    have e2 : codeCR now L = 0 := by simp [codeCR, h1, hi, ← hn, h64]
    have e3 : createR now L = now ++ [⟨L, [], 0⟩] := by simp [createR, e2]
    rw [e2, e3]
    have HO : Hid (∀ X : Obj, OwF (w.alloc X) base (.slice na now.length nc) now) := Lib.hid fun X => (h.keep ((Upd.refl [] w).alloc X)).now
    clear h h1 hi e1 e2 e3 hn
    go_enter Tryz.func76, Tryz.ntmps76
    go_wp2_with fail
    refine HNm.out.mono ?_
    rintro r w1 ⟨rfl, rfl⟩
    go_wp2_with fail
    refine HF.out.mono ?_
    rintro r w1 ⟨rfl, rfl⟩
    go_wp2_with (first
     | (at_builtin; go_loud (refine wpList_append_G TF rfl _ _ rfl (base := base) (l := now) (r := [⟨L, [], 0⟩]) (by rw [HN.out]; rfl) (HO.out _) rfl (src_new TF (ty := 120) (by rw [HSE.out]; exact heap_top _ _)) (oneF _) ?c1 ?c2 ?c3 ?_))
     | fail)
    case c1 => simp; rw [← HN.out]; omega
    case c2 => simp; rw [← HN.out]; omega
    case c3 => simp; omega
    intro v8 w8 ho8 hg8 hn8
    obtain ⟨a8, k8, m8, hm8, rfl⟩ := ho8.sliceM
    clear hm8
    have hua : Upd [] w (w.alloc (.cells #[.string nm, .string ⟨#[]⟩, .int .i64 0] 120)) := (Upd.refl [] w).alloc _
    have hu8 : Upd (Value.slice na now.length nc).ownBlock.toList w w8 := (hua.mono (by simp)).trans (Upd.of_grown hg8)
    have hrs : RNext w base rp room (.slice na now.length nc) lv (now ++ [⟨L, [], 0⟩]) lst (w8.setCell ⟨rp, 1, none⟩ (.slice a8 m8 k8)) := H.out.putNow hu8 ho8 (hn8.imp id fun q g hg => by have := q g hg; omega)
    have hb8 : w8.heap[rp]? = some (boxR room (.slice na now.length nc) lv) := (hu8.block rp hrl (fun q => H.out.n1 (by simpa using q))).trans H.out.box
    have f8 := frozen_blk hb8 1
    have c8 := cell_blk hb8 1
    simp only [List.getElem?_toArray, List.getElem?_cons_zero, List.getElem?_cons_succ] at c8
    have HRS := Lib.hid hrs
    clear hrs hu8 hg8 hn8 ho8 hb8 hua
    go_wp2_with fail
    go_ret
    exact ⟨rfl, HRS.out⟩
 ·have e2 : codeCR now L = 82 := by simp [codeCR, h1]
  have e3 : createR now L = now := by simp [createR, e2]
  rw [e2, e3]
  rw [decide_eq_false h1] at HNm
  clear h h1 e2 e3
  go_enter Tryz.func76, Tryz.ntmps76
  go_wp2_with fail
  refine HNm.out.mono ?_
  rintro r w1 ⟨rfl, rfl⟩
  go_wp2_with fail
  go_ret
  exact ⟨rfl, RNext.refl H.out (Upd.refl [] _)⟩
end
end Go.Proofs.YteepgehjkcahiaaGreat

namespace Go.Proofs.YteepgehjkcahiaaGreat
open Go.RowKit Go.Maps
def syF (x : RF) : RF := ⟨x.nm, x.data, blocksN x.data.length⟩
theorem set_mid {α : Type} (f : α → α) : ∀ (l : List α) (i : Nat) (h : i < l.length), ((l.take i).map f ++ l.drop i).set i (f l[i]) = (l.take (i + 1)).map f ++ l.drop (i + 1)
 | [], i, h => by simp at h
 | x :: l, 0, h => by simp
 | x :: l, i + 1, h => by
  have := set_mid f l i (by simpa using h)
  simp only [List.take_succ_cons, List.map_cons, List.cons_append, List.drop_succ_cons, List.set_cons_succ, List.getElem_cons_succ] at this ⊢
  rw [this]
theorem get_mid {α : Type} (f : α → α) (l : List α) (i : Nat) (h : i < l.length) : ∃ h' : i < ((l.take i).map f ++ l.drop i).length, ((l.take i).map f ++ l.drop i)[i] = l[i] := by
 have hl : ((l.take i).map f).length = i := by rw [List.length_map, List.length_take]; omega
 refine ⟨by rw [List.length_append, hl, List.length_drop]; omega, ?_⟩
 rw [List.getElem_append_right (by omega)]
 have e : i - ((l.take i).map f).length = 0 := by omega
 simp only [e, List.getElem_drop, Nat.add_zero]
section
variable {w w' : World} {base rp room : Nat} {nv lv : Value} {now lst : List RF}
theorem RAt.putOld {g n c : Nat} (h : RAt w base rp room (.slice (some ⟨g, 0, none⟩) n c) lv now lst) {i j : Nat} (hi : i < now.length) (hj : j < 3) {x' : RF} {v : Value} (hx : cF x' = (cF now[i]).set j v) : RAt (w.setCell ⟨g, i * 3 + j, none⟩ v) base rp room (.slice (some ⟨g, 0, none⟩) n c) lv (now.set i x') lst ∧ Upd [g] w (w.setCell ⟨g, i * 3 + j, none⟩ v) := by
 have us : Upd [g] w (w.setCell ⟨g, i * 3 + j, none⟩ v) := (Upd.refl [g] w).setCell (by simp) _ _
 have hgr : g ≠ rp := fun e => h.n1 (by rw [e]; rfl)
 exact ⟨⟨(us.block rp (lt_of_blk h.box) (by simp; exact fun e => hgr e.symm)).trans h.box, owF_set h.now hi hj hx, h.lst.upd us fun k hk e => h.n3 g rfl (by rw [List.mem_singleton.1 hk] at e; exact e), h.low, h.n1, h.n2, h.n3⟩, us⟩
set_option maxRecDepth 100000 in
theorem rsync_ok (h : RAt w base rp room nv lv now lst) (hb : base ≤ w.heap.size) (hl : now.length ≤ 1000) (hsm : ∀ x ∈ now, x.data.length ≤ 32768) :
  Calls Tryz.prog 36 #[.pointer (some ⟨rp, 0, none⟩)] w fun r w' => r = .returned (.tuple #[]) ∧ RNext w base rp room nv lv (now.map syF) (now.map syF) w' := by
 obtain ⟨na, nc, rfl⟩ := h.now.slice
 obtain ⟨n, hn⟩ : ∃ n, n = now.length := ⟨_, rfl⟩
 obtain ⟨-, hnc, hncm⟩ := owF_len h.now
 rw [← hn] at hnc h hl ⊢
 have H : Hid (RAt w base rp room (.slice na n nc) lv ((now.take 0).map syF ++ now.drop 0) lst) := Lib.hid (by simpa using h)
 have HN := Lib.hid hn
 have HSM := Lib.hid hsm
 clear h hn hsm
 go_enter Tryz.func36, Tryz.ntmps36
 go_wp2_with fail
 go_loopg [2] n (fun gh v2 wr => ∃ i : Nat, v2 = .int .i64 i ∧ i ≤ n ∧ gh = n - i ∧ Hid (RAt wr base rp room (.slice na n nc) lv ((now.take i).map syF ++ now.drop i) lst ∧ Upd (rfoot rp (.slice na n nc) lv) w wr))
 case atStart => exact ⟨0, rfl, by omega, rfl, Lib.hid ⟨H.out, Upd.refl _ _⟩⟩
 case round =>
  obtain ⟨i, rfl, hi, rfl, HS⟩ := hrel
  obtain ⟨W, hW⟩ : ∃ W, W = wr := ⟨_, rfl⟩
  subst hW
  have c1 := cell_blk HS.out.1.box 1
  simp only [List.getElem?_toArray, List.getElem?_cons_zero, List.getElem?_cons_succ] at c1
  by_cases hin : i < n
  ·have hin' : (i : Int) < (n : Int) := by omega
   have hin2 : i < now.length := by rw [← HN.out]; exact hin
   obtain ⟨hil, hge⟩ := get_mid syF now i hin2
   obtain ⟨g, rfl, -, hfz, -, d1, d2⟩ := owF_at HS.out.1.now hil
   rw [List.getD_eq_getElem?_getD, List.getElem?_eq_getElem hil] at d1 d2
   simp only [Option.getD_some] at d1 d2
   rw [hge] at d1 d2
   have e2 : W.drew.cell? ⟨g, i * 3 + 2, none⟩ = some (.int .i64 now[i].old) := d2
   have hdl := HSM.out now[i] (List.getElem_mem _)
   have hds := strOf_size now[i].data
   have hud : Upd [] W W.drew := (Upd.refl [] W).drew
   obtain ⟨hr1, hr2⟩ := (HS.out.1.keep hud).putOld hil (j := 2) (by omega) (x' := syF now[i]) (v := .int .i64 (blocksN now[i].data.length)) (by rw [hge]; rfl)
   rw [set_mid syF now i hin2] at hr1
   have HBK := Lib.hid fun X : World => rblocks_ok X now[i].data.length (by omega)
   have HR := Lib.hid (And.intro hr1 ((hud.mono (by simp)).trans hr2))
   have f2 := hfz (i * 3 + 2)
   have hgrp : g ≠ rp := fun e => HS.out.1.n1 (by rw [e]; rfl)
   have hSt : ∀ v, (W.drew.setCell ⟨g, i * 3 + 2, none⟩ v).cell? ⟨rp, 1, none⟩ = some (.slice (some ⟨g, 0, none⟩) n nc) ∧ (W.drew.setCell ⟨g, i * 3 + 2, none⟩ v).cell? ⟨g, i * 3 + 1, none⟩ = some (.string (strOf now[i].data)) ∧ (W.drew.setCell ⟨g, i * 3 + 2, none⟩ v).frozen? ⟨g, i * 3 + 2, none⟩ = false := fun v =>
    ⟨(World.cell?_setCell_other _ _ _ _ (fun e => hgrp (congrArg Addr.block e))).trans c1, (World.cell?_setCell_other _ _ _ _ (fun e => by have := congrArg Addr.off e; simp at this)).trans d1, (World.frozen?_setCell _ _ _ _).trans f2⟩
   have hS0 : W.drew.cell? ⟨rp, 1, none⟩ = some (.slice (some ⟨g, 0, none⟩) n nc) ∧ W.drew.cell? ⟨g, i * 3 + 1, none⟩ = some (.string (strOf now[i].data)) ∧ W.drew.frozen? ⟨g, i * 3 + 2, none⟩ = false := ⟨c1, d1, f2⟩
   clear hr1 hr2 hge hfz
   generalize strOf now[i].data = s1 at *
   generalize now[i].data.length = k at *
   generalize now[i].old = od at *
   go_wp2_with fail
   go_region_held3 (fun X => X.cell? ⟨rp, 1, none⟩ = some (.slice (some ⟨g, 0, none⟩) n nc) ∧ X.cell? ⟨g, i * 3 + 1, none⟩ = some (.string s1) ∧ X.frozen? ⟨g, i * 3 + 2, none⟩ = false)
    (first
     | (with_reducible exact hS0)
     | (exact hSt _))
    (first
     | (go_at_call 72; (with_reducible refine (HBK.out _).mono ?_); rintro e w6 ⟨rfl, rfl⟩))
   have H2 : Hid (RAt ((W.setCell ⟨g, i * 3 + 2, none⟩ (.int .i64 (blocksN k))).drew) base rp room (.slice (some ⟨g, 0, none⟩) n nc) lv ((now.take (i + 1)).map syF ++ now.drop (i + 1)) lst ∧ Upd (rfoot rp (.slice (some ⟨g, 0, none⟩) n nc) lv) w ((W.setCell ⟨g, i * 3 + 2, none⟩ (.int .i64 (blocksN k))).drew)) := Lib.hid (And.intro HR.out.1 (HS.out.2.next HR.out.2 fun k hk hlt => mem_rfoot.2 (.inr (.inl (by rw [List.mem_singleton.1 hk]; rfl)))))
   clear hS0 hSt e2 d1 d2 c1 f2 HR HBK
   generalize (W.setCell ⟨g, i * 3 + 2, none⟩ (.int .i64 (blocksN k))).drew = W2 at *
   go_wp2_with fail
   go_roundg (n - (i + 1))
   case measure => omega
   case rel => exact ⟨i + 1, by go_num, by omega, rfl, H2⟩
  ·have hin' : ¬ (i : Int) < (n : Int) := by omega
   have hfin := HS.out.1
   rw [List.take_of_length_le (by rw [← HN.out]; omega), List.drop_of_length_le (by rw [← HN.out]; omega), List.append_nil] at hfin
   obtain ⟨l2, hl2⟩ : ∃ l2, l2 = now.map syF := ⟨_, rfl⟩
   have hl2n : n = l2.length := by rw [hl2, List.length_map, HN.out]
   rw [← hl2] at hfin
   have HLE := Lib.hid hl2
   clear hl2
   have HL2 := Lib.hid hl2n
   have HF := Lib.hid hfin
   have hua : Upd [] W (W.alloc (.cells #[] 120)) := (Upd.refl [] W).alloc _
   have HUA := Lib.hid hua
   have hrl := lt_of_blk hfin.box
   have hbW := Nat.le_trans hb HS.out.2.size
   have f2 := frozen_blk hfin.box 2
   clear hl2n hfin hua
   go_wp2_with (first
    | (at_builtin; refine wpList_append_G TF rfl _ _ rfl (base := W.heap.size) (l := []) (r := l2) rfl (OwnG.empty TF (heap_top _ _) (Nat.le_refl _)) (by rw [← HL2.out]; rfl) (OwnG.src TF (HF.out.keep HUA.out).now) (oneF _) ?c1 ?c2 ?c3 ?_)
    | fail)
   case c1 => rw [← HL2.out]; omega
   case c2 => rw [← HL2.out]; omega
   intro v8 w8 ho8 hg8 hn8
   obtain ⟨a8, k8, m8, hm8, rfl⟩ := ho8.sliceM
   clear hm8
   have hu8 : Upd [] W w8 := HUA.out.grown hg8 (fun g hg => by cases hg; exact Nat.le_refl _)
   have hrs : RNext W base rp room (.slice na n nc) lv l2 l2 (w8.setCell ⟨rp, 2, none⟩ (.slice a8 m8 k8)) := HF.out.putLst hu8 (ho8.base hbW) (fun g hg => (ho8.block g hg).1)
   have hb8 : w8.heap[rp]? = some (boxR room (.slice na n nc) lv) := (hu8.block rp hrl (by simp)).trans HF.out.box
   have f8 := frozen_blk hb8 2
   have c8 := cell_blk hb8 2
   simp only [List.getElem?_toArray, List.getElem?_cons_zero, List.getElem?_cons_succ] at c8
   have HRS : Hid (RNext w base rp room (.slice na n nc) lv l2 l2 (w8.setCell ⟨rp, 2, none⟩ (.slice a8 m8 k8))) := Lib.hid (by
    obtain ⟨nv', lv', q1, q2, q3⟩ := hrs
    exact ⟨nv', lv', q1, HS.out.2.trans q2, fun i hi => (q3 i hi).imp id (Nat.le_trans HS.out.2.size)⟩)
   clear hrs hu8 hg8 hn8 ho8 hb8 HUA
   go_wp2_with fail
   go_end0
   exact ⟨rfl, by rw [← HLE.out]; exact HRS.out⟩
theorem take_snocR {l : List RF} {i : Nat} (hi : i < l.length) : l.take (i + 1) = l.take i ++ [l.getD i RF.nil] := by
 rw [List.take_add_one, List.getD_eq_getElem?_getD, List.getElem?_eq_getElem hi]
 rfl
def sumB2 (l : List RF) : Nat := (l.map fun x => blocksN x.data.length).sum
def sumO (l : List RF) : Nat := (l.map (·.old)).sum
theorem sumB2_snoc (l : List RF) (x : RF) : sumB2 (l ++ [x]) = sumB2 l + blocksN x.data.length := by
 unfold sumB2; rw [List.map_append, List.sum_append]; simp
theorem sumO_snoc (l : List RF) (x : RF) : sumO (l ++ [x]) = sumO l + x.old := by
 unfold sumO; rw [List.map_append, List.sum_append]; simp
theorem sumB2_le {l : List RF} (hl : ∀ x ∈ l, x.data.length ≤ 32768) : sumB2 l ≤ 64 * l.length := by
 induction l with
 | nil => simp [sumB2]
 | cons y l ih =>
  have h1 := ih fun z hz => hl z (List.mem_cons_of_mem _ hz)
  have h2 := hl y (List.mem_cons_self ..)
  simp only [sumB2, List.map_cons, List.sum_cons, List.length_cons] at h1 ⊢
  have : blocksN y.data.length ≤ 64 := by unfold blocksN; omega
  omega
theorem sumO_le {l : List RF} (hl : ∀ x ∈ l, x.old ≤ 64) : sumO l ≤ 64 * l.length := by
 induction l with
 | nil => simp [sumO]
 | cons y l ih =>
  have h1 := ih fun z hz => hl z (List.mem_cons_of_mem _ hz)
  have h2 := hl y (List.mem_cons_self ..)
  simp only [sumO, List.map_cons, List.sum_cons, List.length_cons] at h1 ⊢
  omega
set_option maxRecDepth 100000 in
theorem rfree_ok (h : RAt w base rp room nv lv now lst) (hr : room ≤ 1000) (hl : now.length ≤ 100) (hll : lst.length ≤ 100) (hsm : ∀ x ∈ now, x.data.length ≤ 32768 ∧ x.old ≤ 64) (hsl : ∀ x ∈ lst, x.data.length ≤ 32768) :
  Calls Tryz.prog 74 #[.pointer (some ⟨rp, 0, none⟩)] w fun r w' => r = .returned (.int .i64 ((room : Int) - sumB2 lst - sumB2 now + sumO now)) ∧ Upd [] w w' := by
 obtain ⟨na, nc, rfl⟩ := h.now.slice
 obtain ⟨la, lc, rfl⟩ := h.lst.slice
 obtain ⟨n, hn⟩ : ∃ n, n = now.length := ⟨_, rfl⟩
 obtain ⟨m, hm⟩ : ∃ m, m = lst.length := ⟨_, rfl⟩
 obtain ⟨-, hnc, hncm⟩ := owF_len h.now
 obtain ⟨-, hlc, hlcm⟩ := owF_len h.lst
 rw [← hn] at hnc h hl
 rw [← hm] at hlc h hll
 have HC := Lib.hid fun i (hi : i < now.length) => owF_at h.now hi
 have HL := Lib.hid fun i (hi : i < lst.length) => owF_at h.lst hi
 rw [← hn] at HC
 rw [← hm] at HL
 have c0 := cell_blk h.box 0
 have c1 := cell_blk h.box 1
 have c2 := cell_blk h.box 2
 simp only [List.getElem?_toArray, List.getElem?_cons_zero, List.getElem?_cons_succ] at c0 c1 c2
 have HN := Lib.hid (And.intro hn hm)
 have HSM := Lib.hid (And.intro hsm hsl)
 clear h hn hm hsm hsl
 go_enter Tryz.func74, Tryz.ntmps74
 go_wp2_with fail
 go_loopg [3, 4] m (fun gh v3 v4 wr => ∃ i : Nat, v4 = .int .i64 i ∧ i ≤ m ∧ gh = m - i ∧ w = wr ∧ ∃ x : Int, v3 = .int .i64 x ∧ x = (room : Int) - sumB2 (lst.take i) ∧ -6500 ≤ x ∧ x ≤ 1000)
 case atStart => exact ⟨0, rfl, by omega, rfl, rfl, room, rfl, by simp [sumB2], by omega, by omega⟩
 case round =>
  obtain ⟨i, rfl, hi, rfl, rfl, x, rfl, hx, hx1, hx2⟩ := hrel
  by_cases hin : i < m
  ·have hin' : (i : Int) < (m : Int) := by omega
   obtain ⟨g, rfl, -, -, -, d1, -⟩ := HL.out i hin
   have hll2 : i < lst.length := by rw [← HN.out.2]; exact hin
   have hsu : sumB2 (lst.take (i + 1)) = sumB2 (lst.take i) + blocksN (lst.getD i RF.nil).data.length := by
    rw [take_snocR hll2, sumB2_snoc]
   have hle : sumB2 (lst.take (i + 1)) ≤ 64 * m := by
    refine Nat.le_trans (sumB2_le fun x hx => HSM.out.2 x (List.mem_of_mem_take hx)) ?_
    rw [List.length_take]
    omega
   have hdl : (lst.getD i RF.nil).data.length ≤ 32768 := by
    rw [List.getD_eq_getElem?_getD, List.getElem?_eq_getElem hll2]
    exact HSM.out.2 _ (List.getElem_mem _)
   have hds := strOf_size (lst.getD i RF.nil).data
   have HB := Lib.hid fun X : World => rblocks_ok X (lst.getD i RF.nil).data.length (by omega)
   have h1 := hle
   have hbk : blocksN (lst.getD i RF.nil).data.length ≤ 64 := by unfold blocksN; omega
   have hy : (room : Int) - sumB2 (lst.take (i + 1)) = x - blocksN (lst.getD i RF.nil).data.length := by rw [hsu, hx]; omega
   have hy1 : -6500 ≤ x - (blocksN (lst.getD i RF.nil).data.length : Int) := by rw [← hy]; omega
   have HY := Lib.hid hy
   clear hx hsu hle h1 hy
   generalize strOf (lst.getD i RF.nil).data = s1 at *
   generalize hbl : blocksN (lst.getD i RF.nil).data.length = bk at *
   generalize (lst.getD i RF.nil).data.length = k at *
   clear hbl
   go_wp2_with fail
   refine (HB.out _).mono ?_
   rintro r w2 ⟨rfl, rfl⟩
   go_wp2_with fail
   go_roundg (m - (i + 1))
   case measure => omega
   case rel => exact ⟨i + 1, by go_num, by omega, rfl, rfl, x - bk, by go_num, HY.out.symm, by omega, by omega⟩
  ·have hin' : ¬ (i : Int) < (m : Int) := by omega
   have hxx : x = (room : Int) - sumB2 lst := by
    rw [List.take_of_length_le (by rw [← HN.out.2]; omega)] at hx
    exact hx
   have HX := Lib.hid hxx
   clear hx hxx
   go_wp2_with fail
   go_loopg [3, 5] n (fun gh v3 v5 wr => ∃ i : Nat, v5 = .int .i64 i ∧ i ≤ n ∧ gh = n - i ∧ Hid (Upd [] w wr) ∧ ∃ y : Int, v3 = .int .i64 y ∧ Hid (y = x - sumB2 (now.take i) + sumO (now.take i)) ∧ -13000 ≤ y ∧ y ≤ 7500)
   case atStart => exact ⟨0, rfl, by omega, rfl, Lib.hid (Upd.refl [] w), x, rfl, Lib.hid (by simp [sumB2, sumO]), by omega, by omega⟩
   case round =>
    obtain ⟨j, rfl, hj, rfl, HU, y, rfl, HY, hy1, hy2⟩ := hrel
    obtain ⟨W, hW⟩ : ∃ W, W = wr := ⟨_, rfl⟩
    subst hW
    have e1 := held1 HU.out c1
    by_cases hjn : j < n
    ·have hjn' : (j : Int) < (n : Int) := by omega
     obtain ⟨g, rfl, -, -, -, d1, d2⟩ := HC.out j hjn
     have e2 := held1 HU.out d1
     have e3 := held1 HU.out d2
     have hll2 : j < now.length := by rw [← HN.out.1]; exact hjn
     have hsu : sumB2 (now.take (j + 1)) = sumB2 (now.take j) + blocksN (now.getD j RF.nil).data.length := by
      rw [take_snocR hll2, sumB2_snoc]
     have hso : sumO (now.take (j + 1)) = sumO (now.take j) + (now.getD j RF.nil).old := by
      rw [take_snocR hll2, sumO_snoc]
     have hle : sumB2 (now.take (j + 1)) ≤ 64 * n := by
      refine Nat.le_trans (sumB2_le fun x hx => (HSM.out.1 x (List.mem_of_mem_take hx)).1) ?_
      rw [List.length_take]
      omega
     have hlo : sumO (now.take (j + 1)) ≤ 64 * n := by
      refine Nat.le_trans (sumO_le fun x hx => (HSM.out.1 x (List.mem_of_mem_take hx)).2) ?_
      rw [List.length_take]
      omega
     have hmem := HSM.out.1 now[j] (List.getElem_mem hll2)
     have hgd : now.getD j RF.nil = now[j] := by rw [List.getD_eq_getElem?_getD, List.getElem?_eq_getElem hll2]; rfl
     rw [← hgd] at hmem
     have hds := strOf_size (now.getD j RF.nil).data
     have HB := Lib.hid fun X : World => rblocks_ok X (now.getD j RF.nil).data.length (by omega)
     have hbk : blocksN (now.getD j RF.nil).data.length ≤ 64 := by have := hmem.1; unfold blocksN; omega
     have hy := HY.out
     have hz : x - sumB2 (now.take (j + 1)) + sumO (now.take (j + 1)) = y - (blocksN (now.getD j RF.nil).data.length : Int) + ((now.getD j RF.nil).old : Int) := by rw [hsu, hso, hy]; omega
     have hz1 : -13000 ≤ y - (blocksN (now.getD j RF.nil).data.length : Int) + ((now.getD j RF.nil).old : Int) := by rw [← hz]; omega
     have hz2 : y - (blocksN (now.getD j RF.nil).data.length : Int) + ((now.getD j RF.nil).old : Int) ≤ 7500 := by rw [← hz]; omega
     have HZ := Lib.hid hz
     have hol := hmem.2
     clear hy hsu hso hle hlo hz d1 d2 hmem hgd
     generalize strOf (now.getD j RF.nil).data = s1 at *
     generalize hbl : blocksN (now.getD j RF.nil).data.length = bk at *
     generalize (now.getD j RF.nil).data.length = k at *
     generalize (now.getD j RF.nil).old = od at *
     clear hbl
     go_wp2_with fail
     go_quiet ((go_at_call 72; refine Calls.quiet_of_same ((HB.out _).mono fun r w' ⟨a, b⟩ => ⟨a, b.symm⟩)))
     have HU2 := Lib.hid (HU.out.drewN nq)
     clear e1 e2 e3
     generalize W.drewN nq = W2 at *
     go_wp2_with fail
     go_roundg (n - (j + 1))
     case measure => omega
     case rel => exact ⟨j + 1, by go_num, by omega, rfl, HU2, y - bk + od, by go_num, Lib.hid HZ.out.symm, hz1, hz2⟩
    ·have hjn' : ¬ (j : Int) < (n : Int) := by omega
     have hyy : y = (room : Int) - sumB2 lst - sumB2 now + sumO now := by
      have h := HY.out
      rw [List.take_of_length_le (by rw [← HN.out.1]; omega), HX.out] at h
      exact h
     have HYY := Lib.hid hyy
     clear hyy
     go_wp2_with fail
     go_ret
     exact ⟨by rw [← HYY.out]; rfl, HU.out⟩
end
end Go.Proofs.YteepgehjkcahiaaGreat
