/- The document's files: List (an insertion sort). Files as the document has them, and as they are: plain laws. A file system whose device went down says so. -/
import Derived.Test.YteepgehjkcahiaaGreatC41
namespace Go.Proofs.YteepgehjkcahiaaGreat
open Go.RowKit Go.Maps
theorem owT_set {w : World} {base g n c : Nat} {l : List Bs} (h : OwT w base (.slice (some ⟨g, 0, none⟩) n c) l) {i : Nat} (_hi : i < l.length) (s : Bs) : OwT (w.setCell ⟨g, i, none⟩ (.string (strOf s))) base (.slice (some ⟨g, 0, none⟩) n c) (l.set i s) := by
 obtain ⟨h0, h2⟩ := h
 have e : ∀ l : List Bs, flatG cT l = l.map fun x => Value.string (strOf x) := fun l => by
  induction l with
  | nil => rfl
  | cons x l ih => rw [List.map_cons, ← ih]; rfl
 rw [e] at h0
 refine ⟨by rw [e, List.length_map, Nat.mul_one], ?_⟩
 rw [List.length_set]
 rcases h2 with ⟨hv, -⟩ | ⟨g', cap, cur, hv, hg, hh, r1, r2, r3, r4⟩
 ·cases hv
 ·simp only [Value.slice.injEq, Option.some.injEq, Addr.mk.injEq] at hv
  obtain ⟨⟨rfl, -⟩, rfl, rfl⟩ := hv
  refine .inr ⟨g, c, cur.setIfInBounds i (.string (strOf s)), rfl, hg, by rw [heap_setCell, if_pos rfl, hh]; rfl, r1, r2, by rw [Array.size_setIfInBounds]; exact r3, ?_⟩
  rw [Array.toList_setIfInBounds, List.take_set, r4, e, e, List.map_set]
def leN (a b : Bs) : Prop := ltN b a = false
theorem leN_of_lt {a b : Bs} (h : ltN a b = true) : leN a b := ordN.asymm h
theorem leN_trans {a b c : Bs} (h : leN a b) (g : leN b c) : leN a c := by
 unfold leN at *
 cases hc : ltN c a with
 | false => rfl
 | true =>
  rcases ordN.total a b with e | e | e
  ·subst e; rw [hc] at g; cases g
  ·have := ordN.trans _ _ _ hc e; rw [this] at g; cases g
  ·rw [e] at h; cases h
theorem leN_antisymm {a b : Bs} (h : leN a b) (g : leN b a) : a = b := by
 rcases ordN.total a b with e | e | e
 ·exact e
 ·unfold leN at g; rw [e] at g; cases g
 ·unfold leN at h; rw [e] at h; cases h
def gtD (l : List Bs) (i : Nat) : Bs := l.getD i []
theorem gtD_set (l : List Bs) (i j : Nat) (x : Bs) (hi : i < l.length) : gtD (l.set i x) j = if i = j then x else gtD l j := by
 unfold gtD
 rw [List.getD_eq_getElem?_getD, List.getD_eq_getElem?_getD, List.getElem?_set]
 by_cases h : i = j
 ·rw [if_pos h, if_pos h, if_pos hi]; rfl
 ·rw [if_neg h, if_neg h]
def SrtN (l : List Bs) (n : Nat) : Prop := ∀ a b, a < b → b < n → leN (gtD l a) (gtD l b)
structure Ins (l : List Bs) (i k : Nat) : Prop where
 oth : ∀ a b, a < b → b ≤ i → a ≠ k → b ≠ k → leN (gtD l a) (gtD l b)
 beh : ∀ b, k < b → b ≤ i → leN (gtD l k) (gtD l b)
def swp (l : List Bs) (k : Nat) : List Bs := (l.set k (gtD l (k - 1))).set (k - 1) (gtD l k)
theorem swp_perm {l : List Bs} {k : Nat} (hk : k < l.length) (h0 : 0 < k) : (swp l k).Perm l := by
 have e1 : gtD l (k - 1) = l[k - 1] := by unfold gtD; rw [List.getD_eq_getElem?_getD, List.getElem?_eq_getElem (by omega)]; rfl
 have e2 : gtD l k = l[k] := by unfold gtD; rw [List.getD_eq_getElem?_getD, List.getElem?_eq_getElem hk]; rfl
 unfold swp
 rw [e1, e2]
 exact List.set_set_perm (by omega) (by omega)
theorem Ins.start {l : List Bs} {i : Nat} (h : SrtN l i) : Ins l i i where
 oth := fun a b hab hb _ hbk => h a b hab (by omega)
 beh := fun b h1 h2 => by omega
theorem Ins.step {l : List Bs} {i k : Nat} (h : Ins l i k) (hk : k ≤ i) (hi : i < l.length) (h0 : 0 < k) (hlt : ltN (gtD l k) (gtD l (k - 1)) = true) : Ins (swp l k) i (k - 1) := by
 have hg : ∀ j, gtD (swp l k) j = if j = k - 1 then gtD l k else if j = k then gtD l (k - 1) else gtD l j := fun j => by
  unfold swp
  rw [gtD_set _ _ _ _ (by rw [List.length_set]; omega), gtD_set _ _ _ _ (by omega)]
  by_cases q : j = k - 1
  ·rw [if_pos q.symm, if_pos q]
  ·rw [if_neg (fun e => q e.symm), if_neg q]
   by_cases q2 : j = k
   ·rw [if_pos q2.symm, if_pos q2]
   ·rw [if_neg (fun e => q2 e.symm), if_neg q2]
 refine ⟨fun a b hab hb ha hbk => ?_, fun b h1 h2 => ?_⟩
 ·rw [hg, hg, if_neg ha, if_neg hbk]
  by_cases q : a = k
  ·rw [if_pos q, if_neg (by omega)]
   exact h.oth (k - 1) b (by omega) hb (by omega) (by omega)
  ·rw [if_neg q]
   by_cases q2 : b = k
   ·rw [if_pos q2]
    exact h.oth a (k - 1) (by omega) (by omega) q (by omega)
   ·rw [if_neg q2]
    exact h.oth a b hab hb q q2
 ·rw [hg, hg, if_pos rfl, if_neg (by omega)]
  by_cases q : b = k
  ·rw [if_pos q]; exact leN_of_lt hlt
  ·rw [if_neg q]; exact h.beh b (by omega) h2
theorem Ins.stop {l : List Bs} {i k : Nat} (h : Ins l i k) (_hk : k ≤ i) (hs : k = 0 ∨ ltN (gtD l k) (gtD l (k - 1)) = false) : SrtN l (i + 1) := by
 intro a b hab hb
 by_cases q : a = k
 ·rw [q]; exact h.beh b (by omega) (by omega)
 ·by_cases q2 : b = k
  ·rw [q2]
   rcases hs with e | e
   ·omega
   ·have h1 : leN (gtD l (k - 1)) (gtD l k) := e
    by_cases q3 : a = k - 1
    ·rw [q3]; exact h1
    ·exact leN_trans (h.oth a (k - 1) (by omega) (by omega) q (by omega)) h1
  ·exact h.oth a b hab (by omega) q q2
theorem srtN_pair {l : List Bs} (h : SrtN l l.length) : l.Pairwise leN := by
 rw [List.pairwise_iff_getElem]
 intro a b ha hb hab
 have := h a b hab hb
 unfold gtD at this
 rw [List.getD_eq_getElem?_getD, List.getD_eq_getElem?_getD, List.getElem?_eq_getElem ha, List.getElem?_eq_getElem hb] at this
 exact this
theorem srt_same {l r : List Bs} (hl : l.Pairwise leN) (hr : r.Pairwise leN) (hp : l.Perm r) : l = r :=
 List.Perm.eq_of_pairwise (le := leN) (fun _ _ _ _ h1 h2 => leN_antisymm h1 h2) hl hr hp
section
variable {w w' : World} {base rp room : Nat} {nv lv : Value} {now lst : List RF}
set_option maxRecDepth 100000 in
set_option maxHeartbeats 4000000 in
theorem rlist_ok (h : RAt w base rp room nv lv now lst) (hl : now.length ≤ 100) :
  Calls Tryz.prog 73 #[.pointer (some ⟨rp, 0, none⟩)] w fun r w' => ∃ u, r = .returned u ∧ ∃ l : List Bs, OwT w' w.heap.size u l ∧ l.Perm (now.map (·.nm)) ∧ l.Pairwise leN ∧ Upd [] w w' := by
 obtain ⟨na, nc, rfl⟩ := h.now.slice
 obtain ⟨n, hn⟩ : ∃ n, n = now.length := ⟨_, rfl⟩
 obtain ⟨-, hnc, hncm⟩ := owF_len h.now
 rw [← hn] at hnc h hl
 have HC := Lib.hid fun i (hi : i < now.length) => owF_at h.now hi
 rw [← hn] at HC
 have c1 := cell_blk h.box 1
 simp only [List.getElem?_toArray, List.getElem?_cons_zero, List.getElem?_cons_succ] at c1
 have HN := Lib.hid hn
 clear h hn
 go_enter Tryz.func73, Tryz.ntmps73
 go_wp2_with fail
 go_loopg [3, 4] n (fun gh v3 v4 wr => ∃ (i m c : Nat) (a : Option Addr), v3 = .slice a m c ∧ v4 = .int .i64 i ∧ i ≤ n ∧ gh = n - i ∧ Hid (OwT wr w.heap.size (.slice a m c) ((now.take i).map (·.nm)) ∧ Upd [] w wr))
 case atStart => exact ⟨0, 0, 0, none, rfl, rfl, by omega, rfl, Lib.hid ⟨OwnG.nil _ _, Upd.refl [] w⟩⟩
 case round =>
  obtain ⟨i, m, c, a, rfl, rfl, hi, rfl, HS⟩ := hrel
  obtain ⟨W, hW⟩ : ∃ W, W = wr := ⟨_, rfl⟩
  subst hW
  have e1 := held1 HS.out.2 c1
  obtain ⟨-, hmc, hcm⟩ := owT_cap HS.out.1
  by_cases hin : i < n
  ·have hin' : (i : Int) < (n : Int) := by omega
   obtain ⟨g, rfl, -, -, d0, -, -⟩ := HC.out i hin
   have e2 := held1 HS.out.2 d0
   have hil : i < now.length := by rw [← HN.out]; exact hin
   have hsn : (now.take i).map (·.nm) ++ [(now.getD i RF.nil).nm] = (now.take (i + 1)).map (·.nm) := by
    rw [take_snocR hil, List.map_append]; rfl
   have hml : ((now.take i).map (·.nm)).length = i := by rw [List.length_map, List.length_take]; omega
   have HO : Hid (∀ X : Obj, OwT (W.alloc X) w.heap.size (.slice a m c) ((now.take i).map (·.nm))) := Lib.hid fun X => HS.out.1.upd ((Upd.refl [] W).alloc X) (by simp)
   have hob := HS.out.1.block
   generalize hLi : (now.take i).map (·.nm) = Li at *
   generalize hLj : (now.take (i + 1)).map (·.nm) = Lj at *
   have HSN := Lib.hid (And.intro hsn (And.intro hml (And.intro hLj hob)))
   have hsz := HS.out.2.size
   clear hsn hml d0 hLi hLj hob
   generalize (now.getD i RF.nil).nm = x at *
   go_wp2_with (first
    | (at_builtin; refine wpList_append_G TT rfl _ _ rfl (base := w.heap.size) (l := Li) (r := [x]) rfl (HO.out _) rfl (src_new TT (ty := 9) (heap_top _ _)) (oneT _) ?c1 ?c2 ?c3 ?_)
    | fail)
   case c1 => rw [HSN.out.2.1]; simp; omega
   case c2 => rw [HSN.out.2.1]; simp; omega
   case c3 => simp; omega
   intro v8 w8 ho8 hg8 hn8
   rw [HSN.out.1] at ho8
   obtain ⟨a8, c8, m8, hm8, rfl⟩ := ho8.sliceM
   have hu8 : Upd [] w w8 := ((HS.out.2).alloc _).grown hg8 (fun g hg => (HSN.out.2.2.2 g hg).1)
   have H8 := Lib.hid (And.intro ho8 hu8)
   clear ho8 hg8 hn8 hu8 hm8 HO e1 e2
   go_wp2_with fail
   go_roundg (n - (i + 1))
   case measure => omega
   case rel => exact ⟨i + 1, m8, c8, a8, rfl, by go_num, by omega, rfl, by rw [HSN.out.2.2.1]; exact H8⟩
  ·have hin' : ¬ (i : Int) < (n : Int) := by omega
   have hL : (now.take i).map (·.nm) = now.map (·.nm) := by rw [List.take_of_length_le (by rw [← HN.out]; omega)]
   have hO := HS.out.1
   rw [hL] at hO
   have hm : m = n := by
    have := (owT_cap hO).1
    rw [List.length_map, ← HN.out] at this
    exact this
   subst hm
   have H2 := Lib.hid (And.intro hO HS.out.2)
   clear hL hO
   go_wp2_with fail
   go_loopg [5, 6, 7] m (fun gh v5 v6 v7 wr => ∃ (j : Nat) (l : List Bs), v5 = .int .i64 j ∧ 1 ≤ j ∧ (j ≤ m ∨ j = 1) ∧ gh = m + 1 - j ∧ Hid (OwT wr w.heap.size (.slice a m c) l ∧ l.Perm (now.map (·.nm)) ∧ SrtN l j ∧ Upd [] w wr))
   case atStart => exact ⟨1, _, rfl, by omega, .inr rfl, by omega, Lib.hid ⟨H2.out.1, List.Perm.refl _, (fun a b h1 h2 => by omega), H2.out.2⟩⟩
   case round =>
    obtain ⟨j, l, rfl, hj1, hj2, rfl, HT⟩ := hrel
    have hlm : m = l.length := (owT_cap HT.out.1).1
    have HLM := Lib.hid hlm
    clear hlm
    by_cases hjm : j < m
    ·have hjm' : (j : Int) < (m : Int) := by omega
     go_wp2_with fail
     go_loopg [6, 7] (j + 1) (fun gh v6 v7 wr => ∃ (k : Nat) (l : List Bs), v6 = .int .i64 k ∧ k ≤ j ∧ gh = k + 1 ∧ Hid (OwT wr w.heap.size (.slice a m c) l ∧ l.Perm (now.map (·.nm)) ∧ Ins l j k ∧ Upd [] w wr))
     case atStart => exact ⟨j, l, rfl, by omega, rfl, Lib.hid ⟨HT.out.1, HT.out.2.1, Ins.start HT.out.2.2.1, HT.out.2.2.2⟩⟩
     case round =>
      obtain ⟨k, l, rfl, hk, rfl, HV⟩ := hrel
      obtain ⟨W, hW⟩ : ∃ W, W = wr := ⟨_, rfl⟩
      subst hW
      have hlm : m = l.length := (owT_cap HV.out.1).1
      by_cases hk0 : k = 0
      ·subst hk0
       have hg : decide ((0 : Int) < ((0 : Nat) : Int)) = false := rfl
       have HZ := Lib.hid (HV.out.2.2.1.stop hk (.inl rfl))
       clear hlm
       go_wp2_with fail
       go_quiet (fail)
       have HU := Lib.hid (HV.out.2.2.2.drewN nq)
       have HO := Lib.hid (HV.out.1.upd ((Upd.refl [] W).drewN nq) (by simp))
       generalize W.drewN nq = W2 at *
       go_wp2_with fail
       go_roundg (m + 1 - (j + 1))
       case measure => omega
       case rel => exact ⟨j + 1, l, by go_num, by omega, by omega, by omega, Lib.hid ⟨HO.out, HV.out.2.1, HZ.out, HU.out⟩⟩
      ·obtain ⟨k', rfl⟩ : ∃ k', k = k' + 1 := ⟨k - 1, by omega⟩
       have hg : decide ((0 : Int) < ((k' + 1 : Nat) : Int)) = true := by rw [decide_eq_true_iff]; omega
       obtain ⟨g, cap, hwv, hx1, hx2, d1⟩ := owT_at HV.out.1 (i := k' + 1) (by omega)
       obtain ⟨g', cap', hwv', -, -, d2⟩ := owT_at HV.out.1 (i := k') (by omega)
       rw [← hlm] at hwv hwv' hx1
       obtain ⟨rfl, -, rfl⟩ := Value.slice.inj hwv
       have hgg : g = g' := by simpa using (Value.slice.inj hwv').1
       subst hgg
       have hz1 : gtD l (k' + 1) = l.getD (k' + 1) [] := rfl
       have hz2 : gtD l k' = l.getD k' [] := rfl
       have hbl : Op.bytesLess (strOf (l.getD (k' + 1) [])).toList (strOf (l.getD k' [])).toList = ltN (gtD l (k' + 1)) (gtD l k') := by
        unfold ltN; rw [hz1, hz2]; simp [ByteArray.toList_eq, strOf_list]
       have hkj : k' + 1 ≤ j := hk
       have hlen1 : k' + 1 < l.length := by omega
       have hsw : ∀ q, OwT (((W.drewN q).setCell ⟨g, k' + 1, none⟩ (.string (strOf (l.getD k' [])))).setCell ⟨g, k', none⟩ (.string (strOf (l.getD (k' + 1) [])))) w.heap.size (.slice (some ⟨g, 0, none⟩) m c) (swp l (k' + 1)) := fun q => by
        have h0 := HV.out.1.upd ((Upd.refl [] W).drewN q) (by simp)
        have h1 := owT_set h0 hlen1 (gtD l k')
        exact owT_set h1 (i := k') (by rw [List.length_set]; omega) (gtD l (k' + 1))
       have HSW := Lib.hid hsw
       have f1 : ∀ o, W.frozen? ⟨g, o, none⟩ = false := by
        obtain ⟨-, -, -, h3⟩ := OwnG.at TT HV.out.1
        obtain ⟨g2, e2, -, hf, -⟩ := h3 k' (by omega)
        cases e2
        exact hf
       have hi1 : ((k' + 1 : Nat) : Int) < (m : Int) := by omega
       have hi2 : (k' : Int) < (m : Int) := by omega
       have hi0 : (0 : Int) ≤ (k' : Int) := by omega
       clear hwv hwv' hsw hlen1 hx1
       cases hlt : ltN (gtD l (k' + 1)) (gtD l k') with
       | true =>
        rw [hlt] at hbl
        have HZ := Lib.hid (HV.out.2.2.1.step hkj (by omega) (by omega) (by simpa using hlt))
        have hjl : j < l.length := by omega
        have hsp : (swp l (k' + 1)).Perm l := swp_perm (by omega) (by omega)
        have hgb : w.heap.size ≤ g := (HV.out.1.block g rfl).1
        have e2 : W.cell? ⟨g, k', none⟩ = some (.string (strOf (l.getD k' []))) := d2
        have HSP := Lib.hid hsp
        clear hlm hlt hjl hsp
        have HCE := Lib.hid (And.intro d1 d2)
        generalize hs1 : strOf (l.getD (k' + 1) []) = s1 at *
        generalize hs2 : strOf (l.getD k' []) = s2 at *
        have HS12 := Lib.hid (And.intro hs1 hs2)
        clear hs1 hs2 e2
        have hw1 : IntKind.i64.wrap (((k' + 1 : Nat) : Int) - 1) = (k' : Int) := by rw [IntKind.wrap_i64]; omega
        go_wp2_with fail
        go_quiet (fail)
        have k1 : (W.drewN nq).cell? ⟨g, k' + 1, none⟩ = some (.string s1) := held1 ((Upd.refl [] W).drewN nq) d1
        have k2 : (W.drewN nq).cell? ⟨g, k', none⟩ = some (.string s2) := held1 ((Upd.refl [] W).drewN nq) d2
        have k3 : ∀ o, (W.drewN nq).frozen? ⟨g, o, none⟩ = false := f1
        have hos := HSW.out nq
        have hu2 : Upd [] w (((W.drewN nq).setCell ⟨g, k' + 1, none⟩ (.string s2)).setCell ⟨g, k', none⟩ (.string s1)) := ((HV.out.2.2.2.drewN nq).setCellNew hgb _ _).setCellNew hgb _ _
        have HOS := Lib.hid (And.intro hos hu2)
        clear hos hu2
        have hkk : ((k' + 1 : Nat) : Int) - 1 = (k' : Int) := by omega
        clear hw1 hbl d1 d2 f1 hg HCE
        generalize W.drewN nq = W2 at *
        go_wp2_with fail
        have H9 : Hid (OwT ((W2.setCell ⟨g, k' + 1, none⟩ (.string s2)).setCell ⟨g, k', none⟩ (.string s1)) w.heap.size (.slice (some ⟨g, 0, none⟩) m c) (swp l (k' + 1)) ∧ (swp l (k' + 1)).Perm (now.map (·.nm)) ∧ Ins (swp l (k' + 1)) j k' ∧ Upd [] w ((W2.setCell ⟨g, k' + 1, none⟩ (.string s2)).setCell ⟨g, k', none⟩ (.string s1))) := Lib.hid ⟨HOS.out.1, HSP.out.trans HV.out.2.1, HZ.out, HOS.out.2⟩
        clear k1 k2 k3
        generalize (W2.setCell ⟨g, k' + 1, none⟩ (.string s2)).setCell ⟨g, k', none⟩ (.string s1) = w9 at *
        go_wp2_with fail
        go_roundg (k' + 1)
        case measure => omega
        case rel => exact ⟨k', swp l (k' + 1), by go_num, by omega, rfl, H9⟩
       | false =>
        rw [hlt] at hbl
        have HZ := Lib.hid (HV.out.2.2.1.stop hkj (.inr (by simpa using hlt)))
        clear hlm hlt hz1 hz2
        generalize strOf (l.getD (k' + 1) []) = s1 at *
        generalize strOf (l.getD k' []) = s2 at *
        have hw1 : IntKind.i64.wrap (((k' + 1 : Nat) : Int) - 1) = (k' : Int) := by rw [IntKind.wrap_i64]; omega
        go_wp2_with fail
        go_quiet (fail)
        have HU := Lib.hid (HV.out.2.2.2.drewN nq)
        have HO := Lib.hid (HV.out.1.upd ((Upd.refl [] W).drewN nq) (by simp))
        clear hw1 hbl d1 d2 f1 hg
        generalize W.drewN nq = W2 at *
        go_wp2_with fail
        go_roundg (m + 1 - (j + 1))
        case measure => omega
        case rel => exact ⟨j + 1, l, by go_num, by omega, by omega, by omega, Lib.hid ⟨HO.out, HV.out.2.1, HZ.out, HU.out⟩⟩
    ·have hjm' : ¬ (j : Int) < (m : Int) := by omega
     go_wp2_with fail
     go_ret
     refine ⟨_, rfl, l, HT.out.1, HT.out.2.1, srtN_pair ?_, HT.out.2.2.2⟩
     have h1 := HT.out.2.2.1
     have h2 := HLM.out
     intro x y hxy hy
     exact h1 x y hxy (by omega)
end
end Go.Proofs.YteepgehjkcahiaaGreat

namespace Go.Proofs.YteepgehjkcahiaaGreat
open Go.RowKit Go.Maps
def rfO (last : Files) (p : Bs × Fil) : RF := ⟨p.1, p.2.data, oldN last p.2⟩
structure Sim (fs last : Files) (now lst : List RF) : Prop where
 now : now.Perm (fs.map (rfO last))
 lst : lst.Perm (last.map (rfO last))
theorem sim_none {fs last : Files} {l : List RF} (h : l.Perm (fs.map (rfO last))) {nm : Bs} (hg : getA fs nm = none) : idxR l nm = none := by
 refine idxR_none.2 fun x hx e => ?_
 obtain ⟨p, hp, rfl⟩ := List.mem_map.1 (h.mem_iff.1 hx)
 exact getA_none.1 hg p hp e
theorem sim_some {fs last : Files} {l : List RF} (h : l.Perm (fs.map (rfO last))) (hs : Srt ltN fs) {nm : Bs} {f : Fil} (hg : getA fs nm = some f) : ∃ i, idxR l nm = some i ∧ l.getD i RF.nil = rfO last (nm, f) := by
 cases hi : idxR l nm with
 | none =>
  have := idxR_none.1 hi (rfO last (nm, f)) (h.mem_iff.2 (List.mem_map.2 ⟨_, getA_mem hg, rfl⟩))
  exact absurd rfl this
 | some i =>
  obtain ⟨hil, hnm⟩ := idxR_lt hi
  have hm : l.getD i RF.nil ∈ l := by
   rw [List.getD_eq_getElem?_getD, List.getElem?_eq_getElem hil]; exact List.getElem_mem hil
  obtain ⟨p, hp, he⟩ := List.mem_map.1 (h.mem_iff.1 hm)
  have hpn : p.1 = nm := by rw [← hnm, ← he]; rfl
  have hg2 := getA_of_mem ordN hs hp
  rw [hpn, hg] at hg2
  cases hg2
  refine ⟨i, rfl, ?_⟩
  rw [← he, ← hpn]
theorem oldN_le {room : Nat} {last : Files} {f : Fil} (h : FilOk room f) : oldN last f ≤ blocksN f.data.length := by
 unfold oldN
 rw [← h.blks_len]
 exact List.length_filter_le _ _
structure RSm (l : List RF) : Prop where
 len : l.length ≤ 64
 elt : ∀ x ∈ l, x.data.length ≤ 32768 ∧ x.old ≤ 64
theorem sim_small {room : Nat} {fs last : Files} {l : List RF} (h : l.Perm (fs.map (rfO last))) (hok : FilesOk room fs) : RSm l where
 len := by rw [h.length_eq, List.length_map]; exact hok.few
 elt := fun x hx => by
  obtain ⟨p, hp, rfl⟩ := List.mem_map.1 (h.mem_iff.1 hx)
  have h1 := hok.ok p hp
  have h2 := oldN_le (last := last) h1
  have h3 := h1.most
  refine ⟨h3, Nat.le_trans h2 ?_⟩
  unfold blocksN; omega
theorem sumB2_perm {a b : List RF} (h : a.Perm b) : sumB2 a = sumB2 b := (h.map _).sum_nat
theorem sumO_perm {a b : List RF} (h : a.Perm b) : sumO a = sumO b := (h.map _).sum_nat
theorem sumB2_map {room : Nat} {fs last : Files} (h : FilesOk room fs) : sumB2 (fs.map (rfO last)) = (allBlks fs).length := by
 rw [blks_sum h]
 unfold sumB2
 rw [List.map_map]
 rfl
theorem sumO_map (fs last : Files) : sumO (fs.map (rfO last)) = ((allBlks fs).filter fun b => decide (b ∈ allBlks last)).length := by
 induction fs with
 | nil => rfl
 | cons p l ih =>
  unfold sumO at ih ⊢
  rw [List.map_cons, List.map_cons, List.sum_cons, ih]
  show oldN last p.2 + _ = _
  simp only [allBlks, List.flatMap_cons, List.filter_append, List.length_append]
  rfl
theorem sim_free {l : Nat → Cell} {room k s : Nat} {fs last : Files} {now lst : List RF} (h : FsInv l room k s fs last) (hs : Sim fs last now lst) : freeRR room now lst = (freeN room fs last : Nat) := by
 have h1 := h.count
 have h3 := (List.filter_append_perm (fun b => decide (b ∈ allBlks last)) (allBlks fs)).length_eq
 rw [List.length_append] at h3
 unfold freeRR
 rw [sumB2_perm hs.lst, sumB2_perm hs.now, sumO_perm hs.now, sumB2_map h.was, sumB2_map h.now, sumO_map]
 omega
section
variable {room : Nat} {fs last : Files} {now lst : List RF}
theorem sim_codeC (hok : FilesOk room fs) (hs : Sim fs last now lst) (nm : Bs) : codeCR now nm = codeC false fs nm := by
 unfold codeCR codeC
 rw [if_neg Bool.false_ne_true]
 have hl : now.length = fs.length := by rw [hs.now.length_eq, List.length_map]
 by_cases h1 : 1 ≤ nm.length ∧ nm.length ≤ 40
 ·have h2 : ¬ (nm.length = 0 ∨ 40 < nm.length) := by omega
  cases hg : getA fs nm with
  | none => rw [sim_none hs.now hg, if_pos h1, if_neg h2]; simp [hl]
  | some f => obtain ⟨i, hi, -⟩ := sim_some hs.now hok.srt hg; rw [hi, if_pos h1, if_neg h2]; rfl
 ·rw [if_neg h1, if_pos (by omega)]
theorem sim_create (hok : FilesOk room fs) (hs : Sim fs last now lst) (nm : Bs) : Sim (crtF fs nm) last (createR now nm) lst := by
 refine ⟨?_, hs.lst⟩
 unfold createR crtF
 rw [sim_codeC hok hs]
 by_cases hc : codeC false fs nm = 0
 ·rw [if_pos hc, if_pos hc]
  have hg := (codeC_zero hc).2.1
  have hp := (putA_perm ordN hok.srt nm emptyF).map (rfO last)
  rw [delA_none hg] at hp
  have e : rfO last (nm, emptyF) = ⟨nm, [], 0⟩ := rfl
  rw [List.map_cons, e] at hp
  exact (List.perm_append_singleton _ _).trans ((hs.now.cons _).trans hp.symm)
 ·rw [if_neg hc, if_neg hc]; exact hs.now
theorem idx_split {l : List RF} {nm : Bs} {i : Nat} (hi : idxR l nm = some i) : l.Perm (l.getD i RF.nil :: (l.take i ++ l.drop (i + 1))) := by
 have hil := (idxR_lt hi).1
 have e : l = l.take i ++ l.getD i RF.nil :: l.drop (i + 1) := by
  rw [List.getD_eq_getElem?_getD, List.getElem?_eq_getElem hil]; simp
 conv => lhs; rw [e]
 exact List.perm_middle
theorem map_split {nm : Bs} {f : Fil} (hs : Srt ltN fs) (hg : getA fs nm = some f) (last : Files) : (fs.map (rfO last)).Perm (rfO last (nm, f) :: (delA fs nm).map (rfO last)) := by
 have hp := putA_perm ordN hs nm f
 have e : putA ltN fs nm f = fs := srt_ext ordN (srt_putA ordN hs nm f) hs fun k => by
  rw [getA_putA ordN hs]
  by_cases q : nm = k
  ·rw [if_pos q, ← q, hg]
  ·rw [if_neg q]
 rw [e] at hp
 exact hp.map (rfO last)
theorem sim_rest (hok : FilesOk room fs) (h : now.Perm (fs.map (rfO last))) {nm : Bs} {f : Fil} (hg : getA fs nm = some f) {i : Nat} (hi : idxR now nm = some i) : (now.take i ++ now.drop (i + 1)).Perm ((delA fs nm).map (rfO last)) := by
 obtain ⟨j, hj, he⟩ := sim_some h hok.srt hg
 rw [hi] at hj
 cases hj
 have h1 := idx_split hi
 rw [he] at h1
 exact List.Perm.cons_inv ((h1.symm.trans h).trans (map_split hok.srt hg last))
theorem sim_codeM (hok : FilesOk room fs) (hs : Sim fs last now lst) (nm : Bs) : codeMR now nm = codeF false fs nm := by
 unfold codeMR codeF
 rw [if_neg Bool.false_ne_true]
 cases hg : getA fs nm with
 | none => rw [sim_none hs.now hg]; rfl
 | some f => obtain ⟨i, hi, -⟩ := sim_some hs.now hok.srt hg; rw [hi]; rfl
theorem sim_rmv (hok : FilesOk room fs) (h : now.Perm (fs.map (rfO last))) (nm : Bs) : (rmvR now nm).Perm ((delA fs nm).map (rfO last)) := by
 unfold rmvR
 cases hg : getA fs nm with
 | none => rw [sim_none h hg, delA_none hg]; exact h
 | some f => obtain ⟨i, hi, -⟩ := sim_some h hok.srt hg; rw [hi]; exact sim_rest hok h hg hi
theorem sim_remove (hok : FilesOk room fs) (hs : Sim fs last now lst) (nm : Bs) : Sim (delA fs nm) last (rmvR now nm) lst := ⟨sim_rmv hok hs.now nm, hs.lst⟩
theorem set_perm {l : List RF} {nm : Bs} {i : Nat} (hi : idxR l nm = some i) (y : RF) : (l.set i y).Perm (y :: (l.take i ++ l.drop (i + 1))) := by
 have hil := (idxR_lt hi).1
 rw [List.set_eq_take_append_cons_drop, if_pos hil]
 exact List.perm_middle
theorem sim_codeA {l : Nat → Cell} {k s : Nat} (h : FsInv l room k s fs last) (hs : Sim fs last now lst) (nm : Bs) (n : Nat) : codeAR room now lst nm n = codeP room fs last nm n := by
 unfold codeAR codeP
 cases hg : getA fs nm with
 | none => rw [sim_none hs.now hg]
 | some f =>
  obtain ⟨i, hi, he⟩ := sim_some hs.now h.now.srt hg
  rw [hi]
  dsimp only
  rw [he, sim_free h hs]
  show (if 32768 < f.data.length + n then 84 else if ((freeN room fs last : Nat) : Int) < _ then 85 else 0) = _
  have hm : blocksN f.data.length ≤ blocksN (f.data.length + n) := by unfold blocksN; omega
  have e : (((freeN room fs last : Nat) : Int) < ((blocksN (f.data.length + n) : Nat) : Int) - (blocksN f.data.length : Nat)) ↔ freeN room fs last < needN f n := by unfold needN; omega
  by_cases q : 32768 < f.data.length + n
  ·rw [if_pos q, if_pos q]
  ·rw [if_neg q, if_neg q]
   by_cases q2 : freeN room fs last < needN f n
   ·rw [if_pos q2]; exact if_pos (e.2 q2)
   ·rw [if_neg q2]; exact if_neg fun q3 => q2 (e.1 q3)
theorem oldN_grow {f : Fil} {d : Bs} : oldN last (growF room fs last f d) = oldN last f := by
 unfold oldN growF
 rw [grown_blks, List.filter_append, List.length_append]
 have : (expand (takeR (freesF room fs last) (needN f d.length))).filter (fun b => decide (b ∈ allBlks last)) = [] := by
  rw [List.filter_eq_nil_iff]
  intro b hb
  rw [expand_takeR] at hb
  have := (mem_freesF.1 (List.mem_of_mem_take hb)).2.2
  simpa using this
 rw [this]
 rfl
theorem sim_append {l : Nat → Cell} {k s : Nat} (h : FsInv l room k s fs last) (hs : Sim fs last now lst) (nm d : Bs) : Sim (apdF room fs last nm d) last (appR room now lst nm d) lst := by
 refine ⟨?_, hs.lst⟩
 unfold apdF
 rw [← sim_codeA h hs]
 cases hg : getA fs nm with
 | none =>
  have hi := sim_none hs.now hg
  have e1 : appR room now lst nm d = now := by unfold appR; rw [hi]
  have e2 : codeAR room now lst nm d.length ≠ 0 := by unfold codeAR; rw [hi]; exact (by decide : (80 : Nat) ≠ 0)
  rw [e1, if_neg e2]; exact hs.now
 | some f =>
  obtain ⟨i, hi, he⟩ := sim_some hs.now h.now.srt hg
  unfold appR
  rw [hi]
  dsimp only
  by_cases hc : codeAR room now lst nm d.length = 0
  ·rw [if_pos hc, if_pos hc, he]
   unfold appF
   rw [hg]
   have hp := (putA_perm ordN h.now.srt nm (growF room fs last f d)).map (rfO last)
   rw [List.map_cons] at hp
   have e : rfO last (nm, growF room fs last f d) = ⟨nm, f.data ++ d, oldN last f⟩ := by
    unfold rfO; rw [oldN_grow]; rfl
   rw [e] at hp
   exact (set_perm hi _).trans (((sim_rest h.now hs.now hg hi).cons _).trans hp.symm)
  ·rw [if_neg hc, if_neg hc]; exact hs.now
theorem sim_codeN (hok : FilesOk room fs) (hs : Sim fs last now lst) (a b : Bs) : codeNR now a b = codeN false fs a b := by
 unfold codeNR codeN
 rw [if_neg Bool.false_ne_true]
 cases hg : getA fs a with
 | none => rw [sim_none hs.now hg]; rfl
 | some f =>
  obtain ⟨i, hi, -⟩ := sim_some hs.now hok.srt hg
  rw [hi]
  dsimp only
  by_cases h1 : 1 ≤ b.length ∧ b.length ≤ 40
  ·have h2 : ¬ (b.length = 0 ∨ 40 < b.length) := by omega
   rw [if_pos h1, if_pos (show (some f).isSome = true from rfl), if_neg h2]
  ·have h2 : b.length = 0 ∨ 40 < b.length := by omega
   rw [if_neg h1, if_pos (show (some f).isSome = true from rfl), if_pos h2]
theorem sim_ren_some (hok : FilesOk room fs) (hs : Sim fs last now lst) {a b : Bs} (hab : a ≠ b) (ha : (idxR now a).isSome) : (idxR (rmvR now b) a).isSome := by
 cases hg : getA fs a with
 | none => rw [sim_none hs.now hg] at ha; cases ha
 | some f =>
  have hg2 : getA (delA fs b) a = some f := by rw [getA_delA, if_neg (Ne.symm hab), hg]
  obtain ⟨i, hi, -⟩ := sim_some (sim_rmv hok hs.now b) (srt_delA hok.srt b) hg2
  rw [hi]; rfl
theorem sim_rename (hok : FilesOk room fs) (hs : Sim fs last now lst) (a b : Bs) : Sim (renF fs a b) last (renR now a b) lst := by
 refine ⟨?_, hs.lst⟩
 unfold renR renF
 rw [sim_codeN hok hs]
 by_cases hc : codeN false fs a b ≠ 0 ∨ a = b
 ·rw [if_pos hc, if_pos hc]; exact hs.now
 ·rw [if_neg hc, if_neg hc]
  have hab : a ≠ b := fun e => hc (.inr e)
  have hc0 : codeN false fs a b = 0 := Classical.not_not.1 fun e => hc (.inl e)
  cases hg : getA fs a with
  | none => unfold codeN at hc0; rw [if_neg Bool.false_ne_true, hg] at hc0; cases hc0
  | some f =>
   have hg2 : getA (delA fs b) a = some f := by rw [getA_delA, if_neg (Ne.symm hab), hg]
   have hok2 := del_ok hok b
   have hrm := sim_rmv hok hs.now b
   obtain ⟨i, hi, he⟩ := sim_some hrm hok2.srt hg2
   rw [hi]
   dsimp only
   rw [he]
   have hp := (putA_perm ordN (srt_delA hok2.srt a) b f).map (rfO last)
   have e2 : delA (delA (delA fs b) a) b = delA (delA fs b) a := delA_none (by rw [getA_delA, if_neg hab, getA_delA, if_pos rfl])
   rw [e2, List.map_cons] at hp
   exact (set_perm hi _).trans (((sim_rest hok2 hrm hg2 hi).cons _).trans hp.symm)
theorem sim_size (hok : FilesOk room fs) (hs : Sim fs last now lst) (nm : Bs) : sizeR now nm = sizeF fs nm := by
 unfold sizeR sizeF
 cases hg : getA fs nm with
 | none => rw [sim_none hs.now hg]
 | some f => obtain ⟨i, hi, he⟩ := sim_some hs.now hok.srt hg; rw [hi]; dsimp only; rw [he]; rfl
theorem sim_read (hok : FilesOk room fs) (hs : Sim fs last now lst) (nm : Bs) (at_ n : Int) : codeQ now nm at_ n = codeR fs nm at_ n ∧ (codeR fs nm at_ n = 0 → dataQ now nm at_ n = dataR fs nm at_ n) ∧ (codeR fs nm at_ n ≠ 0 → dataQ now nm at_ n = []) := by
 unfold codeQ codeR dataQ dataR
 cases hg : getA fs nm with
 | none => rw [sim_none hs.now hg]; exact ⟨rfl, fun _ => rfl, fun _ => rfl⟩
 | some f =>
  obtain ⟨i, hi, he⟩ := sim_some hs.now hok.srt hg
  rw [hi]
  dsimp only
  rw [he]
  show (if at_ < 0 ∨ ((f.data.length : Nat) : Int) < at_ ∨ n < 0 then 1 else 0) = _ ∧ _
  refine ⟨rfl, fun hc => ?_, fun hc => ?_⟩
  ·by_cases q : at_ < 0 ∨ ((f.data.length : Nat) : Int) < at_ ∨ n < 0
   ·rw [if_pos q] at hc; cases hc
   ·exact if_neg q
  ·by_cases q : at_ < 0 ∨ ((f.data.length : Nat) : Int) < at_ ∨ n < 0
   ·exact if_pos q
   ·rw [if_neg q] at hc; exact absurd rfl hc
def SimC (fs : Files) (l : List RF) : Prop := (l.map fun x => (x.nm, x.data)).Perm (fs.map fun p => (p.1, p.2.data))
theorem Sim.c (hs : Sim fs last now lst) : SimC fs now ∧ SimC last lst := by
 have h1 := hs.now.map fun x : RF => (x.nm, x.data)
 have h2 := hs.lst.map fun x : RF => (x.nm, x.data)
 rw [List.map_map] at h1 h2
 exact ⟨h1, h2⟩
theorem oldN_all (hok : FilesOk room fs) {p : Bs × Fil} (hp : p ∈ fs) : oldN fs p.2 = blocksN p.2.data.length := by
 unfold oldN
 rw [List.filter_eq_self.2, (hok.ok p hp).blks_len]
 intro b hb
 simpa using mem_all hp hb
theorem SimC.sync (hok : FilesOk room fs) (h : SimC fs now) : Sim fs fs (now.map syF) (now.map syF) := by
 have h1 := List.Perm.map (fun y : Bs × Bs => (⟨y.1, y.2, blocksN y.2.length⟩ : RF)) h
 rw [List.map_map, List.map_map] at h1
 have e : fs.map ((fun y : Bs × Bs => (⟨y.1, y.2, blocksN y.2.length⟩ : RF)) ∘ fun p => (p.1, p.2.data)) = fs.map (rfO fs) := by
  refine List.map_congr_left fun p hp => ?_
  show (⟨p.1, p.2.data, _⟩ : RF) = ⟨p.1, p.2.data, _⟩
  rw [oldN_all hok hp]
 rw [e] at h1
 exact ⟨h1, h1⟩
theorem sim_reset (hs : Sim fs last now lst) : Sim last last lst lst := ⟨hs.lst, hs.lst⟩
theorem sim_names (hok : FilesOk room fs) {l : List Bs} (hl : l.Pairwise leN) (hp : l.Perm (now.map (·.nm))) (hs : now.Perm (fs.map (rfO last))) : l = namesF fs := by
 have h1 := hs.map (·.nm)
 rw [List.map_map] at h1
 refine srt_same hl ?_ (hp.trans h1)
 unfold namesF
 rw [List.pairwise_map]
 exact List.Pairwise.imp (fun h => leN_of_lt h) hok.srt
end
end Go.Proofs.YteepgehjkcahiaaGreat

namespace Go.Proofs.YteepgehjkcahiaaGreat
open Go.RowKit Go.Maps
section
variable {w0 w w' : World} {v p room : Nat} {c : Nat} {G : List Nat} {P : Files → Prop}
theorem Fl.use (h : Fl w0 w v p room P c G) : Calls Tryz.prog 41 #[.pointer (some ⟨v, 0, none⟩)] w fun r w' => r = .returned (.int .i64 2) ∧ Fl w0 w' v p room P c G ∧ Stay G w w' := by
 obtain ⟨D, F, h1, h2, h3, h4, h5, h6⟩ := h.st
 obtain ⟨j, cc, q, mf, ml, va, dead, n, k, ld, hb, hl, ⟨F0, hd, hF, hv0, hj0⟩, hn, hvj, hvF, hjF⟩ := h1.ex
 refine (fuse_ok' w hb hl hd hn hvj).mono fun r w' ⟨e, hb', hl', hu⟩ => ?_
 have hdn : (ld || D.down) = true := by rw [h1.down, Bool.or_true]
 rw [hdn] at e hb' hl'
 rw [Bool.or_true] at e hb'
 rw [if_pos rfl] at e
 have hG : ∀ i ∈ G, i ∉ [v, j] := fun i hi q => by
  rcases (by simpa using q : i = v ∨ i = j) with q | q
  ·exact h5 i hi (by rw [q]; exact hvF)
  ·exact h5 i hi (by rw [q]; exact hjF)
 refine ⟨e, ⟨⟨D, F, ⟨⟨j, cc, q, mf, ml, va, true, n, k, _, hb', hl', ⟨F0, hd.upd hu fun i hi q => ?_, hF, hv0, hj0⟩, hn, hvj, hvF, hjF⟩, h1.down⟩, h2, h3, h4, h5, h6⟩, h.upd.next hu fun i hi hlt => ?_, fun i hi => Nat.lt_of_lt_of_le (h.lt i hi) hu.size, h.one⟩, ⟨_, hu, hG⟩⟩
 ·rcases (by simpa using q : i = v ∨ i = j) with q | q
  ·rw [q] at hi; exact hv0 hi
  ·rw [q] at hi; exact hj0 hi
 ·rcases (by simpa using hi : i = v ∨ i = j) with q | q
  ·have := h2 v hvF; omega
  ·have := h2 j hjF; omega
theorem Fl.keep (h : Fl w0 w v p room P c G) (u : Upd [] w w') : Fl w0 w' v p room P c G := by
 obtain ⟨D, F, h1, h2, h3, h4, h5, h6⟩ := h.st
 obtain ⟨j, cc, q, mf, ml, va, dead, n, k, ld, hb, hl, ⟨F0, hd, hF, hv0, hj0⟩, hn⟩ := h1.ex
 exact ⟨⟨D, F, ⟨⟨j, cc, q, mf, ml, va, dead, n, k, ld, (u.block v (lt_of_blk hb) (by simp)).trans hb, hl.upd u (by simp), ⟨F0, hd.upd u (by simp), hF, hv0, hj0⟩, hn⟩, h1.down⟩, h2, h3, h4, h5, h6⟩, h.upd.trans u, fun i hi => Nat.lt_of_lt_of_le (h.lt i hi) u.size, h.one⟩
set_option maxRecDepth 100000 in
theorem Fl.find (h : Fl w0 w v p room P c G) (nm : Value) : Calls Tryz.prog 44 #[.pointer (some ⟨v, 0, none⟩), nm] w fun r w' => r = .returned (.tuple #[.pointer none, .int .i64 2]) ∧ Fl w0 w' v p room P c G ∧ Stay G w w' := by
 have HU := Lib.hid h.use
 go_enter Tryz.func44, Tryz.ntmps44
 go_wp2_with fail
 refine HU.out.mono ?_
 rintro r w1 ⟨rfl, h1⟩
 have H1 := Lib.hid h1
 clear h1
 go_wp2_with fail
 go_ret2
 exact ⟨rfl, H1.out⟩
set_option maxRecDepth 100000 in
theorem Fl.create (h : Fl w0 w v p room P c G) (nm : Value) : Calls Tryz.prog 15 #[.pointer (some ⟨v, 0, none⟩), nm] w fun r w' => r = .returned (.int .i64 2) ∧ Fl w0 w' v p room P c G ∧ Stay G w w' := by
 have HU := Lib.hid h.use
 go_enter Tryz.func15, Tryz.ntmps15
 go_wp2_with fail
 refine HU.out.mono ?_
 rintro r w1 ⟨rfl, h1⟩
 have H1 := Lib.hid h1
 clear h1
 go_wp2_with fail
 go_ret
 exact ⟨rfl, H1.out⟩
set_option maxRecDepth 100000 in
theorem Fl.sync (h : Fl w0 w v p room P c G) : Calls Tryz.prog 18 #[.pointer (some ⟨v, 0, none⟩)] w fun r w' => r = .returned (.int .i64 2) ∧ Fl w0 w' v p room P c G ∧ Stay G w w' := by
 have HU := Lib.hid h.use
 go_enter Tryz.func18, Tryz.ntmps18
 go_wp2_with fail
 refine HU.out.mono ?_
 rintro r w1 ⟨rfl, h1⟩
 have H1 := Lib.hid h1
 clear h1
 go_wp2_with fail
 go_ret
 exact ⟨rfl, H1.out⟩
set_option maxRecDepth 100000 in
theorem Fl.append (h : Fl w0 w v p room P c G) (nm dv : Value) : Calls Tryz.prog 16 #[.pointer (some ⟨v, 0, none⟩), nm, dv] w fun r w' => r = .returned (.int .i64 2) ∧ Fl w0 w' v p room P c G ∧ Stay G w w' := by
 have HU := Lib.hid (h.find nm)
 go_enter Tryz.func16, Tryz.ntmps16
 go_wp2_with fail
 refine HU.out.mono ?_
 rintro r w1 ⟨rfl, h1⟩
 have H1 := Lib.hid h1
 clear h1
 go_wp2_with fail
 go_ret
 exact ⟨rfl, H1.out⟩
set_option maxRecDepth 100000 in
theorem Fl.remove (h : Fl w0 w v p room P c G) (nm : Value) : Calls Tryz.prog 19 #[.pointer (some ⟨v, 0, none⟩), nm] w fun r w' => r = .returned (.int .i64 2) ∧ Fl w0 w' v p room P c G ∧ Stay G w w' := by
 have HU := Lib.hid (h.find nm)
 go_enter Tryz.func19, Tryz.ntmps19
 go_wp2_with fail
 refine HU.out.mono ?_
 rintro r w1 ⟨rfl, h1⟩
 have H1 := Lib.hid h1
 clear h1
 go_wp2_with fail
 go_ret
 exact ⟨rfl, H1.out⟩
set_option maxRecDepth 100000 in
theorem Fl.rename (h : Fl w0 w v p room P c G) (a b : Value) : Calls Tryz.prog 21 #[.pointer (some ⟨v, 0, none⟩), a, b] w fun r w' => r = .returned (.int .i64 2) ∧ Fl w0 w' v p room P c G ∧ Stay G w w' := by
 have HU := Lib.hid (h.find a)
 go_enter Tryz.func21, Tryz.ntmps21
 go_wp2_with fail
 refine HU.out.mono ?_
 rintro r w1 ⟨rfl, h1⟩
 have H1 := Lib.hid h1
 clear h1
 go_wp2_with fail
 go_ret
 exact ⟨rfl, H1.out⟩
set_option maxRecDepth 100000 in
theorem Fl.read (h : Fl w0 w v p room P c G) (nm a b : Value) : Calls Tryz.prog 20 #[.pointer (some ⟨v, 0, none⟩), nm, a, b] w fun r w' => r = .returned (.tuple #[.slice none 0 0, .int .i64 2]) ∧ Fl w0 w' v p room P c G ∧ Stay G w w' := by
 have HU := Lib.hid (h.find nm)
 go_enter Tryz.func20, Tryz.ntmps20
 go_wp2_with fail
 refine HU.out.mono ?_
 rintro r w1 ⟨rfl, h1⟩
 have H1 := Lib.hid h1
 clear h1
 go_wp2_with fail
 go_ret2
 exact ⟨rfl, H1.out⟩
set_option maxRecDepth 100000 in
theorem Fl.size (h : Fl w0 w v p room P c G) (nm : Value) : Calls Tryz.prog 24 #[.pointer (some ⟨v, 0, none⟩), nm] w fun r w' => r = .returned (.tuple #[.int .i64 0, .int .i64 2]) ∧ Fl w0 w' v p room P c G ∧ Stay G w w' := by
 have HU := Lib.hid (h.find nm)
 have HZ := Lib.hid fun X : World => isize_nil X
 go_enter Tryz.func24, Tryz.ntmps24
 go_wp2_with fail
 refine HU.out.mono ?_
 rintro r w1 ⟨rfl, h1⟩
 have H1 := Lib.hid h1
 clear h1
 go_wp2_with fail
 refine (HZ.out _).mono ?_
 rintro r w2 ⟨rfl, rfl⟩
 go_wp2_with fail
 go_ret2
 exact ⟨rfl, H1.out⟩
theorem Fl.guardF (h : Fl w0 w v p room P c G) {F1 : List Nat} (u : Upd F1 w w') (hF1 : ∀ i ∈ F1, i ∈ G ∧ w0.heap.size ≤ i) {G' : List Nat} (hg : ∀ b ∈ G', w.heap.size ≤ b ∧ b < w'.heap.size) : Fl w0 w' v p room P c (G' ++ G) := by
 obtain ⟨D, F, h1, h2, h3, h4, h5, h6⟩ := h.st
 obtain ⟨j, cc, q, mf, ml, va, dead, n, k, ld, hb, hl, ⟨F0, hd, hF, hv0, hj0⟩, hn, hvj, hvF, hjF⟩ := h1.ex
 have hsub : ∀ i ∈ v :: j :: F0, i ∈ F ∧ i < w.heap.size := fun i hi => by
  rcases List.mem_cons.1 hi with rfl | hi
  ·exact ⟨hvF, lt_of_blk hb⟩
  ·rcases List.mem_cons.1 hi with rfl | hi
   ·exact ⟨hjF, lt_of_blk hl⟩
   ·exact ⟨hF i hi, hd.lt i hi⟩
 have hoff : ∀ i ∈ v :: j :: F0, i ∉ F1 := fun i hi q => h5 i (hF1 i q).1 (hsub i hi).1
 refine ⟨⟨D, v :: j :: F0, ⟨⟨j, cc, q, mf, ml, va, dead, n, k, ld, (u.block v (lt_of_blk hb) (hoff v (by simp))).trans hb, hl.upd u (hoff j (by simp)), ⟨F0, hd.upd u fun i hi => hoff i (by simp [hi]), fun i hi => by simp [hi], hv0, hj0⟩, hn, hvj, by simp, by simp⟩, h1.down⟩, fun i hi => h2 i (hsub i hi).1, h3, h4, fun i hi q => ?_, h6⟩, h.upd.next u fun i hi hlt => by have := (hF1 i hi).2; omega, fun i hi => ?_, h.one⟩
 ·rcases List.mem_append.1 hi with e | e
  ·have := (hg i e).1; have := (hsub i q).2; omega
  ·exact h5 i e (hsub i q).1
 ·rcases List.mem_append.1 hi with e | e
  ·exact (hg i e).2
  ·exact Nat.lt_of_lt_of_le (h.lt i e) u.size
theorem Fl.sub {G' : List Nat} (h : Fl w0 w v p room P c G) (hs : ∀ i ∈ G', i ∈ G) : Fl w0 w v p room P c G' := by
 obtain ⟨D, F, h1, h2, h3, h4, h5, h6⟩ := h.st
 exact ⟨⟨D, F, h1, h2, h3, h4, fun i hi => h5 i (hs i hi), h6⟩, h.upd, fun i hi => h.lt i (hs i hi), h.one⟩
abbrev boxC (x : CallR) : Obj := .cells #[.int .i64 x.kind, .string x.nm, .string x.dst, x.dv, .int .i64 x.at_, .int .i64 x.n, x.pv] 49 (0, 0)
theorem boxC_at {w : World} {b : Nat} {x : CallR} (h : w.heap[b]? = some (boxC x)) : w.cell? ⟨b, 0, none⟩ = some (.int .i64 x.kind) ∧ w.cell? ⟨b, 1, none⟩ = some (.string x.nm) ∧ w.cell? ⟨b, 2, none⟩ = some (.string x.dst) ∧ w.cell? ⟨b, 3, none⟩ = some x.dv ∧ w.cell? ⟨b, 4, none⟩ = some (.int .i64 x.at_) ∧ w.cell? ⟨b, 5, none⟩ = some (.int .i64 x.n) ∧ w.cell? ⟨b, 6, none⟩ = some x.pv :=
 ⟨cell_blk h 0, cell_blk h 1, cell_blk h 2, cell_blk h 3, cell_blk h 4, cell_blk h 5, cell_blk h 6⟩
structure FlB (w0 w : World) (v p room : Nat) (P : Files → Prop) (c : Nat) (G : List Nat) (B : Nat) (x : CallR) : Prop where
 fl : Fl w0 w v p room P c (B :: G)
 box : w.heap[B]? = some (boxC x)
theorem FlB.step {B : Nat} {x : CallR} (h : FlB w0 w v p room P c G B x) (h' : Fl w0 w' v p room P c (B :: G) ∧ Stay (B :: G) w w') : FlB w0 w' v p room P c G B x :=
 ⟨h'.1, (h'.2.block (lt_of_blk h.box) (by simp)).trans h.box⟩
set_option maxRecDepth 100000 in
set_option maxHeartbeats 4000000 in
theorem Fl.silent (h : Fl w0 w v p room P c G) (x : CallR) (pa qa : Option Addr) (pl pc ql qc : Nat) (hdv : x.dv = .slice pa pl pc) (hpv : x.pv = .slice qa ql qc) : Calls Tryz.prog 39 #[.pointer (some ⟨v, 0, none⟩), aggC x] w fun r w' => r = .returned (.bool true) ∧ Fl w0 w' v p room P c G ∧ Stay G w w' := by
 have hb0 : FlB w0 (w.alloc (boxC x)) v p room P c G w.heap.size x := ⟨h.guardF ((Upd.refl [] w).alloc _) (by simp) (G' := [w.heap.size]) (by intro b hb; obtain rfl := List.mem_singleton.1 hb; exact ⟨Nat.le_refl _, by simp⟩), heap_top _ _⟩
 have hst0 : Stay G w (w.alloc (boxC x)) := .of ((Upd.refl [] w).alloc _)
 have hGl : ∀ i ∈ G, i ∈ w.heap.size :: G := fun i hi => List.mem_cons_of_mem _ hi
 obtain ⟨kind, nm, dst, dv, d, at_, n, pv, pk⟩ := x
 dsimp only at hdv hpv
 subst hdv hpv
 have HB0 := Lib.hid (And.intro hb0 (And.intro hst0 hGl))
 clear h hb0 hst0 hGl
 unfold aggC
 dsimp only
 go_enter Tryz.func39, Tryz.ntmps39
 obtain ⟨a0, a1, a2, a3, a4, a5, a6⟩ := boxC_at HB0.out.1.box
 dsimp only at a0 a1 a2 a3 a4 a5 a6
 have HC := Lib.hid HB0.out.1.fl
 go_wp2_with fail
 refine (HC.out.read _ _ _).mono ?_
 rintro r w1 ⟨rfl, h1⟩
 have HB1 := Lib.hid (And.intro (HB0.out.1.step h1) (And.intro (HB0.out.2.1.trans (h1.2.sub HB0.out.2.2)) HB0.out.2.2))
 clear h1 HC a0 a1 a2 a3 a4 a5 a6 HB0
 obtain ⟨a0, a1, a2, a3, a4, a5, a6⟩ := boxC_at HB1.out.1.box
 dsimp only at a0 a1 a2 a3 a4 a5 a6
 have HC := Lib.hid HB1.out.1.fl
 go_wp2_with fail
 refine (HC.out.size _).mono ?_
 rintro r w2 ⟨rfl, h1⟩
 have HB2 := Lib.hid (And.intro (HB1.out.1.step h1) (And.intro (HB1.out.2.1.trans (h1.2.sub HB1.out.2.2)) HB1.out.2.2))
 clear h1 HC a0 a1 a2 a3 a4 a5 a6 HB1
 obtain ⟨a0, a1, a2, a3, a4, a5, a6⟩ := boxC_at HB2.out.1.box
 dsimp only at a0 a1 a2 a3 a4 a5 a6
 have HC := Lib.hid HB2.out.1.fl
 go_wp2_with fail
 refine (HC.out.create _).mono ?_
 rintro r w3 ⟨rfl, h1⟩
 have HB3 := Lib.hid (And.intro (HB2.out.1.step h1) (And.intro (HB2.out.2.1.trans (h1.2.sub HB2.out.2.2)) HB2.out.2.2))
 clear h1 HC a0 a1 a2 a3 a4 a5 a6 HB2
 obtain ⟨a0, a1, a2, a3, a4, a5, a6⟩ := boxC_at HB3.out.1.box
 dsimp only at a0 a1 a2 a3 a4 a5 a6
 have HC := Lib.hid HB3.out.1.fl
 go_wp2_with fail
 refine (HC.out.append _ _).mono ?_
 rintro r w4 ⟨rfl, h1⟩
 have HB4 := Lib.hid (And.intro (HB3.out.1.step h1) (And.intro (HB3.out.2.1.trans (h1.2.sub HB3.out.2.2)) HB3.out.2.2))
 clear h1 HC a0 a1 a2 a3 a4 a5 a6 HB3
 obtain ⟨a0, a1, a2, a3, a4, a5, a6⟩ := boxC_at HB4.out.1.box
 dsimp only at a0 a1 a2 a3 a4 a5 a6
 have HC := Lib.hid HB4.out.1.fl
 go_wp2_with fail
 refine (HC.out.rename _ _).mono ?_
 rintro r w5 ⟨rfl, h1⟩
 have HB5 := Lib.hid (And.intro (HB4.out.1.step h1) (And.intro (HB4.out.2.1.trans (h1.2.sub HB4.out.2.2)) HB4.out.2.2))
 clear h1 HC a0 a1 a2 a3 a4 a5 a6 HB4
 obtain ⟨a0, a1, a2, a3, a4, a5, a6⟩ := boxC_at HB5.out.1.box
 dsimp only at a0 a1 a2 a3 a4 a5 a6
 have HC := Lib.hid HB5.out.1.fl
 go_wp2_with fail
 refine (HC.out.remove _).mono ?_
 rintro r w6 ⟨rfl, h1⟩
 have HB6 := Lib.hid (And.intro (HB5.out.1.step h1) (And.intro (HB5.out.2.1.trans (h1.2.sub HB5.out.2.2)) HB5.out.2.2))
 clear h1 HC a0 a1 a2 a3 a4 a5 a6 HB5
 obtain ⟨a0, a1, a2, a3, a4, a5, a6⟩ := boxC_at HB6.out.1.box
 dsimp only at a0 a1 a2 a3 a4 a5 a6
 have HC := Lib.hid HB6.out.1.fl
 go_wp2_with fail
 refine (HC.out.sync).mono ?_
 rintro r w7 ⟨rfl, h1⟩
 have HB7 := Lib.hid (And.intro (HB6.out.1.step h1) (And.intro (HB6.out.2.1.trans (h1.2.sub HB6.out.2.2)) HB6.out.2.2))
 clear h1 HC a0 a1 a2 a3 a4 a5 a6 HB6
 have HF := Lib.hid (And.intro (HB7.out.1.fl.sub HB7.out.2.2) HB7.out.2.1)
 go_wp2_with fail
 go_ret
 exact ⟨by simp, HF.out⟩
end
end Go.Proofs.YteepgehjkcahiaaGreat
