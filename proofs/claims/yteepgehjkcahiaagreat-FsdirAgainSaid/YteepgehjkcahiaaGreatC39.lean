/- Bytes: a call's data, some times over. FsdirAgain's plain part: two rows of texts of the law's own; files by their place. FsdirAgain: the walk. -/
import Derived.Test.YteepgehjkcahiaaGreatC38
namespace Go.Proofs.YteepgehjkcahiaaGreat
open Go.RowKit Go.Maps

abbrev aggC (x : CallR) : Value := .agg #[.int .i64 x.kind, .string x.nm, .string x.dst, x.dv, .int .i64 x.at_, .int .i64 x.n, x.pv]
set_option maxRecDepth 100000 in
theorem bytes_ok (w : World) (x : CallR) (hrd : Rd w x.dv x.d) (hd : x.d.length ≤ 140737488351232) (hn : In64 x.n) :
    Calls Tryz.prog 25 #[aggC x] w fun r w' => ∃ rv, r = .returned rv ∧ ∃ l : Bs, Ow w' w.heap.size rv l ∧ l.length ≤ 140737488355328 ∧ Upd [] w w' := by
  obtain ⟨kind, nm, dst, dv, d, at_, n, pv, pk⟩ := x
  dsimp only at hrd hd hn
  obtain ⟨pa, pc, rfl, q1, q2, -⟩ := hrd.slice
  have HP := Lib.hid fun X : World => pick_ok n 40 X hn.1 hn.2 (by omega) (by omega)
  have HRD := Lib.hid hrd
  clear hrd hn
  unfold aggC
  dsimp only
  go_enter Tryz.func25, Tryz.ntmps25
  go_wp2_with fail
  go_loopg [3, 4] 41 (fun gh v3 v4 wr => ∃ (i m c : Nat) (pa' : Option Addr) (l : Bs), v3 = .slice pa' m c ∧ v4 = .int .i64 i ∧ i ≤ 40 ∧ gh = 41 - i ∧ Hid (Ow wr (w.heap.size + 1) (.slice pa' m c) l ∧ Upd [] w wr ∧ m = l.length ∧ (l = [] ∨ d.length ≤ l.length) ∧ l.length ≤ 140737488355328 ∧ wr.heap[w.heap.size]? = some (.cells #[.int .i64 kind, .string nm, .string dst, .slice pa d.length pc, .int .i64 at_, .int .i64 n, pv] 49 (0, 0))))
  case atStart =>
    exact ⟨0, 0, 0, none, [], rfl, rfl, by omega, rfl, Lib.hid ⟨OwnG.nil _ _, (Upd.refl [] w).alloc _, rfl, .inl rfl, by simp, heap_top _ _⟩⟩
  case round =>
    obtain ⟨i, m, c, pa', l, rfl, rfl, hi, rfl, HS⟩ := hrel
    have c3 := cell_blk HS.out.2.2.2.2.2 3
    have c5 := cell_blk HS.out.2.2.2.2.2 5
    simp only [List.getElem?_toArray, List.getElem?_cons_zero, List.getElem?_cons_succ] at c3 c5
    have hmc : m ≤ c := (OwnG.at T8 HS.out.1).2.1
    have hcm : c ≤ 9223372036854775807 := by have := (OwnG.at T8 HS.out.1).2.2.1; unfold maxLen at this; omega
    go_wp2_with fail
    refine (HP.out _).mono ?_
    rintro r w3 ⟨⟨nn, rfl, hn0, hn1⟩, rfl⟩
    by_cases hin : (i : Int) ≤ nn
    · by_cases hm : m < 40000
      · have hm' : (m : Int) < 40000 := by omega
        have hsz := HS.out.2.1.size
        have hml := HS.out.2.2.1
        have hld : l.length + d.length ≤ 140737488355328 := by
          rcases HS.out.2.2.2.1 with e | e
          · subst e; simp; omega
          · omega
        have HL := Lib.hid (And.intro hml hld)
        have hblk := lt_of_blk HS.out.2.2.2.2.2
        subst hml
        go_wp2_with (first
          | (at_builtin; refine wpList_append_G T8 rfl _ _ rfl (base := w.heap.size + 1) (l := l) (r := d) rfl HS.out.1 rfl (HRD.out.keep HS.out.2.1).src (one8 _) ?c1 ?c2 ?c3 ?_)
          | fail)
        case c1 => omega
        case c2 => omega
        case c3 => omega
        intro v8 w8 ho8 hg8 hn8
        obtain ⟨a8, c8', m8, hm8, hv8⟩ := ho8.sliceM
        subst hv8
        have hu8 : Upd [] w w8 := HS.out.2.1.grown hg8 (fun g hg => by have := (HS.out.1.block g hg).1; omega)
        have hb8 : w8.heap[w.heap.size]? = _ := ((Upd.of_grown hg8).block w.heap.size hblk (fun q => by
          have e : (Value.slice pa' l.length c).ownBlock = some w.heap.size := by simpa using q
          have := (HS.out.1.block _ e).1; omega)).trans HS.out.2.2.2.2.2
        have H8 : Hid (Ow w8 (w.heap.size + 1) (.slice a8 m8 c8') (l ++ d) ∧ Upd [] w w8 ∧ m8 = (l ++ d).length ∧ ((l ++ d) = [] ∨ d.length ≤ (l ++ d).length) ∧ (l ++ d).length ≤ 140737488355328 ∧ w8.heap[w.heap.size]? = some (.cells #[.int .i64 kind, .string nm, .string dst, .slice pa d.length pc, .int .i64 at_, .int .i64 n, pv] 49 (0, 0))) :=
          Lib.hid ⟨ho8, hu8, hm8, .inr (by rw [List.length_append]; omega), by rw [List.length_append]; exact hld, hb8⟩
        clear ho8 hg8 hn8 hu8 hb8 hm8 hld
        go_wp2_with fail
        go_roundg (41 - (i + 1))
        case measure => omega
        case rel => exact ⟨i + 1, m8, c8', a8, l ++ d, rfl, by go_num, by omega, rfl, H8⟩
      · have hm' : decide ((m : Int) < 40000) = false := by rw [decide_eq_false_iff_not]; omega
        clear hm
        go_wp2_with fail
        go_ret
        exact ⟨_, rfl, l, HS.out.1.base (by omega), HS.out.2.2.2.2.1, HS.out.2.1⟩
    · go_wp2_with fail
      go_ret
      exact ⟨_, rfl, l, HS.out.1.base (by omega), HS.out.2.2.2.2.1, HS.out.2.1⟩
theorem bytes_at (W : World) (x : CallR) (hrd : Rd W x.dv x.d) (hd : x.d.length ≤ 140737488351232) (hn : In64 x.n) (X : World) (u : Upd [] W X) :
    Calls Tryz.prog 25 #[aggC x] X fun r X' => ∃ rv l, r = .returned rv ∧ Ow X' W.heap.size rv l ∧ l.length ≤ 140737488355328 ∧ Upd [] W X' :=
  (bytes_ok X x (hrd.keep u) hd hn).mono fun r X' ⟨rv, e, l, ho, hl, hu⟩ => ⟨rv, l, e, ho.base u.size, hl, u.trans hu⟩
section
variable {w0 W : World} {v p room : Nat} {fs last : Files} {c : Nat} {G : List Nat}
/-- Append of bytes that were made since; of its answer nothing is asked. -/
theorem Lv.append_new (h : Lv w0 W v p room fs last c G) (hc : c ≤ 1000000) (nm : ByteArray) (hs : nm.size ≤ maxLen) (X : World) (u : Upd [] W X) (rv : Value) (lb : Bs) (ho : Ow X W.heap.size rv lb) (hl : lb.length ≤ 140737488355328) :
    Calls Tryz.prog 16 #[.pointer (some ⟨v, 0, none⟩), .string nm, rv] X fun r X' => ∃ (cd : Nat) (fs' : Files), r = .returned (.int .i64 cd) ∧ Lv w0 X' v p room fs' last (c + 1) G ∧ Stay G W X' := by
  have hg := h.guard u (G' := rv.ownBlock.toList) fun b hb => ho.block b (by simpa using hb)
  refine (hg.append hc nm hs ho.rd (fun _ g e => .inl (by simp [e])) hl).mono fun r X' ⟨e, hlv, hst⟩ => ?_
  exact ⟨_, _, e, hlv.sub fun i hi => List.mem_append_right _ hi, (Stay.of u).trans (hst.sub fun i hi => List.mem_append_right _ hi)⟩
theorem Lv.rename_new (h : Lv w0 W v p room fs last c G) (h0 : 1 ≤ room) (a b : ByteArray) (hs : a.size ≤ maxLen) (ht : b.size ≤ maxLen) (X : World) (u : Upd [] W X) :
    Calls Tryz.prog 21 #[.pointer (some ⟨v, 0, none⟩), .string a, .string b] X fun r X' => ∃ (cd : Nat) (fs' : Files), r = .returned (.int .i64 cd) ∧ Lv w0 X' v p room fs' last c G ∧ Stay G W X' :=
  ((h.keep u).rename h0 a b hs ht).mono fun r X' ⟨e, hlv, hst⟩ => ⟨_, _, e, hlv, (Stay.of u).trans hst⟩
end
end Go.Proofs.YteepgehjkcahiaaGreat

namespace Go.Proofs.YteepgehjkcahiaaGreat
open Go.RowKit Go.Maps

/-- Two rows of texts of the law's own. -/
structure R2 (w0 w : World) (nv : Value) (N : List Bs) (wv : Value) (xs : List Bs) (G : List Nat) : Prop where
  nms : OwT w w0.heap.size nv N
  nG : ∀ g, nv.ownBlock = some g → g ∈ G
  was : OwT w w0.heap.size wv xs
  wG : ∀ g, wv.ownBlock = some g → g ∈ G
  nw : ∀ g, wv.ownBlock = some g → nv.ownBlock ≠ some g
theorem owT_at {w : World} {base : Nat} {v : Value} {l : List Bs} (h : OwT w base v l) {i : Nat} (hi : i < l.length) : ∃ g cap, v = .slice (some ⟨g, 0, none⟩) l.length cap ∧ l.length ≤ cap ∧ cap ≤ 9223372036854775807 ∧ w.cell? ⟨g, i, none⟩ = some (.string (strOf (l.getD i []))) := by
  obtain ⟨a, c, rfl⟩ := h.slice
  obtain ⟨-, h1, h2, h3⟩ := OwnG.at TT h
  obtain ⟨g, rfl, -, -, h4⟩ := h3 i hi
  refine ⟨g, c, rfl, h1, by unfold maxLen at h2; omega, ?_⟩
  have := h4 0 _ rfl
  rw [Nat.mul_one, Nat.add_zero] at this
  rw [List.getD_eq_getElem?_getD, List.getElem?_eq_getElem hi]
  exact this
theorem owT_cap {w : World} {base : Nat} {a : Option Addr} {n c : Nat} {l : List Bs} (h : OwT w base (.slice a n c) l) : n = l.length ∧ n ≤ c ∧ c ≤ 9223372036854775807 := by
  obtain ⟨h0, h1, h2, -⟩ := OwnG.at TT h
  exact ⟨h0, h1, by unfold maxLen at h2; omega⟩
section
variable {w0 w w' : World} {nv wv : Value} {N xs : List Bs} {G : List Nat}
theorem R2.stay (h : R2 w0 w nv N wv xs G) (s : Stay G w w') : R2 w0 w' nv N wv xs G := ⟨s.owT h.nms h.nG, h.nG, s.owT h.was h.wG, h.wG, h.nw⟩
theorem R2.keep (h : R2 w0 w nv N wv xs G) (u : Upd [] w w') : R2 w0 w' nv N wv xs G := h.stay (.of u)
theorem R2.push (h : R2 w0 w nv N wv xs G) {v p room : Nat} {fs last : Files} {c : Nat} (hl : Lv w0 w v p room fs last c G) {wv' : Value} {s : Bs} (hg : w.grownBy w' wv.ownBlock) (ho : OwT w' w0.heap.size wv' (xs ++ [s])) (hn : wv'.ownBlock = wv.ownBlock ∨ ∀ g, wv'.ownBlock = some g → w.heap.size ≤ g) : ∃ G', Lv w0 w' v p room fs last c G' ∧ R2 w0 w' nv N wv' (xs ++ [s]) G' := by
  have hu := Upd.of_grown hg
  have hF : ∀ i ∈ wv.ownBlock.toList, i ∈ G ∧ w0.heap.size ≤ i := fun i hi => by
    have e : wv.ownBlock = some i := by simpa using hi
    exact ⟨h.wG i e, (h.was.block i e).1⟩
  have hnm : OwT w' w0.heap.size nv N := h.nms.upd hu fun i hi => h.nw i (by simpa using hi)
  rcases hn with q | q
  · exact ⟨_, hl.guardF hu hF (G' := []) (by simp), hnm, fun g hg => by simpa using h.nG g hg, ho, fun g hg => by rw [q] at hg; simpa using h.wG g hg, by rw [q]; exact h.nw⟩
  · refine ⟨_, hl.guardF hu hF (G' := wv'.ownBlock.toList) (fun b hb => ?_), hnm, fun g hg => List.mem_append_right _ (h.nG g hg), ho, fun g hg => List.mem_append_left _ (by simp [hg]), fun g hg e => ?_⟩
    · have e : wv'.ownBlock = some b := by simpa using hb
      exact ⟨q b e, (ho.block b e).2⟩
    · have := q g hg; have := (h.nms.block g e).2; omega
end
def namesF (fs : Files) : List Bs := fs.map (·.1)
def datasF (fs : Files) : List Bs := fs.map (·.2.data)
theorem file_at {room : Nat} {fs : Files} (h : FilesOk room fs) {i : Nat} (hi : i < fs.length) : ∃ f, getA fs ((namesF fs).getD i []) = some f ∧ f.data = (datasF fs).getD i [] ∧ ((namesF fs).getD i []).length ≤ 40 := by
  have hm := List.getElem_mem hi
  have hg := getA_of_mem ordN h.srt hm
  have e1 : (namesF fs).getD i [] = fs[i].1 := by rw [namesF, List.getD_eq_getElem?_getD, List.getElem?_map, List.getElem?_eq_getElem hi]; rfl
  have e2 : (datasF fs).getD i [] = fs[i].2.data := by rw [datasF, List.getD_eq_getElem?_getD, List.getElem?_map, List.getElem?_eq_getElem hi]; rfl
  exact ⟨_, by rw [e1]; exact hg, e2.symm, by rw [e1]; exact (h.name _ hm).2⟩
end Go.Proofs.YteepgehjkcahiaaGreat

namespace Go.Proofs.YteepgehjkcahiaaGreat
open Go.RowKit Go.Maps

set_option maxRecDepth 100000 in
set_option maxHeartbeats 16000000 in
theorem fsagain_walk (w : World) (sb qa0 : Option Addr) (tl tc ql qc0 : Nat) (many : Int) (m : List CallR) (picks : List Int) (ht : SlAt 7 CallAt w (.slice sb tl tc) m) (hot : ∀ x ∈ m, CallOk w x) (_ht : tl ≤ 9223372036854775807) (hp : RdZ w (.slice qa0 ql qc0) picks) (hpk : ∀ x ∈ picks, -9223372036854775808 ≤ x ∧ x ≤ 9223372036854775807) (hpo : picks ≠ [] → ∀ b, (Value.slice qa0 ql qc0).ownBlock = some b → b < w.heap.size) (hmany : In64 many) :
    Calls Tryz.prog 6 #[.slice sb tl tc, .slice qa0 ql qc0, .int .i64 many] w fun r w' => r = .returned (.bool true) ∧ Upd [] w w' := by
  have HA := Lib.hid (awake_ok w)
  have HL := Lib.hid fun (X : World) (u : Upd [] w X) => lv_laid w u 90 (by omega) (by omega)
  have HQ := Lib.hid fun j (hj : j < tl) => call_at ht hot hj
  have HPI := Lib.hid (And.intro hp (And.intro hpk hpo))
  have HMY := Lib.hid fun X : World => pick_ok many 4 X hmany.1 hmany.2 (by omega) (by omega)
  clear ht hot hp hpk hpo hmany
  go_enter Tryz.func6, Tryz.ntmps6
  go_wp2_with fail
  refine HA.out.mono ?_
  rintro r w1 ⟨rfl, hu1⟩
  have HU1 := Lib.hid hu1
  clear hu1
  go_wp2_with fail
  refine (HL.out _ HU1.out).mono ?_
  rintro r w2 ⟨p, v, rfl, hlv, -⟩
  have H2 : Hid (Lv w w2 v p 54 [] [] 0 []) := Lib.hid hlv
  clear hlv HL HA
  go_upto_block 0 with fail
  go_cut [10] (fun v10 wx => ∃ (fs' last' : Files) (c' : Nat), c' ≤ 20 ∧ Hid (Lv w wx v p 54 fs' last' c' []))
  case first =>
    go_wp2_with fail
    go_loopg [10] 20 (fun gh v10 wr => ∃ (j : Nat) (fs' last' : Files) (c' : Nat), v10 = .int .i64 j ∧ j ≤ 20 ∧ gh = 20 - j ∧ c' ≤ j ∧ Hid (Lv w wr v p 54 fs' last' c' []))
    case atStart => exact ⟨0, [], [], 0, rfl, by omega, rfl, by omega, H2⟩
    case round =>
      obtain ⟨j, fs', last', c', rfl, hj, rfl, hc', HS⟩ := hrel
      by_cases hjl : j < tl
      · have hjl' : (j : Int) < (tl : Int) := by omega
        by_cases hj20 : j < 20
        · have hj20' : (j : Int) < 20 := by omega
          obtain ⟨W, hW⟩ : ∃ W, W = wr := ⟨_, rfl⟩
          subst hW
          obtain ⟨b, off, x, pa, qa, pc, qc, rfl, hat0, hxo, hdv, hpc1, hpc2, hpv⟩ := HQ.out j hjl
          obtain ⟨kind, nm, dst, dv, d, at_, nn, pv, pk⟩ := x
          dsimp only at hdv hpc1 hpv
          subst hdv hpv
          have hat := hat0.keep HS.out.upd
          have c0' := hat.c0
          have c1' := hat.c1
          have c2' := hat.c2
          dsimp only at c0' c1' c2'
          have hk := hxo.kind
          have hn1 : nm.size ≤ maxLen := by have := hxo.nm; dsimp only at this; unfold maxLen; omega
          have hn2 : dst.size ≤ maxLen := by have := hxo.dst; dsimp only at this; unfold maxLen; omega
          have HPk := Lib.hid fun X : World => pick_ok kind 5 X hk.1 hk.2 (by omega) (by omega)
          have HN := Lib.hid (And.intro hn1 hn2)
          have HAT := Lib.hid (And.intro hat0 hxo)
          clear hat hat0 hxo hk hn1 hn2
          go_wp2_with fail
          refine (HPk.out _).mono ?_
          rintro r w6 ⟨⟨rr, rfl, hr0, hr1⟩, rfl⟩
          rcases (show rr = 0 ∨ rr = 1 ∨ rr = 2 ∨ rr = 3 ∨ rr = 4 by omega) with rfl | rfl | rfl | rfl | rfl
          · have HCr := Lib.hid (HS.out.create nm HN.out.1)
            go_wp2_with fail
            refine HCr.out.mono ?_
            rintro r w7 ⟨rfl, hlv7, hst7⟩
            have H7 := Lib.hid hlv7
            clear hlv7 hst7 HCr
            go_wp2_with fail
            go_roundg (20 - (j + 1))
            case measure => omega
            case rel => exact ⟨j + 1, _, _, c', by go_num, by omega, rfl, by omega, H7⟩
          · have HCK : Hid (∀ X, Upd [] w X → (fun X => X.cell? ⟨b, off + j * 7, none⟩ = some (.int .i64 kind) ∧ X.cell? ⟨b, off + j * 7 + 1, none⟩ = some (.string nm) ∧ X.cell? ⟨b, off + j * 7 + 2, none⟩ = some (.string dst) ∧ X.cell? ⟨b, off + j * 7 + 3, none⟩ = some (.slice pa d.length pc) ∧ X.cell? ⟨b, off + j * 7 + 4, none⟩ = some (.int .i64 at_) ∧ X.cell? ⟨b, off + j * 7 + 5, none⟩ = some (.int .i64 nn) ∧ X.cell? ⟨b, off + j * 7 + 6, none⟩ = some (.slice qa pk.length qc)) X) := Lib.hid fun X u => by
              have h := HAT.out.1.keep u
              exact ⟨h.c0, h.c1, h.c2, h.c3, h.c4, h.c5, h.c6⟩
            have HUW := Lib.hid HS.out.upd
            have hby := bytes_at W ⟨kind, nm, dst, .slice pa d.length pc, d, at_, nn, .slice qa pk.length qc, pk⟩ (HAT.out.1.rd.keep HUW.out) HAT.out.2.d HAT.out.2.n
            dsimp only [aggC] at hby
            have HBy := Lib.hid hby
            clear hby
            have HAp := Lib.hid (HS.out.append_new (by omega) nm HN.out.1)
            obtain ⟨k0, k1, k2, k3, k4, k5, k6⟩ := HCK.out _ HUW.out
            clear c0' c1' c2'
            go_wp2_with fail
            go_region_held3 (fun X => X.cell? ⟨b, off + j * 7, none⟩ = some (.int .i64 kind) ∧ X.cell? ⟨b, off + j * 7 + 1, none⟩ = some (.string nm) ∧ X.cell? ⟨b, off + j * 7 + 2, none⟩ = some (.string dst) ∧ X.cell? ⟨b, off + j * 7 + 3, none⟩ = some (.slice pa d.length pc) ∧ X.cell? ⟨b, off + j * 7 + 4, none⟩ = some (.int .i64 at_) ∧ X.cell? ⟨b, off + j * 7 + 5, none⟩ = some (.int .i64 nn) ∧ X.cell? ⟨b, off + j * 7 + 6, none⟩ = some (.slice qa pk.length qc))
              (first
                | (with_reducible exact HCK.out _ HUW.out.drew)
                | (with_reducible exact HCK.out _ (HUW.out.trans hv6))
                | (with_reducible exact HCK.out _ hlv7.upd))
              (first
                | (go_at_call 25; (with_reducible refine (HBy.out _ ?_).mono ?_); (exact (Upd.refl [] W).drew); rintro e w6 ⟨rv, lb, rfl, ho6, hl6, hv6⟩)
                | (go_at_call 16; (with_reducible refine (HAp.out _ hv6 _ _ ho6 hl6).mono ?_); rintro e w7 ⟨cd, fs7, rfl, hlv7, hst7⟩))
            have H7 := Lib.hid hlv7
            clear hlv7 hst7 ho6 hl6 hv6 HAp HBy HCK k0 k1 k2 k3 k4 k5 k6
            go_wp2_with fail
            go_roundg (20 - (j + 1))
            case measure => omega
            case rel => exact ⟨j + 1, _, _, c' + 1, by go_num, by omega, rfl, by omega, H7⟩
          · have HCK : Hid (∀ X, Upd [] w X → (fun X => X.cell? ⟨b, off + j * 7 + 1, none⟩ = some (.string nm) ∧ X.cell? ⟨b, off + j * 7 + 2, none⟩ = some (.string dst)) X) := Lib.hid fun X u => by
              have h := HAT.out.1.keep u
              exact ⟨h.c1, h.c2⟩
            have HUW := Lib.hid HS.out.upd
            have HRn := Lib.hid (HS.out.rename_new (by omega) nm dst HN.out.1 HN.out.2)
            clear c0' c1' c2'
            obtain ⟨k1, k2⟩ := HCK.out _ HUW.out
            go_wp2_with fail
            go_region_held3 (fun X => X.cell? ⟨b, off + j * 7 + 1, none⟩ = some (.string nm) ∧ X.cell? ⟨b, off + j * 7 + 2, none⟩ = some (.string dst))
              (first
                | (with_reducible exact HCK.out _ HUW.out.drew)
                | (with_reducible exact HCK.out _ hlv7.upd))
              (first
                | (go_at_call 21; (with_reducible refine (HRn.out _ ?_).mono ?_); (exact (Upd.refl [] W).drew); rintro e w7 ⟨cd, fs7, rfl, hlv7, hst7⟩))
            have H7 := Lib.hid hlv7
            clear hlv7 hst7 HRn HCK k1 k2
            go_wp2_with fail
            go_roundg (20 - (j + 1))
            case measure => omega
            case rel => exact ⟨j + 1, _, _, c', by go_num, by omega, rfl, by omega, H7⟩
          · have HCr := Lib.hid (HS.out.remove (by omega) nm HN.out.1)
            go_wp2_with fail
            refine HCr.out.mono ?_
            rintro r w7 ⟨rfl, hlv7, hst7⟩
            have H7 := Lib.hid hlv7
            clear hlv7 hst7 HCr
            go_wp2_with fail
            go_roundg (20 - (j + 1))
            case measure => omega
            case rel => exact ⟨j + 1, _, _, c', by go_num, by omega, rfl, by omega, H7⟩
          · have HCr := Lib.hid (HS.out.sync (by omega))
            go_wp2_with fail
            refine HCr.out.mono ?_
            rintro r w7 ⟨rfl, hlv7, hst7⟩
            have H7 := Lib.hid hlv7
            clear hlv7 hst7 HCr
            go_wp2_with fail
            go_roundg (20 - (j + 1))
            case measure => omega
            case rel => exact ⟨j + 1, _, _, c' + 1, by go_num, by omega, rfl, by omega, H7⟩
        · have hj20' : ¬ (j : Int) < 20 := by omega
          go_wp2_with fail
          go_meet
          exact ⟨fs', last', c', by omega, HS⟩
      · have hjl' : ¬ (j : Int) < (tl : Int) := by omega
        go_wp2_with fail
        go_meet
        exact ⟨fs', last', c', by omega, HS⟩
  case rest =>
    obtain ⟨fs', last', c', hc', HS⟩ := hcut
    have HSy := Lib.hid (HS.out.sync (by omega))
    clear HS H2
    go_wp2_with fail
    refine HSy.out.mono ?_
    rintro r w4 ⟨rfl, hlv4, -⟩
    have HLi := Lib.hid hlv4.list
    have hus4 := hlv4.upd.size
    obtain ⟨l5, k5, s5, hinv5⟩ := hlv4.inv
    have HFO := Lib.hid hinv5.now
    have hfew := hinv5.now.few
    clear hlv4 HSy hinv5
    generalize hL : fs' = L at *
    clear hL
    go_wp2_with fail
    refine HLi.out.mono ?_
    rintro r w5 ⟨u, rfl, ho5, hu5, hlv5⟩
    obtain ⟨ua, uc, rfl⟩ := ho5.slice
    obtain ⟨nN, hnN⟩ : ∃ nN, nN = (L.map (·.1)).length := ⟨_, rfl⟩
    have hnL : nN = L.length := by rw [hnN, List.length_map]
    have hN64 : nN ≤ 64 := by omega
    rw [← hnN] at ho5 hlv5 ⊢
    obtain ⟨-, hNc, hcm⟩ := owT_cap ho5
    have hr2 : R2 w w5 (.slice ua nN uc) (namesF L) (.slice none 0 0) [] ((Value.slice ua nN uc).ownBlock.toList ++ []) :=
      ⟨ho5.base hus4, fun g hg => by simp [hg], OwnG.nil _ _, (fun g hg => by cases hg), (fun g hg => by cases hg)⟩
    have HFr := Lib.hid hlv5.free
    have H5 := Lib.hid (And.intro hlv5 hr2)
    have HNL := Lib.hid (And.intro hnL hnN)
    clear ho5 hu5 hlv5 hr2 HLi hnL hnN
    generalize hfr : freeN 54 L L = fr at *
    have HF := Lib.hid hfr
    clear hfr
    go_wp2_with fail
    refine HFr.out.mono ?_
    rintro r w6 ⟨rfl, hlv6, hst6⟩
    have H6 := Lib.hid (And.intro hlv6 (H5.out.2.stay hst6))
    obtain ⟨c0, hc0⟩ : ∃ c0, c0 = c' + 1 := ⟨_, rfl⟩
    rw [← hc0] at H6
    have hc21 : c0 ≤ 21 := by omega
    generalize hG0 : (Value.slice ua nN uc).ownBlock.toList ++ [] = G0 at *
    clear hlv6 hst6 H5 HFr hc0 hG0 hc'
    go_upto_block 3 with fail
    go_cut [13] (fun v13 wx => ∃ (a : Option Addr) (n c : Nat) (G : List Nat), v13 = .slice a n c ∧ Hid (Lv w wx v p 54 L L c0 G ∧ R2 w wx (.slice ua nN uc) (namesF L) (.slice a n c) (datasF L) G))
    case first =>
      go_wp2_with fail
      go_loopg [13, 14, 15, 16] nN (fun gh v13 v14 v15 v16 wr => ∃ (i n c : Nat) (a : Option Addr) (G : List Nat), v13 = .slice a n c ∧ v14 = .int .i64 i ∧ i ≤ nN ∧ gh = nN - i ∧ Hid (Lv w wr v p 54 L L c0 G ∧ R2 w wr (.slice ua nN uc) (namesF L) (.slice a n c) ((datasF L).take i) G))
      case atStart => exact ⟨0, 0, 0, none, G0, rfl, rfl, by omega, rfl, H6⟩
      case round =>
        obtain ⟨i, n, c, a, G, rfl, rfl, hi, rfl, HS⟩ := hrel
        by_cases hin : i < nN
        · have hin' : (i : Int) < (nN : Int) := by omega
          obtain ⟨f, hgf, hfd, hn40⟩ := file_at HFO.out (i := i) (by rw [← HNL.out.1]; exact hin)
          have hnz : (strOf ((namesF L).getD i [])).size ≤ maxLen := by rw [strOf_size]; unfold maxLen; omega
          have hrd := Three.read HS.out.1 (by omega) (strOf ((namesF L).getD i [])) hnz (f := f) (by rw [strOf_list]; exact hgf)
          rw [hfd] at hrd
          obtain ⟨g, cap, hwv, hx1, hx2, hcell⟩ := owT_at HS.out.2.nms (i := i) (by show i < (namesF L).length; rw [namesF, ← HNL.out.2]; exact hin)
          have hl2 : (namesF L).length = nN := by rw [namesF, ← HNL.out.2]
          rw [hl2] at hwv
          obtain ⟨rfl, -, rfl⟩ := Value.slice.inj hwv
          obtain ⟨di, hdi⟩ : ∃ di, di = (datasF L).getD i [] := ⟨_, rfl⟩
          rw [← hdi] at hrd
          have hsn : i < (datasF L).length → (datasF L).take i ++ [di] = (datasF L).take (i + 1) := fun h => by rw [hdi]; exact take_snoc_getD h
          have HSN := Lib.hid hsn
          clear hdi hsn
          have HRd := Lib.hid hrd
          clear hgf hfd hnz hrd hn40 hwv hx1 hl2
          generalize strOf ((namesF L).getD i []) = nn at *
          go_wp2_with fail
          refine HRd.out.mono ?_
          rintro r w9 ⟨rv, rfl, ho, hlv9, hst9⟩
          have hr9 := HS.out.2.stay hst9
          have hl9 := hlv9.sub (G' := G) fun i hi => List.mem_append_right _ hi
          have hts := ho.rd.str
          have HO9 : Hid (∀ X : Obj, OwT (w9.alloc X) w.heap.size (.slice a n c) ((datasF L).take i)) := Lib.hid fun X => (hr9.keep ((Upd.refl [] w9).alloc X)).was
          obtain ⟨-, hnc, hcmm⟩ := owT_cap hr9.was
          have hsz9 := hl9.upd.size
          have H9 := Lib.hid (And.intro hl9 hr9)
          have hdl : i < (datasF L).length := by rw [datasF, List.length_map, ← HNL.out.1]; exact hin
          have hti : ((datasF L).take i).length = i := by rw [List.length_take]; omega
          have HTI := Lib.hid (And.intro hti hdl)
          clear ho hlv9 hst9 hr9 hl9 HRd hcell hdl hti
          go_wp2_with (first
            | (at_builtin; refine wpList_append_G TT rfl _ _ rfl (base := w.heap.size) (l := (datasF L).take i) (r := [di]) rfl (HO9.out _) rfl (src_new TT (ty := 9) (heap_top _ _)) (oneT _) ?c1 ?c2 ?c3 ?_)
            | fail)
          case c1 => rw [HTI.out.1]; simp; omega
          case c2 => rw [HTI.out.1]; simp; omega
          case c3 => simp; omega
          intro v8 w8 ho8 hg8 hn8
          have hSN := HSN.out HTI.out.2
          have HSM := Lib.hid hSN
          rw [hSN] at ho8
          clear hSN
          obtain ⟨a8, c8', hv8⟩ := ho8.slice
          obtain ⟨m8, hm8⟩ : ∃ m8, m8 = ((datasF L).take (i + 1)).length := ⟨_, rfl⟩
          rw [← hm8] at hv8
          subst hv8
          rw [← HSM.out] at ho8
          obtain ⟨G8, h8, h8'⟩ := (H9.out.2.keep ((Upd.refl [] w9).alloc _)).push (H9.out.1.keep ((Upd.refl [] w9).alloc _)) hg8 ho8 (by rw [World.size_alloc]; exact hn8)
          rw [HSM.out] at h8'
          have H8 := Lib.hid (And.intro h8 h8')
          clear ho8 hg8 hn8 h8 h8' H9 HO9 hm8
          go_wp2_with fail
          go_roundg (nN - (i + 1))
          case measure => omega
          case rel => exact ⟨i + 1, m8, c8', a8, G8, rfl, by go_num, by omega, rfl, H8⟩
        · have hin' : ¬ (i : Int) < (nN : Int) := by omega
          go_wp2_with fail
          go_meet
          refine ⟨a, n, c, G, rfl, Lib.hid ⟨HS.out.1, ?_⟩⟩
          have h := HS.out.2
          rw [List.take_of_length_le (by rw [datasF, List.length_map, ← HNL.out.1]; omega)] at h
          exact h
    case rest =>
      obtain ⟨a, n, c, G, rfl, HS⟩ := hcut
      clear H6
      go_wp2_with fail
      go_loopg [17, 18, 19, 20, 21, 22, 23] 5 (fun gh v17 v18 v19 v20 v21 v22 v23 wr => ∃ (k c' v' : Nat), v17 = .int .i64 k ∧ k ≤ 4 ∧ gh = 5 - k ∧ c' ≤ c0 + k ∧ Hid (Lv w wr v' p 54 L L c' G ∧ R2 w wr (.slice ua nN uc) (namesF L) (.slice a n c) (datasF L) G))
      case atStart => exact ⟨0, c0, v, rfl, by omega, rfl, by omega, HS⟩
      case round =>
        obtain ⟨k, c', v', rfl, hk, rfl, hc', HT⟩ := hrel
        go_wp2_with fail
        refine (HMY.out _).mono ?_
        rintro r w6' ⟨⟨rr, rfl, hr0, hr1⟩, rfl⟩
        by_cases hkr : (k : Int) ≤ rr
        · have HCra := Lib.hid (HT.out.1.crash (by omega) (by omega) (HPI.out.1.keep TZ HT.out.1.upd) HPI.out.2.1 (fun q b hb => .inr (HPI.out.2.2 q b hb)))
          go_wp2_with fail
          refine HCra.out.mono ?_
          rintro r w7 ⟨rfl, hcr7, hst7⟩
          have HMo := Lib.hid (hcr7.mount (by omega))
          have H7 := Lib.hid (HT.out.2.stay hst7)
          clear hcr7 hst7 HCra
          go_wp2_with fail
          refine HMo.out.mono ?_
          rintro r w8 ⟨v8, rfl, hlv8, hst8⟩
          have hr8 := H7.out.stay hst8
          have H8 := Lib.hid hr8
          have HLi8 := Lib.hid hlv8.list
          clear hlv8 hst8 HMo hr8
          go_wp2_with fail
          refine HLi8.out.mono ?_
          rintro r w9 ⟨u9, rfl, ho9, hu9, hlv9⟩
          have hr9 := H8.out.keep hu9
          have hst := same_texts w9 (OwnG.sl TT ho9) (OwnG.sl TT hr9.nms)
          rw [decide_eq_true (show L.map (·.1) = namesF L from rfl)] at hst
          have HST := Lib.hid hst
          have H9 := Lib.hid (And.intro (hlv9.sub (G' := G) fun i hi => List.mem_append_right _ hi) hr9)
          clear ho9 hu9 hlv9 hr9 hst HLi8
          go_wp2_with fail
          refine HST.out.mono ?_
          rintro r w10 ⟨rfl, hu10⟩
          have hfe := (H9.out.1.keep hu10).free
          rw [HF.out] at hfe
          have HFe := Lib.hid hfe
          have H10 := Lib.hid (H9.out.2.keep hu10)
          have hee : ((fr : Int) == (fr : Int)) = true := by simp
          clear hfe hu10 HST
          go_wp2_with fail
          refine HFe.out.mono ?_
          rintro r w11 ⟨rfl, hlv11, hst11⟩
          have H11 := Lib.hid (And.intro hlv11 (H10.out.stay hst11))
          clear hlv11 hst11 HFe H10
          go_wp2_with fail
          go_loopg [21, 22, 23] nN (fun gh v21 v22 v23 wr => ∃ i : Nat, v21 = .int .i64 i ∧ i ≤ nN ∧ gh = nN - i ∧ Hid (Lv w wr v8 p 54 L L (c' + 1) G ∧ R2 w wr (.slice ua nN uc) (namesF L) (.slice a n c) (datasF L) G))
          case atStart => exact ⟨0, rfl, by omega, rfl, H11⟩
          case round =>
            obtain ⟨i, rfl, hi, rfl, HV⟩ := hrel
            by_cases hin : i < nN
            · have hin' : (i : Int) < (nN : Int) := by omega
              obtain ⟨f, hgf, hfd, hn40⟩ := file_at HFO.out (i := i) (by rw [← HNL.out.1]; exact hin)
              have hnz : (strOf ((namesF L).getD i [])).size ≤ maxLen := by rw [strOf_size]; unfold maxLen; omega
              have hrd := Three.read HV.out.1 (by omega) (strOf ((namesF L).getD i [])) hnz (f := f) (by rw [strOf_list]; exact hgf)
              rw [hfd] at hrd
              have hl2 : (namesF L).length = nN := by rw [namesF, ← HNL.out.2]
              have hl3 : (datasF L).length = nN := by rw [datasF, List.length_map, HNL.out.1]
              obtain ⟨g, cap, hwv, hx1, hx2, hcell⟩ := owT_at HV.out.2.nms (i := i) (by rw [hl2]; exact hin)
              obtain ⟨g2, cap2, hwv2, hx3, hx4, -⟩ := owT_at HV.out.2.was (i := i) (by rw [hl3]; exact hin)
              rw [hl2] at hwv
              rw [hl3] at hwv2 hx3
              obtain ⟨rfl, -, rfl⟩ := Value.slice.inj hwv
              obtain ⟨rfl, hnn2, rfl⟩ := Value.slice.inj hwv2
              obtain rfl := hnn2.symm
              have HRd := Lib.hid hrd
              have HL3 := Lib.hid hl3
              clear hgf hfd hnz hrd hn40 hwv hwv2 hx1 hl2 hl3
              generalize strOf ((namesF L).getD i []) = nn at *
              go_wp2_with fail
              refine HRd.out.mono ?_
              rintro r w12 ⟨rv, rfl, ho, hlv12, hst12⟩
              have hr12 := HV.out.2.stay hst12
              obtain ⟨g3, cap3, hwv3, -, -, hcell3⟩ := owT_at hr12.was (i := i) (by rw [HL3.out]; exact hin)
              rw [HL3.out] at hwv3
              have hg3 : g2 = g3 := by
                have := (Value.slice.inj hwv3).1
                simpa using this
              subst hg3
              have ht := fun q => (ho.rd.quiet q).str
              have H12 := Lib.hid (And.intro (hlv12.sub (G' := G) fun i hi => List.mem_append_right _ hi) hr12)
              clear ho hlv12 hst12 hr12 HRd hwv3 hcell
              generalize strOf ((datasF L).getD i []) = sd at *
              have hbe : (sd.toList == sd.toList) = true := by simp
              go_wp2_with fail
              go_quiet (fail)
              have H13 := Lib.hid (And.intro (H12.out.1.keep ((Upd.refl [] w12).drewN nq)) (H12.out.2.keep ((Upd.refl [] w12).drewN nq)))
              clear ht hcell3 H12
              generalize w12.drewN nq = w13 at *
              go_wp2_with fail
              go_roundg (nN - (i + 1))
              case measure => omega
              case rel => exact ⟨i + 1, by go_num, by omega, rfl, H13⟩
            · have hin' : ¬ (i : Int) < (nN : Int) := by omega
              go_wp2_with fail
              go_roundg (5 - (k + 1))
              case measure => omega
              case rel => exact ⟨k + 1, c' + 1, v8, by go_num, by omega, rfl, by omega, HV⟩
        · have hkr' : ¬ (k : Int) ≤ rr := hkr
          have HU := Lib.hid HT.out.1.upd
          go_wp2_with fail
          go_ret
          exact ⟨by simp, HU.out⟩
end Go.Proofs.YteepgehjkcahiaaGreat
