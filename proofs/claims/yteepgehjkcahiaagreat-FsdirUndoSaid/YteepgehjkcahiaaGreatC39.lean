/- Bytes: a call's data, some times over. FsdirUndo's plain part: three files, one behind another; a live file system beside two rows of texts. FsdirUndo: the walk. -/
import Derived.Test.YteepgehjkcahiaaGreatC38
namespace Go.Proofs.YteepgehjkcahiaaGreat
open Go.RowKit Go.Maps

abbrev aggC (x : CallR) : Value := .agg #[.int .i64 x.kind, .string x.nm, .string x.dst, x.dv, .int .i64 x.at_, .int .i64 x.n, x.pv]
set_option maxRecDepth 100000 in
theorem bytes_ok (w : World) (x : CallR) (hrd : Rd w x.dv x.d) (hd : x.d.length ≤ 140737488351232) (hn : In64 x.n) :
    Calls Tryz.prog 25 #[aggC x] w fun r w' => ∃ rv, r = .returned rv ∧ ∃ l : Bs, Ow w' w.heap.size rv l ∧ l.length ≤ 140737488355328 ∧ Upd [] w w' := by
  obtain ⟨kind, nm, dst, dv, d, at_, n, pv, pk⟩ := x
  dsimp only at hrd hd hn
  obtain ⟨pa, pc, rfl, q1, q2, -⟩ := hrd.slice
  have HP := Lib.hid fun X : World => pick_ok n 40 X hn.1 hn.2 (by omega) (by omega)
  have HRD := Lib.hid hrd
  clear hrd hn
  unfold aggC
  dsimp only
  go_enter Tryz.func25, Tryz.ntmps25
  go_wp2_with fail
  go_loopg [3, 4] 41 (fun gh v3 v4 wr => ∃ (i m c : Nat) (pa' : Option Addr) (l : Bs), v3 = .slice pa' m c ∧ v4 = .int .i64 i ∧ i ≤ 40 ∧ gh = 41 - i ∧ Hid (Ow wr (w.heap.size + 1) (.slice pa' m c) l ∧ Upd [] w wr ∧ m = l.length ∧ (l = [] ∨ d.length ≤ l.length) ∧ l.length ≤ 140737488355328 ∧ wr.heap[w.heap.size]? = some (.cells #[.int .i64 kind, .string nm, .string dst, .slice pa d.length pc, .int .i64 at_, .int .i64 n, pv] 49 (0, 0))))
  case atStart =>
    exact ⟨0, 0, 0, none, [], rfl, rfl, by omega, rfl, Lib.hid ⟨OwnG.nil _ _, (Upd.refl [] w).alloc _, rfl, .inl rfl, by simp, heap_top _ _⟩⟩
  case round =>
    obtain ⟨i, m, c, pa', l, rfl, rfl, hi, rfl, HS⟩ := hrel
    have c3 := cell_blk HS.out.2.2.2.2.2 3
    have c5 := cell_blk HS.out.2.2.2.2.2 5
    simp only [List.getElem?_toArray, List.getElem?_cons_zero, List.getElem?_cons_succ] at c3 c5
    have hmc : m ≤ c := (OwnG.at T8 HS.out.1).2.1
    have hcm : c ≤ 9223372036854775807 := by have := (OwnG.at T8 HS.out.1).2.2.1; unfold maxLen at this; omega
    go_wp2_with fail
    refine (HP.out _).mono ?_
    rintro r w3 ⟨⟨nn, rfl, hn0, hn1⟩, rfl⟩
    by_cases hin : (i : Int) ≤ nn
    · by_cases hm : m < 40000
      · have hm' : (m : Int) < 40000 := by omega
        have hsz := HS.out.2.1.size
        have hml := HS.out.2.2.1
        have hld : l.length + d.length ≤ 140737488355328 := by
          rcases HS.out.2.2.2.1 with e | e
          · subst e; simp; omega
          · omega
        have HL := Lib.hid (And.intro hml hld)
        have hblk := lt_of_blk HS.out.2.2.2.2.2
        subst hml
        go_wp2_with (first
          | (at_builtin; refine wpList_append_G T8 rfl _ _ rfl (base := w.heap.size + 1) (l := l) (r := d) rfl HS.out.1 rfl (HRD.out.keep HS.out.2.1).src (one8 _) ?c1 ?c2 ?c3 ?_)
          | fail)
        case c1 => omega
        case c2 => omega
        case c3 => omega
        intro v8 w8 ho8 hg8 hn8
        obtain ⟨a8, c8', m8, hm8, hv8⟩ := ho8.sliceM
        subst hv8
        have hu8 : Upd [] w w8 := HS.out.2.1.grown hg8 (fun g hg => by have := (HS.out.1.block g hg).1; omega)
        have hb8 : w8.heap[w.heap.size]? = _ := ((Upd.of_grown hg8).block w.heap.size hblk (fun q => by
          have e : (Value.slice pa' l.length c).ownBlock = some w.heap.size := by simpa using q
          have := (HS.out.1.block _ e).1; omega)).trans HS.out.2.2.2.2.2
        have H8 : Hid (Ow w8 (w.heap.size + 1) (.slice a8 m8 c8') (l ++ d) ∧ Upd [] w w8 ∧ m8 = (l ++ d).length ∧ ((l ++ d) = [] ∨ d.length ≤ (l ++ d).length) ∧ (l ++ d).length ≤ 140737488355328 ∧ w8.heap[w.heap.size]? = some (.cells #[.int .i64 kind, .string nm, .string dst, .slice pa d.length pc, .int .i64 at_, .int .i64 n, pv] 49 (0, 0))) :=
          Lib.hid ⟨ho8, hu8, hm8, .inr (by rw [List.length_append]; omega), by rw [List.length_append]; exact hld, hb8⟩
        clear ho8 hg8 hn8 hu8 hb8 hm8 hld
        go_wp2_with fail
        go_roundg (41 - (i + 1))
        case measure => omega
        case rel => exact ⟨i + 1, m8, c8', a8, l ++ d, rfl, by go_num, by omega, rfl, H8⟩
      · have hm' : decide ((m : Int) < 40000) = false := by rw [decide_eq_false_iff_not]; omega
        clear hm
        go_wp2_with fail
        go_ret
        exact ⟨_, rfl, l, HS.out.1.base (by omega), HS.out.2.2.2.2.1, HS.out.2.1⟩
    · go_wp2_with fail
      go_ret
      exact ⟨_, rfl, l, HS.out.1.base (by omega), HS.out.2.2.2.2.1, HS.out.2.1⟩
theorem bytes_at (W : World) (x : CallR) (hrd : Rd W x.dv x.d) (hd : x.d.length ≤ 140737488351232) (hn : In64 x.n) (X : World) (u : Upd [] W X) :
    Calls Tryz.prog 25 #[aggC x] X fun r X' => ∃ rv l, r = .returned rv ∧ Ow X' W.heap.size rv l ∧ l.length ≤ 140737488355328 ∧ Upd [] W X' :=
  (bytes_ok X x (hrd.keep u) hd hn).mono fun r X' ⟨rv, e, l, ho, hl, hu⟩ => ⟨rv, l, e, ho.base u.size, hl, u.trans hu⟩
section
variable {w0 W : World} {v p room : Nat} {fs last : Files} {c : Nat} {G : List Nat}
/-- Append of bytes that were made since; of its answer nothing is asked. -/
theorem Lv.append_new (h : Lv w0 W v p room fs last c G) (hc : c ≤ 1000000) (nm : ByteArray) (hs : nm.size ≤ maxLen) (X : World) (u : Upd [] W X) (rv : Value) (lb : Bs) (ho : Ow X W.heap.size rv lb) (hl : lb.length ≤ 140737488355328) :
    Calls Tryz.prog 16 #[.pointer (some ⟨v, 0, none⟩), .string nm, rv] X fun r X' => ∃ (cd : Nat) (fs' : Files), r = .returned (.int .i64 cd) ∧ Lv w0 X' v p room fs' last (c + 1) G ∧ Stay G W X' := by
  have hg := h.guard u (G' := rv.ownBlock.toList) fun b hb => ho.block b (by simpa using hb)
  refine (hg.append hc nm hs ho.rd (fun _ g e => .inl (by simp [e])) hl).mono fun r X' ⟨e, hlv, hst⟩ => ?_
  exact ⟨_, _, e, hlv.sub fun i hi => List.mem_append_right _ hi, (Stay.of u).trans (hst.sub fun i hi => List.mem_append_right _ hi)⟩
theorem Lv.rename_new (h : Lv w0 W v p room fs last c G) (h0 : 1 ≤ room) (a b : ByteArray) (hs : a.size ≤ maxLen) (ht : b.size ≤ maxLen) (X : World) (u : Upd [] W X) :
    Calls Tryz.prog 21 #[.pointer (some ⟨v, 0, none⟩), .string a, .string b] X fun r X' => ∃ (cd : Nat) (fs' : Files), r = .returned (.int .i64 cd) ∧ Lv w0 X' v p room fs' last c G ∧ Stay G W X' :=
  ((h.keep u).rename h0 a b hs ht).mono fun r X' ⟨e, hlv, hst⟩ => ⟨_, _, e, hlv, (Stay.of u).trans hst⟩
end
end Go.Proofs.YteepgehjkcahiaaGreat

namespace Go.Proofs.YteepgehjkcahiaaGreat
open Go.RowKit Go.Maps

def nm3 : List Bs := [nmA, nmB, nmC]
structure UndF (fs : Files) (xs : List Bs) : Prop where
  nms : fs.map (·.1) = nm3.take xs.length
  dat : fs.map (·.2.data) = xs
  few : xs.length ≤ 3
  sml : ∀ x ∈ xs, x.length ≤ 2000
theorem UndF.len {fs : Files} {xs : List Bs} (h : UndF fs xs) : fs.length = xs.length := by
  have := congrArg List.length h.dat
  simpa using this
theorem und_shape {fs : Files} {xs : List Bs} (h : UndF fs xs) (hi : xs.length < 3) : (xs.length = 0 ∧ fs = []) ∨ (xs.length = 1 ∧ ∃ ga, fs = [(nmA, ga)]) ∨ (xs.length = 2 ∧ ∃ ga gb, fs = [(nmA, ga), (nmB, gb)]) := by
  have hl := h.len
  have hn := h.nms
  match fs, hl, hn with
  | [], hl, _ => exact .inl ⟨hl.symm, rfl⟩
  | [(a, ga)], hl, hn =>
    have h1 : xs.length = 1 := hl.symm
    rw [h1] at hn
    obtain rfl : a = nmA := (List.cons.inj hn).1
    exact .inr (.inl ⟨h1, ga, rfl⟩)
  | [(a, ga), (b, gb)], hl, hn =>
    have h1 : xs.length = 2 := hl.symm
    rw [h1] at hn
    obtain ⟨rfl, hn2⟩ : a = nmA ∧ _ := List.cons.inj hn
    obtain rfl : b = nmB := (List.cons.inj hn2).1
    exact .inr (.inr ⟨h1, ga, gb, rfl⟩)
  | _ :: _ :: _ :: _, hl, _ => simp at hl; omega
def nmN (i : Nat) : Bs := nm3.getD i []
theorem und_new {fs : Files} {xs : List Bs} (h : UndF fs xs) (hi : xs.length < 3) : codeC false fs (nmN xs.length) = 0 ∧ crtF fs (nmN xs.length) = fs ++ [(nmN xs.length, emptyF)] ∧ getA (fs ++ [(nmN xs.length, emptyF)]) (nmN xs.length) = some emptyF ∧ ∀ g, putA ltN (fs ++ [(nmN xs.length, emptyF)]) (nmN xs.length) g = fs ++ [(nmN xs.length, g)] := by
  rcases und_shape h hi with ⟨e, rfl⟩ | ⟨e, ga, rfl⟩ | ⟨e, ga, gb, rfl⟩
  · rw [e]; exact ⟨rfl, rfl, rfl, fun g => rfl⟩
  · rw [e]; exact ⟨rfl, rfl, rfl, fun g => rfl⟩
  · rw [e]; exact ⟨rfl, rfl, rfl, fun g => rfl⟩
theorem und_push {fs : Files} {xs : List Bs} (h : UndF fs xs) (hi : xs.length < 3) {g : Fil} {d : Bs} (hg : g.data = d) (hd : d.length ≤ 2000) : UndF (fs ++ [(nmN xs.length, g)]) (xs ++ [d]) where
  nms := by
    rw [List.map_append, h.nms, List.length_append, List.length_singleton]
    rcases (show xs.length = 0 ∨ xs.length = 1 ∨ xs.length = 2 by omega) with e | e | e <;> rw [e] <;> rfl
  dat := by rw [List.map_append, h.dat]; simp [hg]
  few := by rw [List.length_append, List.length_singleton]; omega
  sml := fun x hx => by
    rcases List.mem_append.1 hx with q | q
    · exact h.sml x q
    · rw [List.mem_singleton.1 q]; exact hd
theorem und_app {w0 w : World} {v p : Nat} {fs : Files} {xs : List Bs} {c : Nat} {G : List Nat} (h : UndF fs xs) (hi : xs.length < 3) (hl : Lv w0 w v p 54 (fs ++ [(nmN xs.length, emptyF)]) [] c G) {d : Bs} (hd : d.length ≤ 2000) :
    codeP 54 (fs ++ [(nmN xs.length, emptyF)]) [] (nmN xs.length) d.length = 0 ∧ ∃ g : Fil, g.data = d ∧ apdF 54 (fs ++ [(nmN xs.length, emptyF)]) [] (nmN xs.length) d = fs ++ [(nmN xs.length, g)] := by
  obtain ⟨-, -, h3, h4⟩ := und_new h hi
  obtain ⟨l, k, s, hinv⟩ := hl.inv
  have hmem : ∀ q ∈ fs ++ [(nmN xs.length, emptyF)], q.2.data.length ≤ 512 * 4 := fun q hq => by
    rcases List.mem_append.1 hq with e | e
    · have : q.2.data ∈ xs := by rw [← h.dat]; exact List.mem_map.2 ⟨q, e, rfl⟩
      have := h.sml _ this
      omega
    · rw [List.mem_singleton.1 e]; simp [emptyF]
  have hb := blks_le hinv.now hmem
  rw [List.length_append, List.length_singleton, h.len] at hb
  have e0 : emptyF.data.length = 0 := rfl
  have hcode := hl.app_code (by simp [allBlks]) h3 (n := d.length) (by rw [e0]; omega) (by unfold needN; rw [e0]; unfold blocksN; omega)
  refine ⟨hcode, growF 54 (fs ++ [(nmN xs.length, emptyF)]) [] emptyF d, by rw [growF_data]; rfl, ?_⟩
  unfold apdF
  rw [if_pos hcode]
  unfold appF
  rw [h3]
  exact h4 _

abbrev namesO : Obj := .cells #[.string ⟨#[97]⟩, .string ⟨#[98]⟩, .string ⟨#[99]⟩] 9 (0, 0)
theorem names_at {w : World} {nb : Nat} (h : w.heap[nb]? = some namesO) {i : Nat} (hi : i < 3) : w.cell? ⟨nb, i, none⟩ = some (.string (strOf (nmN i))) := by
  rw [cell_blk h]
  rcases (show i = 0 ∨ i = 1 ∨ i = 2 by omega) with rfl | rfl | rfl <;> rfl
theorem names_rd {w : World} {nb : Nat} (h : w.heap[nb]? = some namesO) : RdT w (.slice (some ⟨nb, 0, none⟩) 3 3) nm3 := by
  refine ⟨some ⟨nb, 0, none⟩, 3, rfl, Nat.le_refl _, by unfold maxLen; omega, fun i hi => ⟨nb, 0, rfl, fun j u hu => ?_⟩⟩
  have hj : j = 0 := by
    have : j < (cT nm3[i]).length := (List.getElem?_eq_some_iff.1 hu).1
    simpa [cT] using this
  subst hj
  have h3 : i < 3 := hi
  rw [cell_blk h]
  rcases (show i = 0 ∨ i = 1 ∨ i = 2 by omega) with rfl | rfl | rfl <;> exact hu
/-- A live file system, the three names, and a row of texts of the law's own. -/
structure US (w0 w : World) (v p nb : Nat) (wv : Value) (xs : List Bs) (fs last : Files) (c : Nat) (G : List Nat) : Prop where
  lv : Lv w0 w v p 54 fs last c G
  nbk : w.heap[nb]? = some namesO
  nG : nb ∈ G
  was : OwT w w0.heap.size wv xs
  wG : ∀ g, wv.ownBlock = some g → g ∈ G
  nw : wv.ownBlock ≠ some nb
section
variable {w0 w w' : World} {v p nb : Nat} {wv : Value} {xs : List Bs} {fs last : Files} {c : Nat} {G : List Nat}
theorem US.step (h : US w0 w v p nb wv xs fs last c G) {fs' last' : Files} {c' : Nat} (hl : Lv w0 w' v p 54 fs' last' c' G) (hs : Stay G w w') : US w0 w' v p nb wv xs fs' last' c' G :=
  ⟨hl, (hs.block (h.lv.lt nb h.nG) h.nG).trans h.nbk, h.nG, hs.owT h.was h.wG, h.wG, h.nw⟩
theorem US.stepG (h : US w0 w v p nb wv xs fs last c G) {fs' last' : Files} {c' : Nat} {G' : List Nat} (hl : Lv w0 w' v p 54 fs' last' c' (G' ++ G)) (hs : Stay G w w') : US w0 w' v p nb wv xs fs' last' c' G :=
  h.step (hl.sub fun i hi => List.mem_append_right _ hi) hs
theorem US.keep (h : US w0 w v p nb wv xs fs last c G) (u : Upd [] w w') : US w0 w' v p nb wv xs fs last c G :=
  h.step (h.lv.keep u) (.of u)
theorem US.push (h : US w0 w v p nb wv xs fs last c G) {wv' : Value} {s : Bs} (hg : w.grownBy w' wv.ownBlock) (ho : OwT w' w0.heap.size wv' (xs ++ [s])) (hn : wv'.ownBlock = wv.ownBlock ∨ ∀ g, wv'.ownBlock = some g → w.heap.size ≤ g) : ∃ G', US w0 w' v p nb wv' (xs ++ [s]) fs last c G' := by
  have hu := Upd.of_grown hg
  have hF : ∀ i ∈ wv.ownBlock.toList, i ∈ G ∧ w0.heap.size ≤ i := fun i hi => by
    have e : wv.ownBlock = some i := by simpa using hi
    exact ⟨h.wG i e, (h.was.block i e).1⟩
  have hnl := h.lv.lt nb h.nG
  have hnb : w'.heap[nb]? = some namesO := (hu.block nb hnl fun q => h.nw (by simpa using q)).trans h.nbk
  rcases hn with q | q
  · exact ⟨_, h.lv.guardF hu hF (G' := []) (by simp), hnb, by simpa using h.nG, ho, fun g hg => by rw [q] at hg; simpa using h.wG g hg, by rw [q]; exact h.nw⟩
  · refine ⟨_, h.lv.guardF hu hF (G' := wv'.ownBlock.toList) (fun b hb => ?_), hnb, List.mem_append_right _ h.nG, ho, fun g hg => List.mem_append_left _ (by simp [hg]), fun e => by have := q nb e; omega⟩
    have e : wv'.ownBlock = some b := by simpa using hb
    exact ⟨q b e, (ho.block b e).2⟩
theorem US.at (h : US w0 w v p nb wv xs fs last c G) {i : Nat} (hi : i < xs.length) : ∃ g cap, wv = .slice (some ⟨g, 0, none⟩) xs.length cap ∧ xs.length ≤ cap ∧ cap ≤ 9223372036854775807 ∧ w.cell? ⟨g, i, none⟩ = some (.string (strOf (xs.getD i []))) := by
  obtain ⟨a, c, rfl⟩ := h.was.slice
  obtain ⟨-, h1, h2, h3⟩ := OwnG.at TT h.was
  obtain ⟨g, rfl, -, -, h4⟩ := h3 i hi
  refine ⟨g, c, rfl, h1, by unfold maxLen at h2; omega, ?_⟩
  have := h4 0 _ rfl
  rw [Nat.mul_one, Nat.add_zero] at this
  rw [List.getD_eq_getElem?_getD, List.getElem?_eq_getElem hi]
  exact this
end
theorem und_get {fs : Files} {xs : List Bs} (h : UndF fs xs) (h3 : xs.length = 3) {i : Nat} (hi : i < 3) : ∃ f, getA fs (nmN i) = some f ∧ f.data = xs.getD i [] := by
  have hl := h.len
  have hn := h.nms
  have hd := h.dat
  rw [h3] at hl hn
  match fs, hl, hn, hd with
  | [(a, ga), (b, gb), (c, gc)], _, hn, hd =>
    obtain ⟨rfl, hn2⟩ : a = nmA ∧ _ := List.cons.inj hn
    obtain ⟨rfl, hn3⟩ : b = nmB ∧ _ := List.cons.inj hn2
    obtain rfl : c = nmC := (List.cons.inj hn3).1
    subst hd
    rcases (show i = 0 ∨ i = 1 ∨ i = 2 by omega) with rfl | rfl | rfl
    · exact ⟨ga, rfl, rfl⟩
    · exact ⟨gb, rfl, rfl⟩
    · exact ⟨gc, rfl, rfl⟩
end Go.Proofs.YteepgehjkcahiaaGreat

namespace Go.Proofs.YteepgehjkcahiaaGreat
open Go.RowKit Go.Maps

set_option maxRecDepth 100000 in
set_option maxHeartbeats 16000000 in
theorem fsundo_walk (w : World) (sa sb : Option Addr) (sl sc tl tc : Nat) (l : List (Value × Bs)) (m : List CallR) (hs : SlAt 1 PcAt w (.slice sa sl sc) l) (hok : ∀ x ∈ l, PcOk w x) (ht : SlAt 7 CallAt w (.slice sb tl tc) m) (hot : ∀ x ∈ m, CallOk w x) (_hl : sl ≤ 9223372036854775807) (_ht : tl ≤ 9223372036854775807) :
    Calls Tryz.prog 10 #[.slice sa sl sc, .slice sb tl tc] w fun r w' => r = .returned (.bool true) ∧ Upd [] w w' := by
  have HA := Lib.hid (awake_ok w)
  have HL := Lib.hid fun (X : World) (u : Upd [] w X) => lv_laid w u 90 (by omega) (by omega)
  have HP := Lib.hid fun j (hj : j < sl) => pcs_at hs hok hj
  have HQ := Lib.hid fun j (hj : j < tl) => call_at ht hot hj
  clear hs hok ht hot
  go_enter Tryz.func10, Tryz.ntmps10
  go_wp2_with fail
  refine HA.out.mono ?_
  rintro r w1 ⟨rfl, hu1⟩
  have HU1 := Lib.hid hu1
  clear hu1
  go_wp2_with fail
  refine (HL.out _ HU1.out).mono ?_
  rintro r w2 ⟨p, v, rfl, hlv, -⟩
  have h2 : US w (w2.alloc namesO) v p w2.heap.size (.slice none 0 0) [] [] [] 0 [w2.heap.size] :=
    ⟨hlv.guard ((Upd.refl [] w2).alloc _) (G' := [w2.heap.size]) (by intro b hb; obtain rfl := List.mem_singleton.1 hb; exact ⟨Nat.le_refl _, by simp⟩), heap_top _ _, by simp, OwnG.nil _ _, (fun g hg => by cases hg), (fun e => by cases e)⟩
  have H2 := Lib.hid h2
  clear hlv h2 HL HA
  go_wp2_with fail
  generalize hnb : w2.heap.size = nb at *
  generalize w2.alloc namesO = w3 at *
  clear hnb
  go_loopg [9, 10, 11] 3 (fun gh v9 v10 v11 wr => ∃ (i n c : Nat) (a : Option Addr) (xs : List Bs) (fs : Files) (cc : Nat) (G : List Nat), v9 = .slice a n c ∧ v10 = .int .i64 i ∧ i ≤ 3 ∧ gh = 3 - i ∧ cc ≤ 100 * i ∧ Hid (US w wr v p nb (.slice a n c) xs fs [] cc G ∧ UndF fs xs ∧ xs.length = i))
  case atStart => exact ⟨0, 0, 0, none, [], [], 0, _, rfl, rfl, by omega, rfl, by omega, Lib.hid ⟨H2.out, ⟨rfl, rfl, by simp, by simp⟩, rfl⟩⟩
  case round =>
    obtain ⟨i, n, c, a, xs, fs, cc, G, rfl, rfl, hi, rfl, hcc, HS⟩ := hrel
    by_cases hi3 : i < 3
    · have hi3' : (i : Int) < 3 := by omega
      go_upto_if 37 with fail
      go_cut [11] (fun v11 wx => ∃ (pa : Option Addr) (mm pc : Nat) (d : Bs), v11 = .slice pa mm pc ∧ mm ≤ pc ∧ pc ≤ 9223372036854775807 ∧ mm ≤ 2000 ∧ Hid (US w wx v p nb (.slice a n c) xs fs [] cc G ∧ Rd w (.slice pa mm pc) d ∧ d.length = mm ∧ (d ≠ [] → ∀ g, (Value.slice pa mm pc).ownBlock = some g → g < w.heap.size)))
      case first =>
        by_cases his : i < sl
        · have his' : (i : Int) < (sl : Int) := by omega
          have HX := HS.out.1.lv
          obtain ⟨W, hW⟩ : ∃ W, W = wr := ⟨_, rfl⟩
          subst hW
          obtain ⟨b, off, pa, pc, d, rfl, d0, hrd, hd1, hd2, hd3, hd4⟩ := HP.out i his
          have d1 := held1 HX.upd d0
          obtain ⟨mm, hmm⟩ : ∃ mm, mm = min d.length 2000 := ⟨_, rfl⟩
          have hmin : min (d.length : Int) 2000 = (mm : Int) := by omega
          have hmd : mm ≤ d.length := by omega
          have hm7 : mm ≤ 2000 := by omega
          have hmpc : mm ≤ pc := by omega
          have hrc := hrd.head mm hmd
          have hdl : (d.take mm).length = mm := by rw [List.length_take]; omega
          have hne : d.take mm ≠ [] → ∀ g, (Value.slice pa mm pc).ownBlock = some g → g < w.heap.size := fun q g hg => hd4 (fun e => q (by rw [e]; simp)) g (by cases pa <;> exact hg)
          have HR := Lib.hid (And.intro hrc (And.intro hdl hne))
          clear d0 hrd hd4 hrc hdl hne HX hmm
          go_wp2_with fail
          go_quiet (fail)
          have hst := HS.out.1.keep ((Upd.refl [] W).drewN nq)
          generalize W.drewN nq = W2 at *
          go_wp2_with fail
          go_meet
          exact ⟨_, mm, pc, d.take mm, rfl, hmpc, hd3, hm7, Lib.hid ⟨hst, HR.out.1, HR.out.2.1, HR.out.2.2⟩⟩
        · have his' : ¬ (i : Int) < (sl : Int) := by omega
          go_wp2_with fail
          go_meet
          exact ⟨none, 0, 0, [], rfl, by omega, by omega, by omega, Lib.hid ⟨HS.out.1, Rd.nil _, rfl, fun h => absurd rfl h⟩⟩
      case rest =>
        obtain ⟨pa, mm, pc, d, rfl, hmpc, hpc, hm2, HT⟩ := hcut
        obtain ⟨i', hi'⟩ : ∃ i', i' = i := ⟨_, rfl⟩
        have hxi : xs.length = i := HS.out.2.2
        have hxl : xs.length < 3 := by omega
        obtain ⟨u1, u2, u3, u4⟩ := und_new HS.out.2.1 hxl
        rw [hxi] at u1 u2 u3 u4
        have HXI := Lib.hid hxi
        have hnz : (strOf (nmN i)).size ≤ maxLen := by
          rw [strOf_size]; unfold maxLen
          rcases (show i = 0 ∨ i = 1 ∨ i = 2 by omega) with e | e | e <;> rw [e] <;> decide
        have hnl : (strOf (nmN i)).data.toList = nmN i := strOf_list _
        have hcr := HT.out.1.lv.create (strOf (nmN i)) hnz
        rw [hnl, u1, u2] at hcr
        have d0 := names_at HT.out.1.nbk hi3
        have HCr := Lib.hid hcr
        have HNZ := Lib.hid (And.intro hnz hnl)
        clear hcr u1 u2 u3 u4 hnz hnl hxi
        generalize hnn : strOf (nmN i) = nn at *
        go_wp2_with fail
        refine HCr.out.mono ?_
        rintro r w4 ⟨rfl, hlv4, hst4⟩
        have h4 := HT.out.1.step hlv4 hst4
        have hap := und_app (d := d) HS.out.2.1 hxl (by rw [HXI.out]; exact hlv4) (by rw [HT.out.2.2.1]; exact hm2)
        rw [HXI.out] at hap
        obtain ⟨hcode, g, hgd, hapd⟩ := hap
        have hap1 := h4.lv.append (by omega) nn HNZ.out.1 (HT.out.2.1.keep h4.lv.upd) (fun q g hg => .inr (HT.out.2.2.2 q g hg)) (by rw [HT.out.2.2.1]; omega)
        rw [HNZ.out.2, hcode, hapd] at hap1
        have HAp := Lib.hid hap1
        have H4 := Lib.hid h4
        have HG := Lib.hid hgd
        have d4 := names_at h4.nbk hi3
        rw [hnn] at d4
        clear hlv4 hst4 h4 hcode hgd hapd hap1 HCr d0
        go_wp2_with fail
        refine HAp.out.mono ?_
        rintro r w5 ⟨rfl, hlv5, hst5⟩
        have h5 := H4.out.step hlv5 hst5
        have hts := Rd.str (HT.out.2.1.keep h5.lv.upd)
        have H5 := Lib.hid h5
        have HO5 : Hid (∀ X : Obj, OwT (w5.alloc X) w.heap.size (.slice a n c) xs) := Lib.hid fun X => (h5.keep ((Upd.refl [] w5).alloc X)).was
        have hns : n = xs.length := (OwnG.at TT h5.was).1
        have hnc : n ≤ c := (OwnG.at TT h5.was).2.1
        have hcm : c ≤ 9223372036854775807 := by have := (OwnG.at TT h5.was).2.2.1; unfold maxLen at this; omega
        have hsz5 := h5.lv.upd.size
        clear hlv5 hst5 h5 HAp d4
        clear hns
        go_wp2_with (first
          | (at_builtin; go_loud (refine wpList_append_G TT rfl _ _ rfl (base := w.heap.size) (l := xs) (r := [d]) rfl (HO5.out _) rfl (src_new TT (ty := 9) (heap_top _ _)) (oneT _) ?c1 ?c2 ?c3 ?_))
          | fail)
        case c1 => simp; omega
        case c2 => simp; omega
        case c3 => simp; omega
        intro v8 w8 ho8 hg8 hn8
        obtain ⟨a8, c8', hv8⟩ := ho8.slice
        obtain ⟨m8, hm8⟩ : ∃ m8, m8 = (xs ++ [d]).length := ⟨_, rfl⟩
        rw [← hm8] at hv8
        subst hv8
        obtain ⟨G8, h8⟩ := (H5.out.keep ((Upd.refl [] w5).alloc _)).push hg8 ho8 (by rw [World.size_alloc]; exact hn8)
        have H8 := Lib.hid h8
        clear ho8 hg8 hn8 h8 H5 HO5
        go_wp2_with fail
        go_roundg (3 - (i + 1))
        case measure => omega
        case rel =>
          have hpu := und_push HS.out.2.1 hxl HG.out (by rw [HT.out.2.2.1]; exact hm2)
          rw [HXI.out] at hpu
          exact ⟨i + 1, m8, c8', a8, xs ++ [d], _, cc + 1, G8, rfl, by go_num, by omega, rfl, by omega, Lib.hid ⟨H8.out, hpu, by rw [List.length_append, List.length_singleton, HXI.out]⟩⟩
    · have hi3' : ¬ (i : Int) < 3 := by omega
      obtain ⟨i', rfl⟩ : ∃ i', i' = i := ⟨_, rfl⟩
      have hx3 : xs.length = 3 := by have := HS.out.2.2; omega
      have HX3 := Lib.hid hx3
      have HSy := Lib.hid (HS.out.1.lv.sync (by omega))
      clear hx3
      go_wp2_with fail
      refine HSy.out.mono ?_
      rintro r w4 ⟨rfl, hlv4, hst4⟩
      have h4 := HS.out.1.step hlv4 hst4
      have H4 := Lib.hid h4
      have HFr := Lib.hid h4.lv.free
      clear hlv4 hst4 h4 HSy
      generalize hfr : freeN 54 fs fs = fr at *
      go_wp2_with fail
      refine HFr.out.mono ?_
      rintro r w5 ⟨rfl, hlv5, hst5⟩
      have h5 := H4.out.step hlv5 hst5
      have H5 := Lib.hid h5
      have HUF := Lib.hid HS.out.2.1
      have hcc' : cc + 1 ≤ 301 := by omega
      generalize cc + 1 = c0 at *
      have HF := Lib.hid hfr
      clear hlv5 hst5 h5 HFr H4 hfr HS
      generalize hL : fs = L at *
      clear hL
      go_upto_block 2 with fail
      go_cut [13] (fun v13 wx => ∃ (fs' : Files) (c' : Nat), c' ≤ c0 + 20 ∧ Hid (US w wx v p nb (.slice a n c) xs fs' L c' G))
      case first =>
        go_wp2_with fail
        go_loopg [13] 20 (fun gh v13 wr => ∃ (j : Nat) (fs' : Files) (c' : Nat), v13 = .int .i64 j ∧ j ≤ 20 ∧ gh = 20 - j ∧ c' ≤ c0 + j ∧ Hid (US w wr v p nb (.slice a n c) xs fs' L c' G))
        case atStart => exact ⟨0, L, c0, rfl, by omega, rfl, by omega, H5⟩
        case round =>
          obtain ⟨j, fs', c', rfl, hj, rfl, hc', HS⟩ := hrel
          by_cases hjl : j < tl
          · have hjl' : (j : Int) < (tl : Int) := by omega
            by_cases hj20 : j < 20
            · have hj20' : (j : Int) < 20 := by omega
              obtain ⟨W, hW⟩ : ∃ W, W = wr := ⟨_, rfl⟩
              subst hW
              obtain ⟨b, off, x, pa, qa, pc, qc, rfl, hat0, hxo, hdv, hpc1, hpc2, hpv⟩ := HQ.out j hjl
              obtain ⟨kind, nm, dst, dv, d, at_, nn, pv, pk⟩ := x
              dsimp only at hdv hpc1 hpv
              subst hdv hpv
              have hat := hat0.keep HS.out.lv.upd
              have c0' := hat.c0
              have c1' := hat.c1
              have c2' := hat.c2
              dsimp only at c0' c1' c2'
              have hk := hxo.kind
              have hn1 : nm.size ≤ maxLen := by have := hxo.nm; dsimp only at this; unfold maxLen; omega
              have hn2 : dst.size ≤ maxLen := by have := hxo.dst; dsimp only at this; unfold maxLen; omega
              have HPk := Lib.hid fun X : World => pick_ok kind 4 X hk.1 hk.2 (by omega) (by omega)
              have HN := Lib.hid (And.intro hn1 hn2)
              have HAT := Lib.hid (And.intro hat0 hxo)
              clear hat hat0 hxo hk hn1 hn2
              go_wp2_with fail
              refine (HPk.out _).mono ?_
              rintro r w6 ⟨⟨rr, rfl, hr0, hr1⟩, rfl⟩
              rcases (show rr = 0 ∨ rr = 1 ∨ rr = 2 ∨ rr = 3 by omega) with rfl | rfl | rfl | rfl
              · have HCr := Lib.hid (HS.out.lv.create nm HN.out.1)
                go_wp2_with fail
                refine HCr.out.mono ?_
                rintro r w7 ⟨rfl, hlv7, hst7⟩
                have H7 := Lib.hid (HS.out.step hlv7 hst7)
                clear hlv7 hst7 HCr
                go_wp2_with fail
                go_roundg (20 - (j + 1))
                case measure => omega
                case rel => exact ⟨j + 1, _, c', by go_num, by omega, rfl, by omega, H7⟩
              · have HCK : Hid (∀ X, Upd [] w X → (fun X => X.cell? ⟨b, off + j * 7, none⟩ = some (.int .i64 kind) ∧ X.cell? ⟨b, off + j * 7 + 1, none⟩ = some (.string nm) ∧ X.cell? ⟨b, off + j * 7 + 2, none⟩ = some (.string dst) ∧ X.cell? ⟨b, off + j * 7 + 3, none⟩ = some (.slice pa d.length pc) ∧ X.cell? ⟨b, off + j * 7 + 4, none⟩ = some (.int .i64 at_) ∧ X.cell? ⟨b, off + j * 7 + 5, none⟩ = some (.int .i64 nn) ∧ X.cell? ⟨b, off + j * 7 + 6, none⟩ = some (.slice qa pk.length qc)) X) := Lib.hid fun X u => by
                  have h := HAT.out.1.keep u
                  exact ⟨h.c0, h.c1, h.c2, h.c3, h.c4, h.c5, h.c6⟩
                have HUW := Lib.hid HS.out.lv.upd
                have hby := bytes_at W ⟨kind, nm, dst, .slice pa d.length pc, d, at_, nn, .slice qa pk.length qc, pk⟩ (HAT.out.1.rd.keep HUW.out) HAT.out.2.d HAT.out.2.n
                dsimp only [aggC] at hby
                have HBy := Lib.hid hby
                clear hby
                have HAp := Lib.hid (HS.out.lv.append_new (by omega) nm HN.out.1)
                obtain ⟨k0, k1, k2, k3, k4, k5, k6⟩ := HCK.out _ HUW.out
                clear c0' c1' c2'
                go_wp2_with fail
                go_region_held3 (fun X => X.cell? ⟨b, off + j * 7, none⟩ = some (.int .i64 kind) ∧ X.cell? ⟨b, off + j * 7 + 1, none⟩ = some (.string nm) ∧ X.cell? ⟨b, off + j * 7 + 2, none⟩ = some (.string dst) ∧ X.cell? ⟨b, off + j * 7 + 3, none⟩ = some (.slice pa d.length pc) ∧ X.cell? ⟨b, off + j * 7 + 4, none⟩ = some (.int .i64 at_) ∧ X.cell? ⟨b, off + j * 7 + 5, none⟩ = some (.int .i64 nn) ∧ X.cell? ⟨b, off + j * 7 + 6, none⟩ = some (.slice qa pk.length qc))
                  (first
                    | (with_reducible exact HCK.out _ HUW.out.drew)
                    | (with_reducible exact HCK.out _ (HUW.out.trans hv6))
                    | (with_reducible exact HCK.out _ hlv7.upd))
                  (first
                    | (go_at_call 25; (with_reducible refine (HBy.out _ ?_).mono ?_); (exact (Upd.refl [] W).drew); rintro e w6 ⟨rv, lb, rfl, ho6, hl6, hv6⟩)
                    | (go_at_call 16; (with_reducible refine (HAp.out _ hv6 _ _ ho6 hl6).mono ?_); rintro e w7 ⟨cd, fs7, rfl, hlv7, hst7⟩))
                have H7 := Lib.hid (HS.out.step hlv7 hst7)
                clear hlv7 hst7 ho6 hl6 hv6 HAp HBy HCK k0 k1 k2 k3 k4 k5 k6
                go_wp2_with fail
                go_roundg (20 - (j + 1))
                case measure => omega
                case rel => exact ⟨j + 1, _, c' + 1, by go_num, by omega, rfl, by omega, H7⟩
              · have HCK : Hid (∀ X, Upd [] w X → (fun X => X.cell? ⟨b, off + j * 7 + 1, none⟩ = some (.string nm) ∧ X.cell? ⟨b, off + j * 7 + 2, none⟩ = some (.string dst)) X) := Lib.hid fun X u => by
                  have h := HAT.out.1.keep u
                  exact ⟨h.c1, h.c2⟩
                have HUW := Lib.hid HS.out.lv.upd
                have HRn := Lib.hid (HS.out.lv.rename_new (by omega) nm dst HN.out.1 HN.out.2)
                clear c0' c1' c2'
                obtain ⟨k1, k2⟩ := HCK.out _ HUW.out
                go_wp2_with fail
                go_region_held3 (fun X => X.cell? ⟨b, off + j * 7 + 1, none⟩ = some (.string nm) ∧ X.cell? ⟨b, off + j * 7 + 2, none⟩ = some (.string dst))
                  (first
                    | (with_reducible exact HCK.out _ HUW.out.drew)
                    | (with_reducible exact HCK.out _ hlv7.upd))
                  (first
                    | (go_at_call 21; (with_reducible refine (HRn.out _ ?_).mono ?_); (exact (Upd.refl [] W).drew); rintro e w7 ⟨cd, fs7, rfl, hlv7, hst7⟩))
                have H7 := Lib.hid (HS.out.step hlv7 hst7)
                clear hlv7 hst7 HRn HCK k1 k2
                go_wp2_with fail
                go_roundg (20 - (j + 1))
                case measure => omega
                case rel => exact ⟨j + 1, _, c', by go_num, by omega, rfl, by omega, H7⟩
              · have HCr := Lib.hid (HS.out.lv.remove (by omega) nm HN.out.1)
                go_wp2_with fail
                refine HCr.out.mono ?_
                rintro r w7 ⟨rfl, hlv7, hst7⟩
                have H7 := Lib.hid (HS.out.step hlv7 hst7)
                clear hlv7 hst7 HCr
                go_wp2_with fail
                go_roundg (20 - (j + 1))
                case measure => omega
                case rel => exact ⟨j + 1, _, c', by go_num, by omega, rfl, by omega, H7⟩
            · have hj20' : ¬ (j : Int) < 20 := by omega
              go_wp2_with fail
              go_meet
              exact ⟨fs', c', by omega, HS⟩
          · have hjl' : ¬ (j : Int) < (tl : Int) := by omega
            go_wp2_with fail
            go_meet
            exact ⟨fs', c', by omega, HS⟩
      case rest =>
        obtain ⟨fs', c', hc', HS⟩ := hcut
        have HRs := Lib.hid HS.out.lv.reset
        go_wp2_with fail
        refine HRs.out.mono ?_
        rintro r w6 ⟨rfl, hlv6, hst6⟩
        have h6 := HS.out.step hlv6 hst6
        have H6 := Lib.hid h6
        have HLi := Lib.hid h6.lv.list
        clear hlv6 hst6 h6 HRs
        go_wp2_with fail
        refine HLi.out.mono ?_
        rintro r w7 ⟨u, rfl, ho7, hu7, hlv7⟩
        have h7 := H6.out.keep hu7
        have hst := same_texts w7 (OwnG.sl TT ho7) (names_rd h7.nbk)
        rw [decide_eq_true (by rw [HUF.out.nms, HX3.out]; rfl)] at hst
        have HST := Lib.hid hst
        have H7 := Lib.hid h7
        clear ho7 hu7 hlv7 h7 hst HLi
        go_wp2_with fail
        refine HST.out.mono ?_
        rintro r w8 ⟨rfl, hu8⟩
        have H8 := Lib.hid (H7.out.keep hu8)
        clear hu8 HST
        go_wp2_with fail
        go_loopg [14, 15, 16, 17] 3 (fun gh v14 v15 v16 v17 wr => ∃ i : Nat, v14 = .bool true ∧ v15 = .int .i64 i ∧ i ≤ 3 ∧ gh = 3 - i ∧ Hid (US w wr v p nb (.slice a n c) xs L L c' G))
        case atStart => exact ⟨0, rfl, rfl, by omega, rfl, H8⟩
        case round =>
          obtain ⟨i, rfl, rfl, hi, rfl, HT⟩ := hrel
          by_cases hi3 : i < 3
          · have hi3' : (i : Int) < 3 := by omega
            obtain ⟨f, hgf, hfd⟩ := und_get HUF.out HX3.out hi3
            have d0 := names_at HT.out.nbk hi3
            have hnz : (strOf (nmN i)).size ≤ maxLen := by
              rw [strOf_size]; unfold maxLen
              rcases (show i = 0 ∨ i = 1 ∨ i = 2 by omega) with e | e | e <;> rw [e] <;> decide
            have hrd := Three.read HT.out.lv (by omega) (strOf (nmN i)) hnz (f := f) (by rw [strOf_list]; exact hgf)
            rw [hfd] at hrd
            have HRd := Lib.hid hrd
            clear hgf hfd hnz hrd
            generalize strOf (nmN i) = nn at *
            go_wp2_with fail
            refine HRd.out.mono ?_
            rintro r w9 ⟨rv, rfl, ho, hlv9, hst9⟩
            have h9 := HT.out.stepG hlv9 hst9
            obtain ⟨g, cap, hwv, hx1, hx2, hcell⟩ := h9.at (i := i) (by rw [HX3.out]; exact hi3)
            rw [HX3.out] at hwv hx1
            obtain ⟨rfl, rfl, rfl⟩ := Value.slice.inj hwv
            have ht := fun q => (ho.rd.quiet q).str
            have H9 := Lib.hid h9
            clear ho hlv9 hst9 h9 HRd hwv d0
            generalize strOf (xs.getD i []) = sd at *
            have hbe : (sd.toList == sd.toList) = true := by simp
            go_wp2_with fail
            go_quiet (fail)
            have h10 := H9.out.keep ((Upd.refl [] w9).drewN nq)
            have H10 := Lib.hid h10
            clear ht h10 hcell H9
            generalize w9.drewN nq = w10 at *
            go_wp2_with fail
            go_roundg (3 - (i + 1))
            case measure => omega
            case rel => exact ⟨i + 1, rfl, by go_num, by omega, rfl, H10⟩
          · have hi3' : ¬ (i : Int) < 3 := by omega
            have hfe := HT.out.lv.free
            rw [HF.out] at hfe
            have HFe := Lib.hid hfe
            have he : ((fr : Int) == (fr : Int)) = true := by simp
            clear hfe
            go_wp2_with fail
            refine HFe.out.mono ?_
            rintro r w9 ⟨rfl, hlv9, -⟩
            have HU := Lib.hid hlv9.upd
            clear hlv9
            go_wp2_with fail
            go_ret
            exact ⟨by simp, HU.out⟩
end Go.Proofs.YteepgehjkcahiaaGreat
