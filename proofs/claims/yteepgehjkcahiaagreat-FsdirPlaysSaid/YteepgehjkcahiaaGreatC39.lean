/- Bytes: a call's data, some times over. A file system whose device may have a fuse, or went down: each call in one step. Mounted: behind a crash a file system is mounted, however often the device goes down in that. -/
import Derived.Test.YteepgehjkcahiaaGreatC38
namespace Go.Proofs.YteepgehjkcahiaaGreat
open Go.RowKit Go.Maps
abbrev aggC (x : CallR) : Value := .agg #[.int .i64 x.kind, .string x.nm, .string x.dst, x.dv, .int .i64 x.at_, .int .i64 x.n, x.pv]
set_option maxRecDepth 100000 in
theorem bytes_ok (w : World) (x : CallR) (hrd : Rd w x.dv x.d) (hd : x.d.length ≤ 140737488351232) (hn : In64 x.n) :
  Calls Tryz.prog 25 #[aggC x] w fun r w' => ∃ rv, r = .returned rv ∧ ∃ l : Bs, Ow w' w.heap.size rv l ∧ l.length ≤ 140737488355328 ∧ Upd [] w w' := by
 obtain ⟨kind, nm, dst, dv, d, at_, n, pv, pk⟩ := x
 dsimp only at hrd hd hn
 obtain ⟨pa, pc, rfl, q1, q2, -⟩ := hrd.slice
 have HP := Lib.hid fun X : World => pick_ok n 40 X hn.1 hn.2 (by omega) (by omega)
 have HRD := Lib.hid hrd
 clear hrd hn
 unfold aggC
 dsimp only
 go_enter Tryz.func25, Tryz.ntmps25
 go_wp2_with fail
 go_loopg [3, 4] 41 (fun gh v3 v4 wr => ∃ (i m c : Nat) (pa' : Option Addr) (l : Bs), v3 = .slice pa' m c ∧ v4 = .int .i64 i ∧ i ≤ 40 ∧ gh = 41 - i ∧ Hid (Ow wr (w.heap.size + 1) (.slice pa' m c) l ∧ Upd [] w wr ∧ m = l.length ∧ (l = [] ∨ d.length ≤ l.length) ∧ l.length ≤ 140737488355328 ∧ wr.heap[w.heap.size]? = some (.cells #[.int .i64 kind, .string nm, .string dst, .slice pa d.length pc, .int .i64 at_, .int .i64 n, pv] 49 (0, 0))))
 case atStart =>
  exact ⟨0, 0, 0, none, [], rfl, rfl, by omega, rfl, Lib.hid ⟨OwnG.nil _ _, (Upd.refl [] w).alloc _, rfl, .inl rfl, by simp, heap_top _ _⟩⟩
 case round =>
  obtain ⟨i, m, c, pa', l, rfl, rfl, hi, rfl, HS⟩ := hrel
  have c3 := cell_blk HS.out.2.2.2.2.2 3
  have c5 := cell_blk HS.out.2.2.2.2.2 5
  simp only [List.getElem?_toArray, List.getElem?_cons_zero, List.getElem?_cons_succ] at c3 c5
  have hmc : m ≤ c := (OwnG.at T8 HS.out.1).2.1
  have hcm : c ≤ 9223372036854775807 := by have := (OwnG.at T8 HS.out.1).2.2.1; unfold maxLen at this; omega
  go_wp2_with fail
  refine (HP.out _).mono ?_
  rintro r w3 ⟨⟨nn, rfl, hn0, hn1⟩, rfl⟩
  by_cases hin : (i : Int) ≤ nn
  ·by_cases hm : m < 40000
   ·have hm' : (m : Int) < 40000 := by omega
    have hsz := HS.out.2.1.size
    have hml := HS.out.2.2.1
    have hld : l.length + d.length ≤ 140737488355328 := by
     rcases HS.out.2.2.2.1 with e | e
     ·subst e; simp; omega
     ·omega
    have HL := Lib.hid (And.intro hml hld)
    have hblk := lt_of_blk HS.out.2.2.2.2.2
    subst hml
    go_wp2_with (first
     | (at_builtin; refine wpList_append_G T8 rfl _ _ rfl (base := w.heap.size + 1) (l := l) (r := d) rfl HS.out.1 rfl (HRD.out.keep HS.out.2.1).src (one8 _) ?c1 ?c2 ?c3 ?_)
     | fail)
    case c1 => omega
    case c2 => omega
    case c3 => omega
    intro v8 w8 ho8 hg8 hn8
    obtain ⟨a8, c8', m8, hm8, hv8⟩ := ho8.sliceM
    subst hv8
    have hu8 : Upd [] w w8 := HS.out.2.1.grown hg8 (fun g hg => by have := (HS.out.1.block g hg).1; omega)
    have hb8 : w8.heap[w.heap.size]? = _ := ((Upd.of_grown hg8).block w.heap.size hblk (fun q => by
     have e : (Value.slice pa' l.length c).ownBlock = some w.heap.size := by simpa using q
     have := (HS.out.1.block _ e).1; omega)).trans HS.out.2.2.2.2.2
    have H8 : Hid (Ow w8 (w.heap.size + 1) (.slice a8 m8 c8') (l ++ d) ∧ Upd [] w w8 ∧ m8 = (l ++ d).length ∧ ((l ++ d) = [] ∨ d.length ≤ (l ++ d).length) ∧ (l ++ d).length ≤ 140737488355328 ∧ w8.heap[w.heap.size]? = some (.cells #[.int .i64 kind, .string nm, .string dst, .slice pa d.length pc, .int .i64 at_, .int .i64 n, pv] 49 (0, 0))) :=
     Lib.hid ⟨ho8, hu8, hm8, .inr (by rw [List.length_append]; omega), by rw [List.length_append]; exact hld, hb8⟩
    clear ho8 hg8 hn8 hu8 hb8 hm8 hld
    go_wp2_with fail
    go_roundg (41 - (i + 1))
    case measure => omega
    case rel => exact ⟨i + 1, m8, c8', a8, l ++ d, rfl, by go_num, by omega, rfl, H8⟩
   ·have hm' : decide ((m : Int) < 40000) = false := by rw [decide_eq_false_iff_not]; omega
    clear hm
    go_wp2_with fail
    go_ret
    exact ⟨_, rfl, l, HS.out.1.base (by omega), HS.out.2.2.2.2.1, HS.out.2.1⟩
  ·go_wp2_with fail
   go_ret
   exact ⟨_, rfl, l, HS.out.1.base (by omega), HS.out.2.2.2.2.1, HS.out.2.1⟩
section
variable {w0 W : World} {v p room : Nat} {fs last : Files} {c : Nat} {G : List Nat}
end
end Go.Proofs.YteepgehjkcahiaaGreat

namespace Go.Proofs.YteepgehjkcahiaaGreat
open Go.RowKit Go.Maps
structure LvF (w0 w : World) (v p room : Nat) (fs last : Files) (c : Nat) (G : List Nat) : Prop where
 st : ∃ (D : Dev) (k s : Nat) (X : Fsd), FsAt w v p D room k s fs last X ∧ (∀ i ∈ X.fp v, w0.heap.size ≤ i) ∧ k ≤ 3 + 2 * c ∧ D.wr ≤ 10000 + 50000 * c ∧ ∀ i ∈ G, i ∉ X.fp v
 upd : Upd [] w0 w
 lt : ∀ i ∈ G, i < w.heap.size
 one : 1 ≤ room
structure Dv (w0 w : World) (p room : Nat) (P : Files → Prop) (c : Nat) (G : List Nat) : Prop where
 st : ∃ (D : Dev) (F : List Nat), DevAt w p D F ∧ (∀ i ∈ F, w0.heap.size ≤ i) ∧ room + 36 = D.n ∧ D.wr ≤ 10000 + 50000 * c ∧ (∀ i ∈ G, i ∉ F) ∧ ∀ l', CrashOf D.blk l' → ∃ (k' : Nat) (fs' : Files), k' ≤ 3 + 2 * c ∧ P fs' ∧ Rest l' room k' fs'
 upd : Upd [] w0 w
 lt : ∀ i ∈ G, i < w.heap.size
 one : 1 ≤ room
structure Fl (w0 w : World) (v p room : Nat) (P : Files → Prop) (c : Nat) (G : List Nat) : Prop where
 st : ∃ (D : Dev) (F : List Nat), Fell w v p D F ∧ (∀ i ∈ F, w0.heap.size ≤ i) ∧ room + 36 = D.n ∧ D.wr ≤ 10000 + 50000 * c ∧ (∀ i ∈ G, i ∉ F) ∧ ∀ l', CrashOf D.blk l' → ∃ (k' : Nat) (fs' : Files), k' ≤ 3 + 2 * c ∧ P fs' ∧ Rest l' room k' fs'
 upd : Upd [] w0 w
 lt : ∀ i ∈ G, i < w.heap.size
 one : 1 ≤ room
structure CrF (w0 w : World) (p room : Nat) (P : Files → Prop) (safe : Bool) (c : Nat) (G : List Nat) : Prop where
 st : ∃ (D : Dev) (k : Nat) (F : List Nat) (fs : Files), P fs ∧ DevAt w p D F ∧ D.down = false ∧ (safe = true → D.fuse < 0) ∧ D.wr ≤ 10000 + 50000 * c ∧ Rest D.blk room k fs ∧ room + 36 = D.n ∧ k ≤ 3 + 2 * c ∧ (∀ i ∈ F, w0.heap.size ≤ i) ∧ ∀ i ∈ G, i ∉ F
 upd : Upd [] w0 w
 lt : ∀ i ∈ G, i < w.heap.size
 one : 1 ≤ room
section
variable {w0 w w' : World} {v p room : Nat} {fs last : Files} {c : Nat} {G : List Nat} {P : Files → Prop}
theorem LvF.of (h : Lv w0 w v p room fs last c G) (h1 : 1 ≤ room) : LvF w0 w v p room fs last c G := by
 obtain ⟨D, k, s, X, h2, h3, h4, h5⟩ := h.st
 exact ⟨⟨D, k, s, X, h2.at_, h2.low, h3, h4, h5⟩, h2.upd, h.lt, h1⟩
theorem LvF.sub {G' : List Nat} (h : LvF w0 w v p room fs last c G) (hs : ∀ i ∈ G', i ∈ G) : LvF w0 w v p room fs last c G' := by
 obtain ⟨D, k, s, X, h1, h2, h3, h4, h5⟩ := h.st
 exact ⟨⟨D, k, s, X, h1, h2, h3, h4, fun i hi => h5 i (hs i hi)⟩, h.upd, fun i hi => h.lt i (hs i hi), h.one⟩
theorem LvF.inv (h : LvF w0 w v p room fs last c G) : ∃ (l : Nat → Cell) (k s : Nat), FsInv l room k s fs last := by
 obtain ⟨D, k, s, X, h, -⟩ := h.st
 exact ⟨_, _, _, h.inv⟩
theorem LvF.guardF (h : LvF w0 w v p room fs last c G) {F : List Nat} (u : Upd F w w') (hF : ∀ i ∈ F, i ∈ G ∧ w0.heap.size ≤ i) {G' : List Nat} (hg : ∀ b ∈ G', w.heap.size ≤ b ∧ b < w'.heap.size) : LvF w0 w' v p room fs last c (G' ++ G) := by
 obtain ⟨D, k, s, X, h1, h2, h3, h4, h5⟩ := h.st
 refine ⟨⟨D, k, s, X, h1.keep u (fun i hi q => h5 i (hF i q).1 hi), h2, h3, h4, fun i hi q => ?_⟩, h.upd.next u (fun i hi hlt => by have := (hF i hi).2; omega), fun i hi => ?_, h.one⟩
 ·rcases List.mem_append.1 hi with e | e
  ·have := h1.lt i q
   have := (hg i e).1
   omega
  ·exact h5 i e q
 ·rcases List.mem_append.1 hi with e | e
  ·exact (hg i e).2
  ·exact Nat.lt_of_lt_of_le (h.lt i e) u.size
theorem LvF.guard (h : LvF w0 w v p room fs last c G) (u : Upd [] w w') {G' : List Nat} (hg : ∀ b ∈ G', w.heap.size ≤ b ∧ b < w'.heap.size) : LvF w0 w' v p room fs last c (G' ++ G) := h.guardF u (by simp) hg
theorem LvF.turn {D' : Dev} {k' s' : Nat} {fs' last' : Files} {X : Fsd} {c' : Nat} (hu : Upd [] w0 w) (h1 : 1 ≤ room) (low : ∀ i ∈ X.fp v, w0.heap.size ≤ i) (hG : ∀ i ∈ G, i ∉ X.fp v) (hlt : ∀ i ∈ G, i < w.heap.size) (hn : FsNext w v p room X D' k' s' fs' last' w') (hk : k' ≤ 3 + 2 * c') (hw : D'.wr ≤ 10000 + 50000 * c') : LvF w0 w' v p room fs' last' c' G ∧ Stay G w w' := by
 obtain ⟨X', h1', h2, h3⟩ := hn
 have hs := hu.size
 refine ⟨⟨⟨D', k', s', X', h1', fun i hi => ?_, hk, hw, fun i hi q => ?_⟩, hu.next h2 fun i hi hlt => by have := low i hi; omega, fun i hi => Nat.lt_of_lt_of_le (hlt i hi) h2.size, h1⟩, ⟨_, h2, hG⟩⟩
 ·rcases h3 i hi with q | q
  ·exact low i q
  ·omega
 ·rcases h3 i q with q | q
  ·exact hG i hi q
  ·have := hlt i hi; omega
theorem Fl.mk' {D' : Dev} {X : Fsd} {c' : Nat} (hu : Upd [] w0 w) (h1 : 1 ≤ room) (low : ∀ i ∈ X.fp v, w0.heap.size ≤ i) (hG : ∀ i ∈ G, i ∉ X.fp v) (hlt : ∀ i ∈ G, i < w.heap.size) (hn : FsDown w v p X D' w') (hD : room + 36 = D'.n) (hw : D'.wr ≤ 10000 + 50000 * c') (hc : ∀ l', CrashOf D'.blk l' → ∃ (k' : Nat) (fs' : Files), k' ≤ 3 + 2 * c' ∧ P fs' ∧ Rest l' room k' fs') : Fl w0 w' v p room P c' G ∧ Stay G w w' := by
 obtain ⟨F, h2, h3, h4⟩ := hn
 have hs := hu.size
 refine ⟨⟨⟨D', F, h2, fun i hi => ?_, hD, hw, fun i hi q => ?_, hc⟩, hu.next h3 fun i hi hlt => by have := low i hi; omega, fun i hi => Nat.lt_of_lt_of_le (hlt i hi) h3.size, h1⟩, ⟨_, h3, hG⟩⟩
 ·rcases h4 i hi with q | q
  ·exact low i q
  ·omega
 ·rcases h4 i q with q | q
  ·exact hG i hi q
  ·have := hlt i hi; omega
theorem LvF.create (h : LvF w0 w v p room fs last c G) (nm : ByteArray) (hs : nm.size ≤ maxLen) :
  Calls Tryz.prog 15 #[.pointer (some ⟨v, 0, none⟩), .string nm] w fun r w' => r = .returned (.int .i64 (codeC false fs nm.data.toList)) ∧ LvF w0 w' v p room (crtF fs nm.data.toList) last c G ∧ Stay G w w' := by
 obtain ⟨D, k, s, X, h1, h2, h3, h4, h5⟩ := h.st
 exact (Lcreate h1 nm hs).mono fun r w' ⟨e, hn⟩ => ⟨e, LvF.turn h.upd h.one h2 h5 h.lt hn h3 h4⟩
theorem LvF.remove (h : LvF w0 w v p room fs last c G) (nm : ByteArray) (hs : nm.size ≤ maxLen) :
  Calls Tryz.prog 19 #[.pointer (some ⟨v, 0, none⟩), .string nm] w fun r w' => r = .returned (.int .i64 (codeF false fs nm.data.toList)) ∧ LvF w0 w' v p room (delA fs nm.data.toList) last c G ∧ Stay G w w' := by
 obtain ⟨D, k, s, X, h1, h2, h3, h4, h5⟩ := h.st
 exact (Lremove h1 h.one nm hs).mono fun r w' ⟨e, hn⟩ => ⟨e, LvF.turn h.upd h.one h2 h5 h.lt hn h3 h4⟩
theorem LvF.rename (h : LvF w0 w v p room fs last c G) (a b : ByteArray) (hs : a.size ≤ maxLen) (ht : b.size ≤ maxLen) :
  Calls Tryz.prog 21 #[.pointer (some ⟨v, 0, none⟩), .string a, .string b] w fun r w' => r = .returned (.int .i64 (codeN false fs a.data.toList b.data.toList)) ∧ LvF w0 w' v p room (renF fs a.data.toList b.data.toList) last c G ∧ Stay G w w' := by
 obtain ⟨D, k, s, X, h1, h2, h3, h4, h5⟩ := h.st
 exact (Lrename h1 h.one a b hs ht).mono fun r w' ⟨e, hn⟩ => ⟨e, LvF.turn h.upd h.one h2 h5 h.lt hn h3 h4⟩
theorem LvF.size (h : LvF w0 w v p room fs last c G) (nm : ByteArray) (hs : nm.size ≤ maxLen) :
  Calls Tryz.prog 24 #[.pointer (some ⟨v, 0, none⟩), .string nm] w fun r w' => r = .returned (.tuple #[.int .i64 (sizeF fs nm.data.toList).1, .int .i64 (sizeF fs nm.data.toList).2]) ∧ LvF w0 w' v p room fs last c G ∧ Stay G w w' := by
 obtain ⟨D, k, s, X, h1, h2, h3, h4, h5⟩ := h.st
 exact (Lsize h1 nm hs).mono fun r w' ⟨e, hn⟩ => ⟨e, LvF.turn h.upd h.one h2 h5 h.lt hn h3 h4⟩
theorem LvF.free (h : LvF w0 w v p room fs last c G) :
  Calls Tryz.prog 17 #[.pointer (some ⟨v, 0, none⟩)] w fun r w' => r = .returned (.int .i64 (freeN room fs last)) ∧ LvF w0 w' v p room fs last c G ∧ Stay G w w' := by
 obtain ⟨D, k, s, X, h1, h2, h3, h4, h5⟩ := h.st
 exact (Lfree h1).mono fun r w' ⟨e, hn⟩ => ⟨e, LvF.turn h.upd h.one h2 h5 h.lt hn h3 h4⟩
theorem LvF.reset (h : LvF w0 w v p room fs last c G) :
  Calls Tryz.prog 32 #[.pointer (some ⟨v, 0, none⟩)] w fun r w' => r = .returned (.tuple #[]) ∧ LvF w0 w' v p room last last c G ∧ Stay G w w' := by
 obtain ⟨D, k, s, X, h1, h2, h3, h4, h5⟩ := h.st
 exact (freset_ok w h1).mono fun r w' ⟨e, hn⟩ => ⟨e, LvF.turn h.upd h.one h2 h5 h.lt hn h3 h4⟩
theorem LvF.list (h : LvF w0 w v p room fs last c G) :
  Calls Tryz.prog 26 #[.pointer (some ⟨v, 0, none⟩)] w fun r w' => ∃ u, r = .returned u ∧ OwT w' w.heap.size u (fs.map (·.1)) ∧ Upd [] w w' ∧ LvF w0 w' v p room fs last c (u.ownBlock.toList ++ G) := by
 obtain ⟨D, k, s, X, h1, h2, h3, h4, h5⟩ := h.st
 refine (Llist h1).mono fun r w' ⟨u, hr, ho, hu, _⟩ => ?_
 exact ⟨u, hr, ho, hu, h.guard hu fun b hb => ho.block b (by simpa using hb)⟩
theorem FsAt.dn {D D' : Dev} {k s : Nat} {X : Fsd} (h1 : FsAt w v p D room k s fs last X) (hn : D'.n = D.n) : room + 36 = D'.n := by
 rw [hn]; have := h1.log.nD; omega
theorem LvF.sync (h : LvF w0 w v p room fs last c G) (hc : c ≤ 1000000) :
  Calls Tryz.prog 18 #[.pointer (some ⟨v, 0, none⟩)] w fun r w' => (r = .returned (.int .i64 0) ∧ LvF w0 w' v p room fs fs (c + 1) G ∧ Stay G w w') ∨ (r = .returned (.int .i64 2) ∧ Fl w0 w' v p room (fun f => f = last ∨ f = fs) (c + 1) G ∧ Stay G w w') := by
 obtain ⟨D, k, s, X, h1, h2, h3, h4, h5⟩ := h.st
 refine (fsync_ok w h1 (by omega) (by omega)).mono fun r w' ⟨e, D', hr, hR, hok, hbad⟩ => ?_
 have hwr := hR.wr
 rcases hR.out with ⟨rfl, -⟩ | ⟨rfl, -⟩
 ·exact .inl ⟨hr, LvF.turn h.upd h.one h2 h5 h.lt (hok rfl) (by omega) (by omega)⟩
 ·obtain ⟨hd, hcr⟩ := hbad (by decide)
  refine .inr ⟨hr, Fl.mk' h.upd h.one h2 h5 h.lt hd (h1.dn hR.n) (by omega) fun l' hl => ?_⟩
  obtain ⟨k', hk', q⟩ := hcr l' hl
  rcases q with q | q
  ·exact ⟨k', last, by omega, .inl rfl, q⟩
  ·exact ⟨k', fs, by omega, .inr rfl, q⟩
set_option maxRecDepth 100000 in
theorem LvF.append (h : LvF w0 w v p room fs last c G) (hc : c ≤ 1000000) (nm : ByteArray) (hs : nm.size ≤ maxLen) {dv : Value} {d : Bs} (hd : Rd w dv d) (hdo : d ≠ [] → ∀ g, dv.ownBlock = some g → g ∈ G ∨ g < w0.heap.size) (hdl : d.length ≤ 140737488355328) :
  Calls Tryz.prog 16 #[.pointer (some ⟨v, 0, none⟩), .string nm, dv] w fun r w' => (r = .returned (.int .i64 (codeP room fs last nm.data.toList d.length)) ∧ LvF w0 w' v p room (apdF room fs last nm.data.toList d) last (c + 1) G ∧ Stay G w w') ∨ (r = .returned (.int .i64 2) ∧ Fl w0 w' v p room (fun f => f = last) (c + 1) G ∧ Stay G w w') := by
 obtain ⟨D, k, s, X, h1, h2, h3, h4, h5⟩ := h.st
 refine (fappend_ok0 w h1 (by omega) nm hs hd (fun hne g hg => ?_) hdl).mono fun r w' ⟨e, D', hr, hR, hok, hbad⟩ => ?_
 ·have := h.upd.size
  rcases hdo hne g hg with q | q
  ·exact ⟨h5 g q, h.lt g q⟩
  ·exact ⟨fun q2 => by have := h2 g q2; omega, by omega⟩
 ·have hwr := hR.wr
  rcases hR.out with ⟨rfl, -⟩ | ⟨rfl, -⟩
  ·rw [if_pos rfl] at hr
   exact .inl ⟨hr, LvF.turn h.upd h.one h2 h5 h.lt (hok rfl) (by omega) (by omega)⟩
  ·obtain ⟨hd, hcr⟩ := hbad (by decide)
   rw [if_neg (by decide)] at hr
   exact .inr ⟨hr, Fl.mk' h.upd h.one h2 h5 h.lt hd (h1.dn hR.n) (by omega) fun l' hl => ⟨k, last, by omega, rfl, hcr l' hl⟩⟩
set_option maxRecDepth 100000 in
theorem LvF.read (h : LvF w0 w v p room fs last c G) (hc : c ≤ 1000000) (nm : ByteArray) (hs : nm.size ≤ maxLen) (at_ cnt : Int) :
  Calls Tryz.prog 20 #[.pointer (some ⟨v, 0, none⟩), .string nm, .int .i64 at_, .int .i64 cnt] w fun r w' =>
   (∃ rv, r = .returned (.tuple #[rv, .int .i64 (codeR fs nm.data.toList at_ cnt)]) ∧
    (codeR fs nm.data.toList at_ cnt = 0 → Ow w' w.heap.size rv (dataR fs nm.data.toList at_ cnt)) ∧ (codeR fs nm.data.toList at_ cnt ≠ 0 → rv = .slice none 0 0) ∧ LvF w0 w' v p room fs last c (rv.ownBlock.toList ++ G) ∧ Stay G w w') ∨
   (r = .returned (.tuple #[.slice none 0 0, .int .i64 2]) ∧ Fl w0 w' v p room (fun f => f = last) c G ∧ Stay G w w') := by
 obtain ⟨D, k, s, X, h1, h2, h3, h4, h5⟩ := h.st
 refine (Lread h1 (by omega) nm hs at_ cnt).mono fun r w' ⟨e, D', rv, hr, hR, hblk, hok, hbad⟩ => ?_
 have hw := hR.wr
 have hs := h.upd.size
 rcases hR.out with ⟨rfl, -⟩ | ⟨rfl, -⟩
 ·rw [if_pos rfl] at hr
  obtain ⟨⟨X', g1, g2, g3, g4⟩, ho, hn⟩ := hok rfl
  refine .inl ⟨rv, hr, ho, hn, ⟨⟨D', k, s, X', g1, fun i hi => ?_, h3, by omega, fun i hi q => ?_⟩, h.upd.next g2 fun i hi hlt => by have := h2 i hi; omega, fun i hi => ?_, h.one⟩, ⟨_, g2, h5⟩⟩
  ·rcases g3 i hi with q | q
   ·exact h2 i q
   ·omega
  ·rcases List.mem_append.1 hi with e | e
   ·exact g4 i (by simpa using e) q
   ·rcases g3 i q with q | q
    ·exact h5 i e q
    ·have := h.lt i e; omega
  ·rcases List.mem_append.1 hi with e | e
   ·by_cases hc : codeR fs nm.data.toList at_ cnt = 0
    ·exact ((ho hc).block i (by simpa using e)).2
    ·rw [hn hc] at e; simp [Value.ownBlock] at e
   ·exact Nat.lt_of_lt_of_le (h.lt i e) g2.size
 ·rw [if_neg (by decide)] at hr
  obtain ⟨rfl, hd, hcr⟩ := hbad (by decide)
  exact .inr ⟨hr, Fl.mk' h.upd h.one h2 h5 h.lt hd (h1.dn hR.n) (by omega) fun l' hl => ⟨k, last, by omega, rfl, hcr l' hl⟩⟩
theorem LvF.dv (h : LvF w0 w v p room fs last c G) : Dv w0 w p room (fun f => f = last) c G := by
 obtain ⟨D, k, s, X, h1, h2, h3, h4, h5⟩ := h.st
 have hF : ∀ i ∈ X.F, i ∈ X.fp v := fun i hi => mem_fp.2 (by simp [hi])
 exact ⟨⟨D, X.F, h1.log.dev, fun i hi => h2 i (hF i hi), h1.dn rfl, h4, fun i hi q => h5 i hi (hF i q), fun l' hl => ⟨k, last, h3, rfl, h1.inv.crash hl⟩⟩, h.upd, h.lt, h.one⟩
theorem Fl.dv (h : Fl w0 w v p room P c G) : Dv w0 w p room P c G := by
 obtain ⟨D, F, h1, h2, h3, h4, h5, h6⟩ := h.st
 obtain ⟨j, cc, q, mf, ml, va, dead, n, k, ld, -, -, ⟨F0, hd, hF, -⟩, -⟩ := h1.ex
 exact ⟨⟨D, F0, hd, fun i hi => h2 i (hF i hi), h3, h4, fun i hi q => h5 i hi (hF i q), h6⟩, h.upd, h.lt, h.one⟩
theorem LvF.down (h : LvF w0 w v p room fs last c G) : Calls Tryz.prog 29 #[.pointer (some ⟨p, 0, none⟩)] w fun r w' => r = .returned (.bool false) ∧ w' = w := by
 obtain ⟨D, k, s, X, h1, -⟩ := h.st
 exact (down_ok w h1.log.dev).mono fun r w' ⟨e, q⟩ => ⟨by rw [e, h1.up], q⟩
theorem Fl.down (h : Fl w0 w v p room P c G) : Calls Tryz.prog 29 #[.pointer (some ⟨p, 0, none⟩)] w fun r w' => r = .returned (.bool true) ∧ w' = w := by
 obtain ⟨D, F, h1, -⟩ := h.st
 obtain ⟨j, cc, q, mf, ml, va, dead, n, k, ld, -, -, ⟨F0, hd, hF, -⟩, -⟩ := h1.ex
 exact (down_ok w hd).mono fun r w' ⟨e, q⟩ => ⟨by rw [e, h1.down], q⟩
theorem LvF.fuse (h : LvF w0 w v p room fs last c G) (n : Int) (hn : In64 n) : Calls Tryz.prog 28 #[.pointer (some ⟨p, 0, none⟩), .int .i64 n] w fun r w' => r = .returned (.int .i64 0) ∧ LvF w0 w' v p room fs last c G ∧ Stay G w w' ∧ (n < 0 → Lv w0 w' v p room fs last c G) := by
 obtain ⟨D, k, s, X, h1, h2, h3, h4, h5⟩ := h.st
 have sp := h1.sep
 have hpF := h1.log.dev.p_mem
 refine (fuse_ok w h1.log.dev h1.up n hn.1 hn.2).mono fun r w' ⟨e, hd, hu⟩ => ?_
 have hoff : ∀ {i x : Nat}, X.T i = x → x ≠ 3 → i ∉ [p] := fun q1 q2 q3 => by
  rw [List.mem_singleton.1 q3, sp.F p hpF] at q1
  exact q2 q1.symm
 have hp : p ∈ X.fp v := mem_fp.2 (by simp [hpF])
 have hat : FsAt w' v p { D with fuse := max n (-1) } room k s fs last X :=
  ⟨(hu.block v (lt_of_blk h1.box) (hoff sp.v (by decide))).trans h1.box,
   ⟨h1.log.log.upd hu (hoff sp.j (by decide)), hd, h1.log.ca.upd hu (fun i hi => hoff (sp.FC i hi) (by decide)), h1.log.jF, h1.log.jC, h1.log.ap, h1.log.nD, fun i hi => Nat.lt_of_lt_of_le (h1.log.lt i hi) hu.size⟩,
   h1.fil.upd hu (fun i hi => hoff (sp.FM i hi) (by decide)), h1.las.upd hu (fun i hi => hoff (sp.FL i hi) (by decide)),
   h1.map.upd hu (hoff sp.q (by decide)) (fun i hi e => hoff (sp.nv i e) (by decide) hi) (fun i hi e => hoff (sp.lv i e) (by decide) hi), h1.dir.upd hu (fun i hi e => hoff (sp.va i e) (by decide) hi), h1.up, h1.inv, h1.see, sp⟩
 have hu2 : Upd [] w0 w' := h.upd.next hu fun i hi hlt => by have := h2 i (by rw [List.mem_singleton.1 hi]; exact hp); omega
 have hlt' : ∀ i ∈ G, i < w'.heap.size := fun i hi => Nat.lt_of_lt_of_le (h.lt i hi) hu.size
 exact ⟨e, ⟨⟨_, k, s, X, hat, h2, h3, h4, h5⟩, hu2, hlt', h.one⟩, ⟨_, hu, fun i hi q => h5 i hi (by rw [List.mem_singleton.1 q]; exact hp)⟩, fun hneg => ⟨⟨_, k, s, X, ⟨hat, by show max n (-1) < 0; omega, hu2, h2⟩, h3, h4, h5⟩, hlt'⟩⟩
theorem Dv.crash (h : Dv w0 w p room P c G) (hc : c ≤ 1000000) {pv : Value} {picks : List Int} (hp : RdZ w pv picks) (hpk : ∀ x ∈ picks, -9223372036854775808 ≤ x ∧ x ≤ 9223372036854775807) (hpo : picks ≠ [] → ∀ b, pv.ownBlock = some b → b ∈ G ∨ b < w0.heap.size) :
  Calls Tryz.prog 22 #[.pointer (some ⟨p, 0, none⟩), pv] w fun r w' => r = .returned (.tuple #[]) ∧ CrF w0 w' p room P true c G ∧ Stay G w w' := by
 obtain ⟨D, F, h1, h2, h3, h4, h5, h6⟩ := h.st
 have hsz := h.upd.size
 refine (crash_ok w h1 (by omega) hp hpk fun hne b hb q => ?_).mono fun r w' ⟨D', F', hr, hcr, hwr, hD, hu, hF'⟩ => ?_
 ·rcases hpo hne b hb with e | e
  ·exact h5 b e q
  ·have := h2 b q; omega
 ·obtain ⟨k', fs', q1, q2, q3⟩ := h6 _ hcr.of
  refine ⟨hr, ⟨⟨D', k', F', fs', q2, hD, hcr.down, fun _ => by rw [hcr.fuse]; omega, by omega, q3, by rw [hcr.n]; exact h3, q1, fun i hi => h2 i (hF' i hi), fun i hi q => h5 i hi (hF' i q)⟩, h.upd.next hu fun i hi hlt => ?_, fun i hi => Nat.lt_of_lt_of_le (h.lt i hi) hu.size, h.one⟩, ⟨_, hu, fun i hi q => h5 i hi q⟩⟩
  have := h2 i hi; omega
theorem CrF.fuse {sf : Bool} (h : CrF w0 w p room P sf c G) (n : Int) (hn : In64 n) : Calls Tryz.prog 28 #[.pointer (some ⟨p, 0, none⟩), .int .i64 n] w fun r w' => r = .returned (.int .i64 0) ∧ CrF w0 w' p room P false c G ∧ Stay G w w' := by
 obtain ⟨D, k, F, fs, h1, h2, h3, h4, h5, h6, h7, h8, h9, h10⟩ := h.st
 refine (fuse_ok w h2 h3 n hn.1 hn.2).mono fun r w' ⟨e, hd, hu⟩ => ?_
 have hpF := h2.p_mem
 have hu2 : Upd [] w0 w' := h.upd.next hu fun i hi hlt => by have := h9 i (by rw [List.mem_singleton.1 hi]; exact hpF); omega
 exact ⟨e, ⟨⟨_, k, F, fs, h1, hd, h3, (fun q => by cases q), h5, h6, h7, h8, h9, h10⟩, hu2, fun i hi => Nat.lt_of_lt_of_le (h.lt i hi) hu.size, h.one⟩, ⟨_, hu, fun i hi q => h10 i hi (by rw [List.mem_singleton.1 q]; exact hpF)⟩⟩
theorem CrF.mount {sf : Bool} (h : CrF w0 w p room P sf c G) (hc : c ≤ 1000000) :
  Calls Tryz.prog 23 #[.pointer (some ⟨p, 0, none⟩)] w fun r w' => (∃ v fs, r = .returned (.tuple #[.pointer (some ⟨v, 0, none⟩), .int .i64 0]) ∧ P fs ∧ LvF w0 w' v p room fs fs (c + 1) G ∧ Stay G w w' ∧ (sf = true → Lv w0 w' v p room fs fs (c + 1) G)) ∨ (sf = false ∧ r = .returned (.tuple #[.pointer none, .int .i64 2]) ∧ Dv w0 w' p room P (c + 1) G ∧ Stay G w w') := by
 obtain ⟨D, k, F, fs, h1, h2, h3, h4, h5, h6, h7, h8, h9, h10⟩ := h.st
 refine (fmount_ok w h2 h3 (by omega) h6 h7 h.one (by omega)).mono fun r w' ⟨e, D', vv, hr, hR, hok, hbad⟩ => ?_
 have hw := hR.wr
 have hsz := h.upd.size
 rcases hR.out with ⟨rfl, -, -, hfu⟩ | ⟨rfl, hnf, -⟩
 ·obtain ⟨v, s', X, rfl, hat, hu, hfp⟩ := hok rfl
  have hu2 : Upd [] w0 w' := h.upd.next hu fun i hi hlt => by have := h9 i hi; omega
  have hlow : ∀ i ∈ X.fp v, w0.heap.size ≤ i := fun i hi => by
   rcases hfp i hi with q | q
   ·exact h9 i q
   ·omega
  have hG : ∀ i ∈ G, i ∉ X.fp v := fun i hi q => by
   rcases hfp i q with q | q
   ·exact h10 i hi q
   ·have := h.lt i hi; omega
  have hlt' : ∀ i ∈ G, i < w'.heap.size := fun i hi => Nat.lt_of_lt_of_le (h.lt i hi) hu.size
  exact .inl ⟨v, fs, hr, h1, ⟨⟨D', k + 1, s', X, hat, hlow, by omega, by omega, hG⟩, hu2, hlt', h.one⟩, ⟨_, hu, h10⟩, fun hs => ⟨⟨D', k + 1, s', X, ⟨hat, hfu (h4 hs), hu2, hlow⟩, by omega, by omega, hG⟩, hlt'⟩⟩
 ·obtain ⟨rfl, ⟨F', hd, hu, hF'⟩, hcr⟩ := hbad (by decide)
  refine .inr ⟨?_, hr, ⟨⟨D', F', hd, fun i hi => ?_, by rw [hR.n]; exact h7, by omega, fun i hi q => ?_, fun l' hl => ?_⟩, h.upd.next hu fun i hi hlt => by have := h9 i hi; omega, fun i hi => Nat.lt_of_lt_of_le (h.lt i hi) hu.size, h.one⟩, ⟨_, hu, h10⟩⟩
  ·cases sf with
   | false => rfl
   | true => have := hnf h3; have := h4 rfl; omega
  ·rcases hF' i hi with q | q
   ·exact h9 i q
   ·omega
  ·rcases hF' i q with q | q
   ·exact h10 i hi q
   ·have := h.lt i hi; omega
  ·obtain ⟨k', q1, q2⟩ := hcr l' hl
   exact ⟨k', fs, by omega, h1, q2⟩
end
end Go.Proofs.YteepgehjkcahiaaGreat

namespace Go.Proofs.YteepgehjkcahiaaGreat
open Go.RowKit Go.Maps
set_option maxRecDepth 100000 in
set_option maxHeartbeats 4000000 in
theorem mounted_ok (w0 w : World) {p room : Nat} {P : Files → Prop} {c : Nat} {G : List Nat} (h : Dv w0 w p room P c G) (hc : c ≤ 900000) (n : Int) (hn : In64 n) {qa : Option Addr} {ql qc : Nat} {picks : List Int} (hp : RdZ w0 (.slice qa ql qc) picks) (hpk : ∀ x ∈ picks, -9223372036854775808 ≤ x ∧ x ≤ 9223372036854775807) (hpo : picks ≠ [] → ∀ b, (Value.slice qa ql qc).ownBlock = some b → b < w0.heap.size) :
  Calls Tryz.prog 30 #[.pointer (some ⟨p, 0, none⟩), .int .i64 n, .slice qa ql qc] w fun r w' => ∃ v : Nat, r = .returned (.pointer (some ⟨v, 0, none⟩)) ∧ ∃ fs : Files, P fs ∧ Lv w0 w' v p room fs fs (c + 6) G ∧ Stay G w w' := by
 have HCR := Lib.hid fun (X : World) (c' : Nat) (h : Dv w0 X p room P c' G) (hc : c' ≤ 1000000) => h.crash hc (hp.keep TZ h.upd) hpk (fun q b hb => .inr (hpo q b hb))
 have HP := Lib.hid fun X : World => pick_ok n 40 X hn.1 hn.2 (by omega) (by omega)
 have H := Lib.hid h
 clear hp hpk hpo h hn
 go_enter Tryz.func30, Tryz.ntmps30
 go_wp2_with fail
 refine (HCR.out _ _ H.out (by omega)).mono ?_
 rintro r w1 ⟨rfl, hcr1, hst1⟩
 have H1 := Lib.hid (And.intro hcr1 hst1)
 clear hcr1 hst1
 go_wp2_with fail
 go_loopg [7, 8, 9] 4 (fun gh v7 v8 v9 wr => ∃ (i c' : Nat), v7 = .int .i64 i ∧ i ≤ 4 ∧ gh = 4 - i ∧ c' ≤ c + i ∧ Hid (CrF w0 wr p room P true c' G ∧ Stay G w wr))
 case atStart => exact ⟨0, c, rfl, by omega, rfl, by omega, H1⟩
 case round =>
  obtain ⟨i, c', rfl, hi, rfl, hc', HS⟩ := hrel
  by_cases hi4 : i < 4
  ·have hi4' : (i : Int) < 4 := by omega
   have HFu := Lib.hid fun (m : Int) (hm : In64 m) => HS.out.1.fuse m hm
   go_wp2_with fail
   refine (HP.out _).mono ?_
   rintro r w2 ⟨⟨rr, rfl, hr0, hr1⟩, rfl⟩
   have hm0 : 0 ≤ rr * ((i : Int) + 1) := Int.mul_nonneg hr0 (by omega)
   have hm1 : rr * ((i : Int) + 1) ≤ 40 * 4 := Int.mul_le_mul (by omega) (by omega) (by omega) (by omega)
   go_wp2_with fail
   refine (HFu.out _ ⟨by omega, by omega⟩).mono ?_
   rintro r w3 ⟨rfl, hcr3, hst3⟩
   have HMo := Lib.hid (hcr3.mount (by omega))
   have HS3 := Lib.hid (HS.out.2.trans hst3)
   clear hcr3 hst3 hm0 hm1 HFu
   go_wp2_with fail
   refine HMo.out.mono ?_
   rintro r w4 (⟨v4, fs4, rfl, hP4, hl4, hst4, -⟩ | ⟨-, rfl, hdv4, hst4⟩)
   ·have HFu := Lib.hid (hl4.fuse (-1) ⟨by omega, by omega⟩)
    have HS4 := Lib.hid (And.intro hP4 (HS3.out.trans hst4))
    clear hl4 hP4 hst4 HMo HS3
    go_wp2_with fail
    refine HFu.out.mono ?_
    rintro r w5 ⟨rfl, -, hst5, hlv5⟩
    have H5 := Lib.hid ((hlv5 (by omega)).more (c' := c + 6) (by omega))
    have HS5 := Lib.hid (HS4.out.2.trans hst5)
    clear hst5 hlv5 HFu
    go_wp2_with fail
    go_ret
    exact ⟨v4, rfl, fs4, HS4.out.1, H5.out, HS5.out⟩
   ·have HCr := Lib.hid (HCR.out _ _ hdv4 (by omega))
    have HS4 := Lib.hid (HS3.out.trans hst4)
    clear hdv4 hst4 HMo HS3
    go_wp2_with fail
    refine HCr.out.mono ?_
    rintro r w5 ⟨rfl, hcr5, hst5⟩
    have H5 := Lib.hid (And.intro hcr5 (HS4.out.trans hst5))
    clear hcr5 hst5 HCr HS4
    go_wp2_with fail
    go_roundg (4 - (i + 1))
    case measure => omega
    case rel => exact ⟨i + 1, c' + 1, by go_num, by omega, rfl, by omega, H5⟩
  ·have hi4' : ¬ (i : Int) < 4 := by omega
   have HMo := Lib.hid (HS.out.1.mount (by omega))
   go_wp2_with fail
   refine HMo.out.mono ?_
   rintro r w4 (⟨v4, fs4, rfl, hP4, -, hst4, hl4⟩ | ⟨q, -⟩)
   ·have H4 := Lib.hid (And.intro hP4 (And.intro ((hl4 trivial).more (c' := c + 6) (by omega)) (HS.out.2.trans hst4)))
    clear hl4 hP4 hst4 HMo
    go_wp2_with fail
    go_ret
    exact ⟨v4, rfl, fs4, H4.out⟩
   ·cases q
end Go.Proofs.YteepgehjkcahiaaGreat
