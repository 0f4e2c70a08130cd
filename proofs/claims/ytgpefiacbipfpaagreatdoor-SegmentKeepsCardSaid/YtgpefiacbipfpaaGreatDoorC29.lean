/- Opening rows of calls. Rows of texts: SameTexts; a live file system beside rows of the call's own. Bytes: a call's data, some times over. A file system whose device may have a fuse, or went down: each call in one step. -/
import Derived.Test.YtgpefiacbipfpaaGreatDoorC28
namespace Go.Proofs.YtgpefiacbipfpaaGreatDoor
open Go.ChangeShapes Go.WideShapes Go.ChangeAt Go.RowKit Go.Deep
section
variable {H : Type} {enc : TypeId × Value → H} {w : World} {base : Nat} {spare : Nat → Bool} {held : Bool}
end
theorem TZ : RowT cZ 1 8 31 3 where
 len := fun _ => rfl
 pos := by omega
 und := Tryz.underlying31
 info := by
  obtain ⟨i, h, h1, h2, h3⟩ := info_parts (show (Tryz.prog.info? 3).map (fun i => (i.zero, i.size, i.bytes)) = some (some (.int .i64 0), 1, 8) by kernel_rfl)
  exact ⟨i, _, h, h1, h2, h3, rfl⟩
end Go.Proofs.YtgpefiacbipfpaaGreatDoor

namespace Go.Proofs.YtgpefiacbipfpaaGreatDoor
open Go.RowKit Go.Maps
theorem strOf_beq (a b : Bs) : ((strOf a).toList == (strOf b).toList) = decide (a = b) := by
 rw [Bool.eq_iff_iff]
 simp only [beq_iff_eq, decide_eq_true_eq]
 constructor
 ·intro h
  have h2 : (strOf a).data.toList = (strOf b).data.toList := by
   have := h
   simpa [ByteArray.toList_eq] using this
  simpa [strOf_list] using h2
 ·rintro rfl; rfl
section
variable {w0 w w' : World} {v p room : Nat} {fs last : Files} {c : Nat} {G : List Nat}
theorem Lv.guardF (h : Lv w0 w v p room fs last c G) {F : List Nat} (u : Upd F w w') (hF : ∀ i ∈ F, i ∈ G ∧ w0.heap.size ≤ i) {G' : List Nat} (hg : ∀ b ∈ G', w.heap.size ≤ b ∧ b < w'.heap.size) : Lv w0 w' v p room fs last c (G' ++ G) := by
 obtain ⟨D, k, s, X, h1, h2, h3, h4⟩ := h.st
 refine ⟨⟨D, k, s, X, ⟨h1.at_.keep u (fun i hi q => h4 i (hF i q).1 hi), h1.fuse, h1.upd.next u (fun i hi hlt => by have := (hF i hi).2; omega), h1.low⟩, h2, h3, fun i hi q => ?_⟩, fun i hi => ?_⟩
 ·rcases List.mem_append.1 hi with e | e
  ·have := h1.at_.lt i q
   have := (hg i e).1
   omega
  ·exact h4 i e q
 ·rcases List.mem_append.1 hi with e | e
  ·exact (hg i e).2
  ·exact Nat.lt_of_lt_of_le (h.lt i e) u.size
theorem blks_sum {room : Nat} {fs : Files} (h : FilesOk room fs) : (allBlks fs).length = (fs.map fun p => blocksN p.2.data.length).sum := by
 have h1 : ∀ p ∈ fs, p.2.blks.length = blocksN p.2.data.length := fun p hp => (h.ok p hp).blks_len
 clear h
 induction fs with
 | nil => rfl
 | cons x l ih =>
  have e := ih fun p hp => h1 p (List.mem_cons_of_mem _ hp)
  have e2 := h1 x (List.mem_cons_self ..)
  simp only [allBlks, List.flatMap_cons, List.length_append, List.map_cons, List.sum_cons] at e ⊢
  rw [e2]
  omega
theorem blks_le {room : Nat} {fs : Files} (h : FilesOk room fs) {k : Nat} (hk : ∀ p ∈ fs, p.2.data.length ≤ 512 * k) : (allBlks fs).length ≤ k * fs.length := by
 rw [blks_sum h]
 clear h
 induction fs with
 | nil => simp
 | cons x l ih =>
  have e := ih fun p hp => hk p (List.mem_cons_of_mem _ hp)
  have e2 := hk x (List.mem_cons_self ..)
  rw [List.map_cons, List.sum_cons, List.length_cons, Nat.mul_succ]
  have : blocksN x.2.data.length ≤ k := by unfold blocksN; omega
  omega
end
end Go.Proofs.YtgpefiacbipfpaaGreatDoor

namespace Go.Proofs.YtgpefiacbipfpaaGreatDoor
open Go.RowKit Go.Maps
section
variable {w0 W : World} {v p room : Nat} {fs last : Files} {c : Nat} {G : List Nat}
end
end Go.Proofs.YtgpefiacbipfpaaGreatDoor

namespace Go.Proofs.YtgpefiacbipfpaaGreatDoor
open Go.RowKit Go.Maps
structure LvF (w0 w : World) (v p room : Nat) (fs last : Files) (c : Nat) (G : List Nat) : Prop where
 st : ∃ (D : Dev) (k s : Nat) (X : Fsd), FsAt w v p D room k s fs last X ∧ (∀ i ∈ X.fp v, w0.heap.size ≤ i) ∧ k ≤ 3 + 2 * c ∧ D.wr ≤ 10000 + 50000 * c ∧ ∀ i ∈ G, i ∉ X.fp v
 upd : Upd [] w0 w
 lt : ∀ i ∈ G, i < w.heap.size
 one : 1 ≤ room
structure Dv (w0 w : World) (p room : Nat) (P : Files → Prop) (c : Nat) (G : List Nat) : Prop where
 st : ∃ (D : Dev) (F : List Nat), DevAt w p D F ∧ (∀ i ∈ F, w0.heap.size ≤ i) ∧ room + 36 = D.n ∧ D.wr ≤ 10000 + 50000 * c ∧ (∀ i ∈ G, i ∉ F) ∧ ∀ l', CrashOf D.blk l' → ∃ (k' : Nat) (fs' : Files), k' ≤ 3 + 2 * c ∧ P fs' ∧ Rest l' room k' fs'
 upd : Upd [] w0 w
 lt : ∀ i ∈ G, i < w.heap.size
 one : 1 ≤ room
structure CrF (w0 w : World) (p room : Nat) (P : Files → Prop) (safe : Bool) (c : Nat) (G : List Nat) : Prop where
 st : ∃ (D : Dev) (k : Nat) (F : List Nat) (fs : Files), P fs ∧ DevAt w p D F ∧ D.down = false ∧ (safe = true → D.fuse < 0) ∧ D.wr ≤ 10000 + 50000 * c ∧ Rest D.blk room k fs ∧ room + 36 = D.n ∧ k ≤ 3 + 2 * c ∧ (∀ i ∈ F, w0.heap.size ≤ i) ∧ ∀ i ∈ G, i ∉ F
 upd : Upd [] w0 w
 lt : ∀ i ∈ G, i < w.heap.size
 one : 1 ≤ room
section
variable {w0 w w' : World} {v p room : Nat} {fs last : Files} {c : Nat} {G : List Nat} {P : Files → Prop}
theorem LvF.of (h : Lv w0 w v p room fs last c G) (h1 : 1 ≤ room) : LvF w0 w v p room fs last c G := by
 obtain ⟨D, k, s, X, h2, h3, h4, h5⟩ := h.st
 exact ⟨⟨D, k, s, X, h2.at_, h2.low, h3, h4, h5⟩, h2.upd, h.lt, h1⟩
theorem FsAt.dn {D D' : Dev} {k s : Nat} {X : Fsd} (h1 : FsAt w v p D room k s fs last X) (hn : D'.n = D.n) : room + 36 = D'.n := by
 rw [hn]; have := h1.log.nD; omega
theorem LvF.dv (h : LvF w0 w v p room fs last c G) : Dv w0 w p room (fun f => f = last) c G := by
 obtain ⟨D, k, s, X, h1, h2, h3, h4, h5⟩ := h.st
 have hF : ∀ i ∈ X.F, i ∈ X.fp v := fun i hi => mem_fp.2 (by simp [hi])
 exact ⟨⟨D, X.F, h1.log.dev, fun i hi => h2 i (hF i hi), h1.dn rfl, h4, fun i hi q => h5 i hi (hF i q), fun l' hl => ⟨k, last, h3, rfl, h1.inv.crash hl⟩⟩, h.upd, h.lt, h.one⟩
theorem Dv.keep (h : Dv w0 w p room P c G) (u : Upd [] w w') : Dv w0 w' p room P c G := by
 obtain ⟨D, F, h1, h2⟩ := h.st
 exact ⟨⟨D, F, h1.upd u (by simp), h2⟩, h.upd.trans u, fun i hi => Nat.lt_of_lt_of_le (h.lt i hi) u.size, h.one⟩
theorem Dv.imp {Q : Files → Prop} (h : Dv w0 w p room P c G) (hi : ∀ f, P f → Q f) : Dv w0 w p room Q c G := by
 obtain ⟨D, F, h1, h2, h3, h4, h5, h6⟩ := h.st
 exact ⟨⟨D, F, h1, h2, h3, h4, h5, fun l' hl => by obtain ⟨k', fs', q1, q2, q3⟩ := h6 l' hl; exact ⟨k', fs', q1, hi _ q2, q3⟩⟩, h.upd, h.lt, h.one⟩
theorem LvF.fuse (h : LvF w0 w v p room fs last c G) (n : Int) (hn : In64 n) : Calls Tryz.prog 123 #[.pointer (some ⟨p, 0, none⟩), .int .i64 n] w fun r w' => r = .returned (.int .i64 0) ∧ LvF w0 w' v p room fs last c G ∧ Stay G w w' ∧ (n < 0 → Lv w0 w' v p room fs last c G) := by
 obtain ⟨D, k, s, X, h1, h2, h3, h4, h5⟩ := h.st
 have sp := h1.sep
 have hpF := h1.log.dev.p_mem
 refine (fuse_ok w h1.log.dev h1.up n hn.1 hn.2).mono fun r w' ⟨e, hd, hu⟩ => ?_
 have hoff : ∀ {i x : Nat}, X.T i = x → x ≠ 3 → i ∉ [p] := fun q1 q2 q3 => by
  rw [List.mem_singleton.1 q3, sp.F p hpF] at q1
  exact q2 q1.symm
 have hp : p ∈ X.fp v := mem_fp.2 (by simp [hpF])
 have hat : FsAt w' v p { D with fuse := max n (-1) } room k s fs last X :=
  ⟨(hu.block v (lt_of_blk h1.box) (hoff sp.v (by decide))).trans h1.box,
   ⟨h1.log.log.upd hu (hoff sp.j (by decide)), hd, h1.log.ca.upd hu (fun i hi => hoff (sp.FC i hi) (by decide)), h1.log.jF, h1.log.jC, h1.log.ap, h1.log.nD, fun i hi => Nat.lt_of_lt_of_le (h1.log.lt i hi) hu.size⟩,
   h1.fil.upd hu (fun i hi => hoff (sp.FM i hi) (by decide)), h1.las.upd hu (fun i hi => hoff (sp.FL i hi) (by decide)),
   h1.map.upd hu (hoff sp.q (by decide)) (fun i hi e => hoff (sp.nv i e) (by decide) hi) (fun i hi e => hoff (sp.lv i e) (by decide) hi), h1.dir.upd hu (fun i hi e => hoff (sp.va i e) (by decide) hi), h1.up, h1.inv, h1.see, sp⟩
 have hu2 : Upd [] w0 w' := h.upd.next hu fun i hi hlt => by have := h2 i (by rw [List.mem_singleton.1 hi]; exact hp); omega
 have hlt' : ∀ i ∈ G, i < w'.heap.size := fun i hi => Nat.lt_of_lt_of_le (h.lt i hi) hu.size
 exact ⟨e, ⟨⟨_, k, s, X, hat, h2, h3, h4, h5⟩, hu2, hlt', h.one⟩, ⟨_, hu, fun i hi q => h5 i hi (by rw [List.mem_singleton.1 q]; exact hp)⟩, fun hneg => ⟨⟨_, k, s, X, ⟨hat, by show max n (-1) < 0; omega, hu2, h2⟩, h3, h4, h5⟩, hlt'⟩⟩
theorem Dv.crash (h : Dv w0 w p room P c G) (hc : c ≤ 1000000) {pv : Value} {picks : List Int} (hp : RdZ w pv picks) (hpk : ∀ x ∈ picks, -9223372036854775808 ≤ x ∧ x ≤ 9223372036854775807) (hpo : picks ≠ [] → ∀ b, pv.ownBlock = some b → b ∈ G ∨ b < w0.heap.size) :
  Calls Tryz.prog 22 #[.pointer (some ⟨p, 0, none⟩), pv] w fun r w' => r = .returned (.tuple #[]) ∧ CrF w0 w' p room P true c G ∧ Stay G w w' := by
 obtain ⟨D, F, h1, h2, h3, h4, h5, h6⟩ := h.st
 have hsz := h.upd.size
 refine (crash_ok w h1 (by omega) hp hpk fun hne b hb q => ?_).mono fun r w' ⟨D', F', hr, hcr, hwr, hD, hu, hF'⟩ => ?_
 ·rcases hpo hne b hb with e | e
  ·exact h5 b e q
  ·have := h2 b q; omega
 ·obtain ⟨k', fs', q1, q2, q3⟩ := h6 _ hcr.of
  refine ⟨hr, ⟨⟨D', k', F', fs', q2, hD, hcr.down, fun _ => by rw [hcr.fuse]; omega, by omega, q3, by rw [hcr.n]; exact h3, q1, fun i hi => h2 i (hF' i hi), fun i hi q => h5 i hi (hF' i q)⟩, h.upd.next hu fun i hi hlt => ?_, fun i hi => Nat.lt_of_lt_of_le (h.lt i hi) hu.size, h.one⟩, ⟨_, hu, fun i hi q => h5 i hi q⟩⟩
  have := h2 i hi; omega
theorem CrF.fuse {sf : Bool} (h : CrF w0 w p room P sf c G) (n : Int) (hn : In64 n) : Calls Tryz.prog 123 #[.pointer (some ⟨p, 0, none⟩), .int .i64 n] w fun r w' => r = .returned (.int .i64 0) ∧ CrF w0 w' p room P false c G ∧ Stay G w w' := by
 obtain ⟨D, k, F, fs, h1, h2, h3, h4, h5, h6, h7, h8, h9, h10⟩ := h.st
 refine (fuse_ok w h2 h3 n hn.1 hn.2).mono fun r w' ⟨e, hd, hu⟩ => ?_
 have hpF := h2.p_mem
 have hu2 : Upd [] w0 w' := h.upd.next hu fun i hi hlt => by have := h9 i (by rw [List.mem_singleton.1 hi]; exact hpF); omega
 exact ⟨e, ⟨⟨_, k, F, fs, h1, hd, h3, (fun q => by cases q), h5, h6, h7, h8, h9, h10⟩, hu2, fun i hi => Nat.lt_of_lt_of_le (h.lt i hi) hu.size, h.one⟩, ⟨_, hu, fun i hi q => h10 i hi (by rw [List.mem_singleton.1 q]; exact hpF)⟩⟩
theorem CrF.mount {sf : Bool} (h : CrF w0 w p room P sf c G) (hc : c ≤ 1000000) :
  Calls Tryz.prog 33 #[.pointer (some ⟨p, 0, none⟩)] w fun r w' => (∃ v fs, r = .returned (.tuple #[.pointer (some ⟨v, 0, none⟩), .int .i64 0]) ∧ P fs ∧ LvF w0 w' v p room fs fs (c + 1) G ∧ Stay G w w' ∧ (sf = true → Lv w0 w' v p room fs fs (c + 1) G)) ∨ (sf = false ∧ r = .returned (.tuple #[.pointer none, .int .i64 2]) ∧ Dv w0 w' p room P (c + 1) G ∧ Stay G w w') := by
 obtain ⟨D, k, F, fs, h1, h2, h3, h4, h5, h6, h7, h8, h9, h10⟩ := h.st
 refine (fmount_ok w h2 h3 (by omega) h6 h7 h.one (by omega)).mono fun r w' ⟨e, D', vv, hr, hR, hok, hbad⟩ => ?_
 have hw := hR.wr
 have hsz := h.upd.size
 rcases hR.out with ⟨rfl, -, -, hfu⟩ | ⟨rfl, hnf, -⟩
 ·obtain ⟨v, s', X, rfl, hat, hu, hfp⟩ := hok rfl
  have hu2 : Upd [] w0 w' := h.upd.next hu fun i hi hlt => by have := h9 i hi; omega
  have hlow : ∀ i ∈ X.fp v, w0.heap.size ≤ i := fun i hi => by
   rcases hfp i hi with q | q
   ·exact h9 i q
   ·omega
  have hG : ∀ i ∈ G, i ∉ X.fp v := fun i hi q => by
   rcases hfp i q with q | q
   ·exact h10 i hi q
   ·have := h.lt i hi; omega
  have hlt' : ∀ i ∈ G, i < w'.heap.size := fun i hi => Nat.lt_of_lt_of_le (h.lt i hi) hu.size
  exact .inl ⟨v, fs, hr, h1, ⟨⟨D', k + 1, s', X, hat, hlow, by omega, by omega, hG⟩, hu2, hlt', h.one⟩, ⟨_, hu, h10⟩, fun hs => ⟨⟨D', k + 1, s', X, ⟨hat, hfu (h4 hs), hu2, hlow⟩, by omega, by omega, hG⟩, hlt'⟩⟩
 ·obtain ⟨rfl, ⟨F', hd, hu, hF'⟩, hcr⟩ := hbad (by decide)
  refine .inr ⟨?_, hr, ⟨⟨D', F', hd, fun i hi => ?_, by rw [hR.n]; exact h7, by omega, fun i hi q => ?_, fun l' hl => ?_⟩, h.upd.next hu fun i hi hlt => by have := h9 i hi; omega, fun i hi => Nat.lt_of_lt_of_le (h.lt i hi) hu.size, h.one⟩, ⟨_, hu, h10⟩⟩
  ·cases sf with
   | false => rfl
   | true => have := hnf h3; have := h4 rfl; omega
  ·rcases hF' i hi with q | q
   ·exact h9 i q
   ·omega
  ·rcases hF' i q with q | q
   ·exact h10 i hi q
   ·have := h.lt i hi; omega
  ·obtain ⟨k', q1, q2⟩ := hcr l' hl
   exact ⟨k', fs, by omega, h1, q2⟩
end
end Go.Proofs.YtgpefiacbipfpaaGreatDoor
