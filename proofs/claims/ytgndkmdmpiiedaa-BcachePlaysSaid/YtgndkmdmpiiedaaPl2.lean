/- BcachePlays, its parts: one call, done on both. -/
import Derived.Test.YtgndkmdmpiiedaaPl1
namespace Go.Proofs.Ytgndkmdmpiiedaa
open Go.RowKit

def CPost (X : World) (c m M : Nat) (l : List (Nd Int Int)) (its : List (It Int Int)) (res : Value) (e : Ending) (w' : World) : Prop :=
  e = .returned res ∧ ∃ l', Rep II.cfg w' c m M l' ∧ l'.map (·.it) = its ∧ Upd (foot c m l) X w' ∧ ∀ q ∈ foot c m l', q ∈ foot c m l ∨ X.heap.size ≤ q
def RPost (X : World) (B r M : Nat) (lv : Value) (its : List (It Int Int)) (res : Value) (e : Ending) (w' : World) : Prop :=
  e = .returned res ∧ ∃ lv', Ref.RRep w' B r M lv' its ∧ Upd (Ref.rfoot r lv) X w' ∧ ∀ q ∈ Ref.rfoot r lv', q ∈ Ref.rfoot r lv ∨ X.heap.size ≤ q
def DonePost (W : World) (c m r M N : Nat) (e : Ending) (w' : World) : Prop := e = .returned (.bool true) ∧ ∃ lv' l', Both W c m r M lv' l' N w'

/-- The cache, then the reference. -/
theorem both_cr {W : World} {c m r M : Nat} {lv lv' : Value} {l l' : List (Nd Int Int)} {its : List (It Int Int)} {N N' : Nat} {w w1 w2 : World} (h : Both W c m r M lv l N w)
    (hR1 : Rep II.cfg w1 c m M l') (hi : l'.map (·.it) = its) (hU1 : Upd (foot c m l) w w1) (hF1 : ∀ q ∈ foot c m l', q ∈ foot c m l ∨ w.heap.size ≤ q)
    (hR2 : Ref.RRep w2 W.heap.size r M lv' its) (hU2 : Upd (Ref.rfoot r lv) w1 w2) (hF2 : ∀ q ∈ Ref.rfoot r lv', q ∈ Ref.rfoot r lv ∨ w1.heap.size ≤ q)
    (hlen : its.length ≤ M) (hpins : ∀ y ∈ its, y.p ≤ N') : ∃ lv' l', Both W c m r M lv' l' N' w2 := by
  subst hi
  exact ⟨lv', l', h.next hR1 hU1 hF1 hR2 hU2 hF2 (by simpa using hlen) (fun n hn => hpins _ (List.mem_map.2 ⟨n, hn, rfl⟩))⟩

/-- The reference, then the cache. -/
theorem both_rc {W : World} {c m r M : Nat} {lv lv' : Value} {l l' : List (Nd Int Int)} {its : List (It Int Int)} {N N' : Nat} {w w1 w2 : World} (h : Both W c m r M lv l N w)
    (hR2 : Ref.RRep w1 W.heap.size r M lv' its) (hU2 : Upd (Ref.rfoot r lv) w w1) (hF2 : ∀ q ∈ Ref.rfoot r lv', q ∈ Ref.rfoot r lv ∨ w.heap.size ≤ q)
    (hR1 : Rep II.cfg w2 c m M l') (hi : l'.map (·.it) = its) (hU1 : Upd (foot c m l) w1 w2) (hF1 : ∀ q ∈ foot c m l', q ∈ foot c m l ∨ w1.heap.size ≤ q)
    (hlen : its.length ≤ M) (hpins : ∀ y ∈ its, y.p ≤ N') : ∃ lv' l', Both W c m r M lv' l' N' w2 := by
  subst hi
  have hw := h.upd.size
  have hw1 := hU2.size
  have d1 : ∀ q ∈ Ref.rfoot r lv', q ∉ foot c m l := fun q hq hr => by
    rcases hF2 q hq with h1 | h1
    · exact h.apart q hr h1
    · have := h.rep.lt hr; omega
  refine ⟨lv', l', hR1, hR2.keep hU1 d1, by simpa using hlen, h.most, fun n hn => hpins _ (List.mem_map.2 ⟨n, hn, rfl⟩), ?_, fun q hq => ?_, fun q hq hr => ?_⟩
  · exact (h.upd.next hU2 (fun q hq hlt => by have := (h.ref.lt hq).1; omega)).next hU1 (fun q hq hlt => by have := h.old q hq; omega)
  · rcases hF1 q hq with h1 | h1
    · exact h.old q h1
    · omega
  · rcases hF1 q hq with h1 | h1
    · exact d1 q hr h1
    · have := (hR2.lt hr).2; omega

/-- The reference, while the cache is done. -/
theorem Both.refAt {W : World} {c m r M : Nat} {lv : Value} {l : List (Nd Int Int)} {N : Nat} {w : World} (h : Both W c m r M lv l N w) {X : World} (u : Upd (foot c m l) w X) : Ref.RRep X W.heap.size r M lv (l.map (·.it)) :=
  h.ref.keep u (fun q hq hf => h.apart q hf hq)
theorem Both.repAt {W : World} {c m r M : Nat} {lv : Value} {l : List (Nd Int Int)} {N : Nat} {w : World} (h : Both W c m r M lv l N w) {X : World} (u : Upd (Ref.rfoot r lv) w X) : Rep II.cfg X c m M l :=
  h.rep.keep u (fun q hq => h.apart q hq)
theorem Both.box {W : World} {c m r M : Nat} {lv : Value} {l : List (Nd Int Int)} {N : Nat} {w : World} (h : Both W c m r M lv l N w) : w.heap.size ∉ foot c m l ∧ w.heap.size ∉ Ref.rfoot r lv :=
  ⟨h.rep.new_not, fun q => Nat.lt_irrefl _ (h.ref.lt q).2⟩

set_option maxRecDepth 100000 in
set_option maxHeartbeats 2000000 in
theorem do1 (W : World) {c m r M : Nat} {lv : Value} {l : List (Nd Int Int)} {N N' : Nat} (w : World) (h : Both W c m r M lv l N w) (K V : Int) (D : Bool) (rv : Int) (ok : Bool) {its : List (It Int Int)}
    (HC : ∀ X, Rep II.cfg X c m M l → Calls Try.prog 21 #[.pointer (some ⟨c, 0, none⟩), .int .i64 K] X (CPost X c m M l its (.tuple #[.int .i64 rv, .bool ok])))
    (HR : ∀ X, Ref.RRep X W.heap.size r M lv (l.map (·.it)) → Calls Try.prog 43 #[.pointer (some ⟨r, 0, none⟩), .int .i64 K] X (RPost X W.heap.size r M lv its (.tuple #[.int .i64 rv, .bool ok])))
    (hlen : its.length ≤ M) (hpins : ∀ y ∈ its, y.p ≤ N') :
    Calls Try.prog 19 #[.pointer (some ⟨c, 0, none⟩), .pointer (some ⟨r, 0, none⟩), .agg #[.int .i64 1, .int .i64 K, .int .i64 V, .bool D]] w (DonePost W c m r M N') := by
  have h0 := h.keep ((Upd.refl [] w).alloc (.cells #[.int .i64 1, .int .i64 K, .int .i64 V, .bool D] 53))
  have hbx : (w.alloc (.cells #[.int .i64 1, .int .i64 K, .int .i64 V, .bool D] 53)).heap[w.heap.size]? = some (.cells #[.int .i64 1, .int .i64 K, .int .i64 V, .bool D] 53 (0, 0)) := by rw [heap_alloc, if_pos rfl]
  have hnb := h.box
  have hs : w.heap.size < (w.alloc (.cells #[.int .i64 1, .int .i64 K, .int .i64 V, .bool D] 53)).heap.size := by simp
  have HH := Lib.hid hlen
  have HP := Lib.hid hpins
  have HCC := Lib.hid HC
  have HRR := Lib.hid HR
  clear hlen hpins HC HR h
  go_enter Try.func19, Try.ntmps19
  go_upto_region 1 with (fail)
  generalize w.alloc (.cells #[.int .i64 1, .int .i64 K, .int .i64 V, .bool D] 53) = w0 at *
  have b0 : w0.cell? ⟨w.heap.size, 0, none⟩ = some (.int .i64 1) := cell_blk hbx 0
  have b1 : w0.cell? ⟨w.heap.size, 1, none⟩ = some (.int .i64 K) := cell_blk hbx 1
  have b2 : w0.cell? ⟨w.heap.size, 2, none⟩ = some (.int .i64 V) := cell_blk hbx 2
  have b3 : w0.cell? ⟨w.heap.size, 3, none⟩ = some (.bool D) := cell_blk hbx 3
  have H0 := Lib.hid h0
  have HB := Lib.hid hbx
  have HNB := Lib.hid hnb
  clear h0 hbx hnb
  go_wp2_with fail
  refine (HCC.out w0 H0.out.rep).mono ?_
  rintro e w1 ⟨rfl, l', hR1, hi1, hU1, hF1⟩
  have hb1 : w1.heap[w.heap.size]? = some (.cells #[.int .i64 1, .int .i64 K, .int .i64 V, .bool D] 53 (0, 0)) := by rw [hU1.block _ hs HNB.out.1]; exact HB.out
  have c1 : w1.cell? ⟨w.heap.size, 1, none⟩ = some (.int .i64 K) := cell_blk hb1 1
  have c2 : w1.cell? ⟨w.heap.size, 2, none⟩ = some (.int .i64 V) := cell_blk hb1 2
  have c3 : w1.cell? ⟨w.heap.size, 3, none⟩ = some (.bool D) := cell_blk hb1 3
  have HR1 := Lib.hid (And.intro hR1 (And.intro hi1 (And.intro hU1 hF1)))
  clear hR1 hi1 hU1 hF1 hb1 b0 b1 b2 b3
  go_wp2_with fail
  refine (HRR.out w1 (H0.out.refAt HR1.out.2.2.1)).mono ?_
  rintro e w2 ⟨rfl, lv', hR2, hU2, hF2⟩
  have HD := Lib.hid (both_cr H0.out HR1.out.1 HR1.out.2.1 HR1.out.2.2.1 HR1.out.2.2.2 hR2 hU2 hF2 HH.out HP.out)
  clear hR2 hU2 hF2 c1 c2 c3
  cases ok
  all_goals
    go_wp2_with fail
    go_ret
    exact ⟨rfl, HD.out⟩

set_option maxRecDepth 100000 in
set_option maxHeartbeats 2000000 in
theorem do2 (W : World) {c m r M : Nat} {lv : Value} {l : List (Nd Int Int)} {N N' : Nat} (w : World) (h : Both W c m r M lv l N w) (K V : Int) (D : Bool) (gk gv : Int) (went gd : Bool) (err : Int) {its : List (It Int Int)}
    (HC : ∀ X, Rep II.cfg X c m M l → Calls Try.prog 22 #[.pointer (some ⟨c, 0, none⟩), .int .i64 K, .int .i64 V, .bool D] X (CPost X c m M l its (.tuple #[.int .i64 gk, .int .i64 gv, .bool went, .bool gd, .int .i64 err])))
    (HR : ∀ X, Ref.RRep X W.heap.size r M lv (l.map (·.it)) → Calls Try.prog 44 #[.pointer (some ⟨r, 0, none⟩), .int .i64 K, .int .i64 V, .bool D] X (RPost X W.heap.size r M lv its (.tuple #[.int .i64 gk, .int .i64 gv, .bool went, .bool gd, .int .i64 err])))
    (hlen : its.length ≤ M) (hpins : ∀ y ∈ its, y.p ≤ N') :
    Calls Try.prog 19 #[.pointer (some ⟨c, 0, none⟩), .pointer (some ⟨r, 0, none⟩), .agg #[.int .i64 2, .int .i64 K, .int .i64 V, .bool D]] w (DonePost W c m r M N') := by
  have h0 := h.keep ((Upd.refl [] w).alloc (.cells #[.int .i64 2, .int .i64 K, .int .i64 V, .bool D] 53))
  have hbx : (w.alloc (.cells #[.int .i64 2, .int .i64 K, .int .i64 V, .bool D] 53)).heap[w.heap.size]? = some (.cells #[.int .i64 2, .int .i64 K, .int .i64 V, .bool D] 53 (0, 0)) := by rw [heap_alloc, if_pos rfl]
  have hnb := h.box
  have hs : w.heap.size < (w.alloc (.cells #[.int .i64 2, .int .i64 K, .int .i64 V, .bool D] 53)).heap.size := by simp
  have HH := Lib.hid hlen
  have HP := Lib.hid hpins
  have HCC := Lib.hid HC
  have HRR := Lib.hid HR
  clear hlen hpins HC HR h
  go_enter Try.func19, Try.ntmps19
  go_upto_region 1 with (fail)
  generalize w.alloc (.cells #[.int .i64 2, .int .i64 K, .int .i64 V, .bool D] 53) = w0 at *
  have b0 : w0.cell? ⟨w.heap.size, 0, none⟩ = some (.int .i64 2) := cell_blk hbx 0
  have b1 : w0.cell? ⟨w.heap.size, 1, none⟩ = some (.int .i64 K) := cell_blk hbx 1
  have b2 : w0.cell? ⟨w.heap.size, 2, none⟩ = some (.int .i64 V) := cell_blk hbx 2
  have b3 : w0.cell? ⟨w.heap.size, 3, none⟩ = some (.bool D) := cell_blk hbx 3
  have H0 := Lib.hid h0
  have HB := Lib.hid hbx
  have HNB := Lib.hid hnb
  clear h0 hbx hnb
  go_wp2_with fail
  refine (HCC.out w0 H0.out.rep).mono ?_
  rintro e w1 ⟨rfl, l', hR1, hi1, hU1, hF1⟩
  have hb1 : w1.heap[w.heap.size]? = some (.cells #[.int .i64 2, .int .i64 K, .int .i64 V, .bool D] 53 (0, 0)) := by rw [hU1.block _ hs HNB.out.1]; exact HB.out
  have c1 : w1.cell? ⟨w.heap.size, 1, none⟩ = some (.int .i64 K) := cell_blk hb1 1
  have c2 : w1.cell? ⟨w.heap.size, 2, none⟩ = some (.int .i64 V) := cell_blk hb1 2
  have c3 : w1.cell? ⟨w.heap.size, 3, none⟩ = some (.bool D) := cell_blk hb1 3
  have HR1 := Lib.hid (And.intro hR1 (And.intro hi1 (And.intro hU1 hF1)))
  clear hR1 hi1 hU1 hF1 hb1 b0 b1 b2 b3
  go_wp2_with fail
  refine (HRR.out w1 (H0.out.refAt HR1.out.2.2.1)).mono ?_
  rintro e w2 ⟨rfl, lv', hR2, hU2, hF2⟩
  have HD := Lib.hid (both_cr H0.out HR1.out.1 HR1.out.2.1 HR1.out.2.2.1 HR1.out.2.2.2 hR2 hU2 hF2 HH.out HP.out)
  clear hR2 hU2 hF2 c1 c2 c3
  cases went <;> cases gd
  all_goals
    go_wp2_with fail
    go_ret
    exact ⟨rfl, HD.out⟩

set_option maxRecDepth 100000 in
set_option maxHeartbeats 2000000 in
theorem do3 (W : World) {c m r M : Nat} {lv : Value} {l : List (Nd Int Int)} {N N' : Nat} (w : World) (h : Both W c m r M lv l N w) (K V : Int) (D : Bool) (err : Int) {its : List (It Int Int)}
    (HC : ∀ X, Rep II.cfg X c m M l → Calls Try.prog 23 #[.pointer (some ⟨c, 0, none⟩), .int .i64 K] X (CPost X c m M l its (.int .i64 err)))
    (HR : ∀ X, Ref.RRep X W.heap.size r M lv (l.map (·.it)) → Calls Try.prog 45 #[.pointer (some ⟨r, 0, none⟩), .int .i64 1, .int .i64 K] X (RPost X W.heap.size r M lv its (.int .i64 err)))
    (hlen : its.length ≤ M) (hpins : ∀ y ∈ its, y.p ≤ N') :
    Calls Try.prog 19 #[.pointer (some ⟨c, 0, none⟩), .pointer (some ⟨r, 0, none⟩), .agg #[.int .i64 3, .int .i64 K, .int .i64 V, .bool D]] w (DonePost W c m r M N') := by
  have h0 := h.keep ((Upd.refl [] w).alloc (.cells #[.int .i64 3, .int .i64 K, .int .i64 V, .bool D] 53))
  have hbx : (w.alloc (.cells #[.int .i64 3, .int .i64 K, .int .i64 V, .bool D] 53)).heap[w.heap.size]? = some (.cells #[.int .i64 3, .int .i64 K, .int .i64 V, .bool D] 53 (0, 0)) := by rw [heap_alloc, if_pos rfl]
  have hnb := h.box
  have hs : w.heap.size < (w.alloc (.cells #[.int .i64 3, .int .i64 K, .int .i64 V, .bool D] 53)).heap.size := by simp
  have HH := Lib.hid hlen
  have HP := Lib.hid hpins
  have HCC := Lib.hid HC
  have HRR := Lib.hid HR
  clear hlen hpins HC HR h
  go_enter Try.func19, Try.ntmps19
  go_upto_region 1 with (fail)
  generalize w.alloc (.cells #[.int .i64 3, .int .i64 K, .int .i64 V, .bool D] 53) = w0 at *
  have b0 : w0.cell? ⟨w.heap.size, 0, none⟩ = some (.int .i64 3) := cell_blk hbx 0
  have b1 : w0.cell? ⟨w.heap.size, 1, none⟩ = some (.int .i64 K) := cell_blk hbx 1
  have H0 := Lib.hid h0
  have HNB := Lib.hid hnb
  clear h0 hbx hnb
  go_wp2_with fail
  go_region_held3 (fun w' => w'.cell? ⟨w.heap.size, 1, none⟩ = some (.int .i64 K))
    (first
      | go_keep
      | (rw [World.cell?_of_block (hU1.block _ hs1 HNB.out.1)]; assumption)
      | (rw [World.cell?_of_block (hU2.block _ hs2 HNB.out.2)]; assumption))
    (first
      | (go_at_call 23; refine (HCC.out _ (by first | exact H0.out.repAt (Upd.refl _ _).drew | exact H0.out.repAt ((Upd.refl _ _).drew.trans hU2))).mono ?_; rintro e w1 ⟨rfl, l', hR1, hi1, hU1, hF1⟩; have hs1 := (show w.heap.size < _ from Nat.lt_of_lt_of_le hs (by first | exact hU2.size | exact Nat.le_refl _)))
      | (go_at_call 45; refine (HRR.out _ (by first | exact H0.out.refAt (Upd.refl _ _).drew | exact H0.out.refAt ((Upd.refl _ _).drew.trans hU1))).mono ?_; rintro e w2 ⟨rfl, lv', hR2, hU2, hF2⟩; have hs2 := (show w.heap.size < _ from Nat.lt_of_lt_of_le hs (by first | exact hU1.size | exact Nat.le_refl _))))
  all_goals
    first
      | have HD := Lib.hid (both_cr (H0.out.keep (Upd.refl [] _).drew) hR1 hi1 hU1 hF1 hR2 hU2 hF2 HH.out HP.out)
      | have HD := Lib.hid (both_rc (H0.out.keep (Upd.refl [] _).drew) hR2 hU2 hF2 hR1 hi1 hU1 hF1 HH.out HP.out)
    clear hR1 hi1 hU1 hF1 hR2 hU2 hF2
    go_wp2_with fail
    go_ret
    exact ⟨rfl, HD.out⟩

set_option maxRecDepth 100000 in
set_option maxHeartbeats 2000000 in
theorem do4 (W : World) {c m r M : Nat} {lv : Value} {l : List (Nd Int Int)} {N N' : Nat} (w : World) (h : Both W c m r M lv l N w) (K V : Int) (D : Bool) (err : Int) {its : List (It Int Int)}
    (HC : ∀ X, Rep II.cfg X c m M l → Calls Try.prog 24 #[.pointer (some ⟨c, 0, none⟩), .int .i64 K] X (CPost X c m M l its (.int .i64 err)))
    (HR : ∀ X, Ref.RRep X W.heap.size r M lv (l.map (·.it)) → Calls Try.prog 45 #[.pointer (some ⟨r, 0, none⟩), .int .i64 2, .int .i64 K] X (RPost X W.heap.size r M lv its (.int .i64 err)))
    (hlen : its.length ≤ M) (hpins : ∀ y ∈ its, y.p ≤ N') :
    Calls Try.prog 19 #[.pointer (some ⟨c, 0, none⟩), .pointer (some ⟨r, 0, none⟩), .agg #[.int .i64 4, .int .i64 K, .int .i64 V, .bool D]] w (DonePost W c m r M N') := by
  have h0 := h.keep ((Upd.refl [] w).alloc (.cells #[.int .i64 4, .int .i64 K, .int .i64 V, .bool D] 53))
  have hbx : (w.alloc (.cells #[.int .i64 4, .int .i64 K, .int .i64 V, .bool D] 53)).heap[w.heap.size]? = some (.cells #[.int .i64 4, .int .i64 K, .int .i64 V, .bool D] 53 (0, 0)) := by rw [heap_alloc, if_pos rfl]
  have hnb := h.box
  have hs : w.heap.size < (w.alloc (.cells #[.int .i64 4, .int .i64 K, .int .i64 V, .bool D] 53)).heap.size := by simp
  have HH := Lib.hid hlen
  have HP := Lib.hid hpins
  have HCC := Lib.hid HC
  have HRR := Lib.hid HR
  clear hlen hpins HC HR h
  go_enter Try.func19, Try.ntmps19
  go_upto_region 1 with (fail)
  generalize w.alloc (.cells #[.int .i64 4, .int .i64 K, .int .i64 V, .bool D] 53) = w0 at *
  have b0 : w0.cell? ⟨w.heap.size, 0, none⟩ = some (.int .i64 4) := cell_blk hbx 0
  have b1 : w0.cell? ⟨w.heap.size, 1, none⟩ = some (.int .i64 K) := cell_blk hbx 1
  have H0 := Lib.hid h0
  have HNB := Lib.hid hnb
  clear h0 hbx hnb
  go_wp2_with fail
  go_region_held3 (fun w' => w'.cell? ⟨w.heap.size, 1, none⟩ = some (.int .i64 K))
    (first
      | go_keep
      | (rw [World.cell?_of_block (hU1.block _ hs1 HNB.out.1)]; assumption)
      | (rw [World.cell?_of_block (hU2.block _ hs2 HNB.out.2)]; assumption))
    (first
      | (go_at_call 24; refine (HCC.out _ (by first | exact H0.out.repAt (Upd.refl _ _).drew | exact H0.out.repAt ((Upd.refl _ _).drew.trans hU2))).mono ?_; rintro e w1 ⟨rfl, l', hR1, hi1, hU1, hF1⟩; have hs1 := (show w.heap.size < _ from Nat.lt_of_lt_of_le hs (by first | exact hU2.size | exact Nat.le_refl _)))
      | (go_at_call 45; refine (HRR.out _ (by first | exact H0.out.refAt (Upd.refl _ _).drew | exact H0.out.refAt ((Upd.refl _ _).drew.trans hU1))).mono ?_; rintro e w2 ⟨rfl, lv', hR2, hU2, hF2⟩; have hs2 := (show w.heap.size < _ from Nat.lt_of_lt_of_le hs (by first | exact hU1.size | exact Nat.le_refl _))))
  all_goals
    first
      | have HD := Lib.hid (both_cr (H0.out.keep (Upd.refl [] _).drew) hR1 hi1 hU1 hF1 hR2 hU2 hF2 HH.out HP.out)
      | have HD := Lib.hid (both_rc (H0.out.keep (Upd.refl [] _).drew) hR2 hU2 hF2 hR1 hi1 hU1 hF1 HH.out HP.out)
    clear hR1 hi1 hU1 hF1 hR2 hU2 hF2
    go_wp2_with fail
    go_ret
    exact ⟨rfl, HD.out⟩

set_option maxRecDepth 100000 in
set_option maxHeartbeats 2000000 in
theorem do5 (W : World) {c m r M : Nat} {lv : Value} {l : List (Nd Int Int)} {N N' : Nat} (w : World) (h : Both W c m r M lv l N w) (K V : Int) (D : Bool) (err : Int) {its : List (It Int Int)}
    (HC : ∀ X, Rep II.cfg X c m M l → Calls Try.prog 25 #[.pointer (some ⟨c, 0, none⟩), .int .i64 K] X (CPost X c m M l its (.int .i64 err)))
    (HR : ∀ X, Ref.RRep X W.heap.size r M lv (l.map (·.it)) → Calls Try.prog 45 #[.pointer (some ⟨r, 0, none⟩), .int .i64 3, .int .i64 K] X (RPost X W.heap.size r M lv its (.int .i64 err)))
    (hlen : its.length ≤ M) (hpins : ∀ y ∈ its, y.p ≤ N') :
    Calls Try.prog 19 #[.pointer (some ⟨c, 0, none⟩), .pointer (some ⟨r, 0, none⟩), .agg #[.int .i64 5, .int .i64 K, .int .i64 V, .bool D]] w (DonePost W c m r M N') := by
  have h0 := h.keep ((Upd.refl [] w).alloc (.cells #[.int .i64 5, .int .i64 K, .int .i64 V, .bool D] 53))
  have hbx : (w.alloc (.cells #[.int .i64 5, .int .i64 K, .int .i64 V, .bool D] 53)).heap[w.heap.size]? = some (.cells #[.int .i64 5, .int .i64 K, .int .i64 V, .bool D] 53 (0, 0)) := by rw [heap_alloc, if_pos rfl]
  have hnb := h.box
  have hs : w.heap.size < (w.alloc (.cells #[.int .i64 5, .int .i64 K, .int .i64 V, .bool D] 53)).heap.size := by simp
  have HH := Lib.hid hlen
  have HP := Lib.hid hpins
  have HCC := Lib.hid HC
  have HRR := Lib.hid HR
  clear hlen hpins HC HR h
  go_enter Try.func19, Try.ntmps19
  go_upto_region 1 with (fail)
  generalize w.alloc (.cells #[.int .i64 5, .int .i64 K, .int .i64 V, .bool D] 53) = w0 at *
  have b0 : w0.cell? ⟨w.heap.size, 0, none⟩ = some (.int .i64 5) := cell_blk hbx 0
  have b1 : w0.cell? ⟨w.heap.size, 1, none⟩ = some (.int .i64 K) := cell_blk hbx 1
  have H0 := Lib.hid h0
  have HNB := Lib.hid hnb
  clear h0 hbx hnb
  go_wp2_with fail
  go_region_held3 (fun w' => w'.cell? ⟨w.heap.size, 1, none⟩ = some (.int .i64 K))
    (first
      | go_keep
      | (rw [World.cell?_of_block (hU1.block _ hs1 HNB.out.1)]; assumption)
      | (rw [World.cell?_of_block (hU2.block _ hs2 HNB.out.2)]; assumption))
    (first
      | (go_at_call 25; refine (HCC.out _ (by first | exact H0.out.repAt (Upd.refl _ _).drew | exact H0.out.repAt ((Upd.refl _ _).drew.trans hU2))).mono ?_; rintro e w1 ⟨rfl, l', hR1, hi1, hU1, hF1⟩; have hs1 := (show w.heap.size < _ from Nat.lt_of_lt_of_le hs (by first | exact hU2.size | exact Nat.le_refl _)))
      | (go_at_call 45; refine (HRR.out _ (by first | exact H0.out.refAt (Upd.refl _ _).drew | exact H0.out.refAt ((Upd.refl _ _).drew.trans hU1))).mono ?_; rintro e w2 ⟨rfl, lv', hR2, hU2, hF2⟩; have hs2 := (show w.heap.size < _ from Nat.lt_of_lt_of_le hs (by first | exact hU1.size | exact Nat.le_refl _))))
  all_goals
    first
      | have HD := Lib.hid (both_cr (H0.out.keep (Upd.refl [] _).drew) hR1 hi1 hU1 hF1 hR2 hU2 hF2 HH.out HP.out)
      | have HD := Lib.hid (both_rc (H0.out.keep (Upd.refl [] _).drew) hR2 hU2 hF2 hR1 hi1 hU1 hF1 HH.out HP.out)
    clear hR1 hi1 hU1 hF1 hR2 hU2 hF2
    go_wp2_with fail
    go_ret
    exact ⟨rfl, HD.out⟩

set_option maxRecDepth 100000 in
set_option maxHeartbeats 2000000 in
theorem do6 (W : World) {c m r M : Nat} {lv : Value} {l : List (Nd Int Int)} {N N' : Nat} (w : World) (h : Both W c m r M lv l N w) (K V : Int) (D : Bool) (err : Int) {its : List (It Int Int)}
    (HC : ∀ X, Rep II.cfg X c m M l → Calls Try.prog 26 #[.pointer (some ⟨c, 0, none⟩), .int .i64 K] X (CPost X c m M l its (.int .i64 err)))
    (HR : ∀ X, Ref.RRep X W.heap.size r M lv (l.map (·.it)) → Calls Try.prog 45 #[.pointer (some ⟨r, 0, none⟩), .int .i64 4, .int .i64 K] X (RPost X W.heap.size r M lv its (.int .i64 err)))
    (hlen : its.length ≤ M) (hpins : ∀ y ∈ its, y.p ≤ N') :
    Calls Try.prog 19 #[.pointer (some ⟨c, 0, none⟩), .pointer (some ⟨r, 0, none⟩), .agg #[.int .i64 6, .int .i64 K, .int .i64 V, .bool D]] w (DonePost W c m r M N') := by
  have h0 := h.keep ((Upd.refl [] w).alloc (.cells #[.int .i64 6, .int .i64 K, .int .i64 V, .bool D] 53))
  have hbx : (w.alloc (.cells #[.int .i64 6, .int .i64 K, .int .i64 V, .bool D] 53)).heap[w.heap.size]? = some (.cells #[.int .i64 6, .int .i64 K, .int .i64 V, .bool D] 53 (0, 0)) := by rw [heap_alloc, if_pos rfl]
  have hnb := h.box
  have hs : w.heap.size < (w.alloc (.cells #[.int .i64 6, .int .i64 K, .int .i64 V, .bool D] 53)).heap.size := by simp
  have HH := Lib.hid hlen
  have HP := Lib.hid hpins
  have HCC := Lib.hid HC
  have HRR := Lib.hid HR
  clear hlen hpins HC HR h
  go_enter Try.func19, Try.ntmps19
  go_upto_region 1 with (fail)
  generalize w.alloc (.cells #[.int .i64 6, .int .i64 K, .int .i64 V, .bool D] 53) = w0 at *
  have b0 : w0.cell? ⟨w.heap.size, 0, none⟩ = some (.int .i64 6) := cell_blk hbx 0
  have b1 : w0.cell? ⟨w.heap.size, 1, none⟩ = some (.int .i64 K) := cell_blk hbx 1
  have H0 := Lib.hid h0
  have HNB := Lib.hid hnb
  clear h0 hbx hnb
  go_wp2_with fail
  go_region_held3 (fun w' => w'.cell? ⟨w.heap.size, 1, none⟩ = some (.int .i64 K))
    (first
      | go_keep
      | (rw [World.cell?_of_block (hU1.block _ hs1 HNB.out.1)]; assumption)
      | (rw [World.cell?_of_block (hU2.block _ hs2 HNB.out.2)]; assumption))
    (first
      | (go_at_call 26; refine (HCC.out _ (by first | exact H0.out.repAt (Upd.refl _ _).drew | exact H0.out.repAt ((Upd.refl _ _).drew.trans hU2))).mono ?_; rintro e w1 ⟨rfl, l', hR1, hi1, hU1, hF1⟩; have hs1 := (show w.heap.size < _ from Nat.lt_of_lt_of_le hs (by first | exact hU2.size | exact Nat.le_refl _)))
      | (go_at_call 45; refine (HRR.out _ (by first | exact H0.out.refAt (Upd.refl _ _).drew | exact H0.out.refAt ((Upd.refl _ _).drew.trans hU1))).mono ?_; rintro e w2 ⟨rfl, lv', hR2, hU2, hF2⟩; have hs2 := (show w.heap.size < _ from Nat.lt_of_lt_of_le hs (by first | exact hU1.size | exact Nat.le_refl _))))
  all_goals
    first
      | have HD := Lib.hid (both_cr (H0.out.keep (Upd.refl [] _).drew) hR1 hi1 hU1 hF1 hR2 hU2 hF2 HH.out HP.out)
      | have HD := Lib.hid (both_rc (H0.out.keep (Upd.refl [] _).drew) hR2 hU2 hF2 hR1 hi1 hU1 hF1 HH.out HP.out)
    clear hR1 hi1 hU1 hF1 hR2 hU2 hF2
    go_wp2_with fail
    go_ret
    exact ⟨rfl, HD.out⟩
end Go.Proofs.Ytgndkmdmpiiedaa
