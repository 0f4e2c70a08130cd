/- awake: the chapter's examples are so. -/
import Derived.WideKeyArgs
import Derived.Deep.Slices
import Derived.Deep.Fields
import Derived.ChangeSame
import Derived.SizedLaws
import Derived.Test.YtgpefiacbipfpaaGreatDoorC29
set_option maxRecDepth 100000
namespace Go.Proofs.YtgpefiacbipfpaaGreatDoor
open Go.RowKit Go.Maps
structure xW (w0 w : World) (v p : Nat) (D : aI) (room k s : Nat) (fs last : aG) (X : fV) : Prop where
 at_ : dM w v p D room k s fs last X
 fuse : D.fuse < 0
 upd : aB [] w0 w
 low : ∀ i ∈ X.fp v, w0.heap.size ≤ i
theorem xW.keep {w0 w w' : World} {v p : Nat} {D : aI} {room k s : Nat} {fs last : aG} {X : fV} (h : xW w0 w v p D room k s fs last X) (u : aB [] w w') : xW w0 w' v p D room k s fs last X :=
 ⟨h.at_.keep u (by simp), h.fuse, h.upd.trans u, h.low⟩
theorem eY.count {l : Nat → aL} {room k s : Nat} {fs last : aG} (h : eY l room k s fs last) : nP room fs last + (bH last).length + ((bH fs).filter fun b => !decide (b ∈ bH last)).length = room :=
 Pk h.now h.was fun _b hb => CZ fs last hb
theorem vG.of {D D' : aI} (h : vG D D') : iM D.blk D'.blk := fun i => ⟨h.pend i, h.safe i⟩
def bT (G : List Nat) (w w' : World) : Prop := ∃ F, aB F w w' ∧ ∀ i ∈ G, i ∉ F
theorem bT.of {G : List Nat} {w w' : World} (u : aB [] w w') : bT G w w' := ⟨[], u, by simp⟩
theorem bT.trans {G : List Nat} {w w1 w2 : World} (h : bT G w w1) (g : bT G w1 w2) : bT G w w2 := by
 obtain ⟨F, u, hF⟩ := h
 obtain ⟨F', u', hF'⟩ := g
 refine ⟨F ++ F', (u.mono fun k hk _ => iL _ hk).trans (u'.mono fun k hk _ => fM _ hk), fun i hi q => ?_⟩
 rcases bK.1 q with q | q
 ·exact hF i hi q
 exact hF' i hi q
theorem bT.sub {G G' : List Nat} {w w' : World} (h : bT G w w') (hs : ∀ i ∈ G', i ∈ G) : bT G' w w' := by
 obtain ⟨F, u, hF⟩ := h
 exact ⟨F, u, fun i hi => hF i (hs i hi)⟩
theorem bT.size {G : List Nat} {w w' : World} (h : bT G w w') : w.heap.size ≤ w'.heap.size := by
 obtain ⟨F, u, -⟩ := h
 exact u.size
theorem bT.block {G : List Nat} {w w' : World} (h : bT G w w') {b : Nat} (hb : b < w.heap.size) (hg : b ∈ G) : w'.heap[b]? = w.heap[b]? := by
 obtain ⟨F, u, hF⟩ := h
 exact u.block b hb (hF b hg)
theorem bT.owT {G : List Nat} {w w' : World} (h : bT G w w') {base : Nat} {v : Value} {l : List Bs} (ho : gV w base v l) (hg : ∀ g, v.ownBlock = some g → g ∈ G) : gV w' base v l := by
 obtain ⟨F, u, hF⟩ := h
 exact ho.upd u fun i hi e => hF i (hg i e) hi
structure Lv (w0 w : World) (v p room : Nat) (fs last : aG) (c : Nat) (G : List Nat) : Prop where
 st : ∃ (D : aI) (k s : Nat) (X : fV), xW w0 w v p D room k s fs last X ∧ k ≤ 3 + 2 * c ∧ D.wr ≤ 10000 + 50000 * c ∧ ∀ i ∈ G, i ∉ X.fp v
 lt : ∀ i ∈ G, i < w.heap.size
section
variable {w0 w w' : World} {v p room : Nat} {fs last : aG} {c : Nat} {G : List Nat}
theorem Lv.upd (h : Lv w0 w v p room fs last c G) : aB [] w0 w := by
 obtain ⟨D, k, s, X, h, -⟩ := h.st
 exact h.upd
theorem Lv.keep (h : Lv w0 w v p room fs last c G) (u : aB [] w w') : Lv w0 w' v p room fs last c G := by
 obtain ⟨D, k, s, X, h1, h2, h3, h4⟩ := h.st
 exact ⟨⟨D, k, s, X, h1.keep u, h2, h3, h4⟩, fun i hi => dN (h.lt i hi) u.size⟩
theorem Lv.sub {G' : List Nat} (h : Lv w0 w v p room fs last c G) (hs : ∀ i ∈ G', i ∈ G) : Lv w0 w v p room fs last c G' := by
 obtain ⟨D, k, s, X, h1, h2, h3, h4⟩ := h.st
 exact ⟨⟨D, k, s, X, h1, h2, h3, fun i hi => h4 i (hs i hi)⟩, fun i hi => h.lt i (hs i hi)⟩
theorem Lv.more {c' : Nat} (h : Lv w0 w v p room fs last c G) (hc : c ≤ c') : Lv w0 w v p room fs last c' G := by
 obtain ⟨D, k, s, X, h1, h2, h3, h4⟩ := h.st
 exact ⟨⟨D, k, s, X, h1, by omega, by omega, h4⟩, h.lt⟩
theorem Lv.guard (h : Lv w0 w v p room fs last c G) (u : aB [] w w') {G' : List Nat} (hg : ∀ b ∈ G', w.heap.size ≤ b ∧ b < w'.heap.size) : Lv w0 w' v p room fs last c (G' ++ G) := by
 obtain ⟨D, k, s, X, h1, h2, h3, h4⟩ := h.st
 refine ⟨⟨D, k, s, X, h1.keep u, h2, h3, fun i hi q => ?_⟩, fun i hi => ?_⟩
 ·rcases bK.1 hi with e | e
  ·have := h1.at_.lt i q
   have := (hg i e).1
   omega
  exact h4 i e q
 rcases bK.1 hi with e | e
 ·exact (hg i e).2
 exact dN (h.lt i e) u.size
theorem Lv.inv (h : Lv w0 w v p room fs last c G) : ∃ (l : Nat → aL) (k s : Nat), eY l room k s fs last := by
 obtain ⟨D, k, s, X, h, -⟩ := h.st
 exact ⟨_, _, _, h.at_.inv⟩
theorem Lv.turn {D D' : aI} {k s k' s' : Nat} {fs' last' : aG} {X : fV} {c' : Nat} (h : xW w0 w v p D room k s fs last X) (hG : ∀ i ∈ G, i ∉ X.fp v) (hlt : ∀ i ∈ G, i < w.heap.size) (hn : lD w v p room X D' k' s' fs' last' w') (hf : D'.fuse < 0) (hk : k' ≤ 3 + 2 * c') (hw : D'.wr ≤ 10000 + 50000 * c') : Lv w0 w' v p room fs' last' c' G ∧ bT G w w' := by
 obtain ⟨X', h1, h2, h3⟩ := hn
 have hs := h.upd.size
 refine ⟨⟨⟨D', k', s', X', ⟨h1, hf, h.upd.next h2 fun i hi hlt => by have := h.low i hi; omega, fun i hi => ?_⟩, hk, hw, fun i hi q => ?_⟩, fun i hi => dN (hlt i hi) h2.size⟩, ⟨_, h2, hG⟩⟩
 ·rcases h3 i hi with q | q
  ·exact h.low i q
  omega
 rcases h3 i q with q | q
 ·exact hG i hi q
 have := hlt i hi; omega
theorem Lv.create (h : Lv w0 w v p room fs last c G) (nm : ByteArray) (hs : nm.size ≤ maxLen) :
  Calls Tryz.prog 11 #[.pointer (some ⟨v, 0, none⟩), .string nm] w fun r w' => r = .returned (.int .i64 (iI false fs nm.data.toList)) ∧ Lv w0 w' v p room (uT fs nm.data.toList) last c G ∧ bT G w w' := by
 obtain ⟨D, k, s, X, h1, h2, h3, h4⟩ := h.st
 exact (Qr h1.at_ nm hs).mono fun r w' ⟨e, hn⟩ => ⟨e, Lv.turn h1 h4 h.lt hn h1.fuse h2 h3⟩
theorem Lv.remove (h : Lv w0 w v p room fs last c G) (h0 : 1 ≤ room) (nm : ByteArray) (hs : nm.size ≤ maxLen) :
  Calls Tryz.prog 116 #[.pointer (some ⟨v, 0, none⟩), .string nm] w fun r w' => r = .returned (.int .i64 (nL false fs nm.data.toList)) ∧ Lv w0 w' v p room (dJ fs nm.data.toList) last c G ∧ bT G w w' := by
 obtain ⟨D, k, s, X, h1, h2, h3, h4⟩ := h.st
 exact (Qs h1.at_ h0 nm hs).mono fun r w' ⟨e, hn⟩ => ⟨e, Lv.turn h1 h4 h.lt hn h1.fuse h2 h3⟩
theorem Lv.size (h : Lv w0 w v p room fs last c G) (nm : ByteArray) (hs : nm.size ≤ maxLen) :
  Calls Tryz.prog 54 #[.pointer (some ⟨v, 0, none⟩), .string nm] w fun r w' => r = .returned (.tuple #[.int .i64 (rE fs nm.data.toList).1, .int .i64 (rE fs nm.data.toList).2]) ∧ Lv w0 w' v p room fs last c G ∧ bT G w w' := by
 obtain ⟨D, k, s, X, h1, h2, h3, h4⟩ := h.st
 exact (Qt h1.at_ nm hs).mono fun r w' ⟨e, hn⟩ => ⟨e, Lv.turn h1 h4 h.lt hn h1.fuse h2 h3⟩
theorem Lv.free (h : Lv w0 w v p room fs last c G) :
  Calls Tryz.prog 78 #[.pointer (some ⟨v, 0, none⟩)] w fun r w' => r = .returned (.int .i64 (nP room fs last)) ∧ Lv w0 w' v p room fs last c G ∧ bT G w w' := by
 obtain ⟨D, k, s, X, h1, h2, h3, h4⟩ := h.st
 exact (Qu h1.at_).mono fun r w' ⟨e, hn⟩ => ⟨e, Lv.turn h1 h4 h.lt hn h1.fuse h2 h3⟩
theorem Lv.sync (h : Lv w0 w v p room fs last c G) (hc : c ≤ 1000000) :
  Calls Tryz.prog 14 #[.pointer (some ⟨v, 0, none⟩)] w fun r w' => r = .returned (.int .i64 0) ∧ Lv w0 w' v p room fs fs (c + 1) G ∧ bT G w w' := by
 obtain ⟨D, k, s, X, h1, h2, h3, h4⟩ := h.st
 refine (PF w h1.at_ (by omega) (by omega)).mono fun r w' ⟨e, D', hr, hR, hok, _⟩ => ?_
 obtain ⟨rfl, hfu, -⟩ := hR.ok h1.fuse h1.at_.up
 have := hR.wr
 exact ⟨hr, Lv.turn h1 h4 h.lt (hok rfl) hfu (by omega) (by omega)⟩
def xX (room : Nat) (fs last : aG) (nm d : Bs) : aG := if lE room fs last nm d.length = 0 then uS room fs last nm d else fs
theorem Lv.append (h : Lv w0 w v p room fs last c G) (hc : c ≤ 1000000) (nm : ByteArray) (hs : nm.size ≤ maxLen) {dv : Value} {d : Bs} (hd : Rd w dv d) (hdo : d ≠ [] → ∀ g, dv.ownBlock = some g → g ∈ G ∨ g < w0.heap.size) (hdl : d.length ≤ 140737488355328) :
  Calls Tryz.prog 13 #[.pointer (some ⟨v, 0, none⟩), .string nm, dv] w fun r w' => r = .returned (.int .i64 (lE room fs last nm.data.toList d.length)) ∧ Lv w0 w' v p room (xX room fs last nm.data.toList d) last (c + 1) G ∧ bT G w w' := by
 obtain ⟨D, k, s, X, h1, h2, h3, h4⟩ := h.st
 refine (PK w h1.at_ (by omega) nm hs hd (fun hne g hg => ?_) hdl).mono fun r w' ⟨e, D', hr, hR, hok, _⟩ => ?_
 ·have := h1.upd.size
  rcases hdo hne g hg with q | q
  ·exact ⟨h4 g q, h.lt g q⟩
  exact ⟨fun q2 => by have := h1.low g q2; omega, by omega⟩
 obtain ⟨rfl, hfu, -⟩ := hR.ok h1.fuse h1.at_.up
 have := hR.wr
 rw [aF rfl] at hr
 exact ⟨hr, Lv.turn h1 h4 h.lt (hok rfl) hfu (by omega) (by omega)⟩
theorem Lv.list (h : Lv w0 w v p room fs last c G) :
  Calls Tryz.prog 75 #[.pointer (some ⟨v, 0, none⟩)] w fun r w' => ∃ u, r = .returned u ∧ gV w' w.heap.size u (fs.map (·.1)) ∧ aB [] w w' ∧ Lv w0 w' v p room fs last c (u.ownBlock.toList ++ G) := by
 obtain ⟨D, k, s, X, h1, h2, h3, h4⟩ := h.st
 refine (Qv h1.at_).mono fun r w' ⟨u, hr, ho, hu, _⟩ => ?_
 refine ⟨u, hr, ho, hu, h.guard hu fun b hb => ?_⟩
 exact ho.block b (by simpa using hb)
theorem Lv.read (h : Lv w0 w v p room fs last c G) (hc : c ≤ 1000000) (nm : ByteArray) (hs : nm.size ≤ maxLen) (at_ cnt : Int) :
  Calls Tryz.prog 56 #[.pointer (some ⟨v, 0, none⟩), .string nm, .int .i64 at_, .int .i64 cnt] w fun r w' => ∃ rv, r = .returned (.tuple #[rv, .int .i64 (fW fs nm.data.toList at_ cnt)]) ∧
   (fW fs nm.data.toList at_ cnt = 0 → Ow w' w.heap.size rv (oF fs nm.data.toList at_ cnt)) ∧ (fW fs nm.data.toList at_ cnt ≠ 0 → rv = .slice none 0 0) ∧ Lv w0 w' v p room fs last c (rv.ownBlock.toList ++ G) ∧ bT G w w' := by
 obtain ⟨D, k, s, X, h1, h2, h3, h4⟩ := h.st
 refine (Qx h1.at_ (by omega) nm hs at_ cnt).mono fun r w' ⟨e, D', rv, hr, hR, hblk, hok, _⟩ => ?_
 obtain ⟨rfl, hfu, -⟩ := hR.ok h1.fuse h1.at_.up
 have hw := hR.wr
 rw [aF rfl] at hr
 obtain ⟨⟨X', g1, g2, g3, g4⟩, ho, hn⟩ := hok rfl
 have hs := h1.upd.size
 refine ⟨rv, hr, ho, hn, ⟨⟨D', k, s, X', ⟨g1, hfu, h1.upd.next g2 fun i hi hlt => by have := h1.low i hi; omega, fun i hi => ?_⟩, h2, by omega, fun i hi q => ?_⟩, fun i hi => ?_⟩, ⟨_, g2, h4⟩⟩
 ·rcases g3 i hi with q | q
  ·exact h1.low i q
  omega
 ·rcases bK.1 hi with e | e
  ·exact g4 i (by simpa using e) q
  rcases g3 i q with q | q
  ·exact h4 i e q
  have := h.lt i e; omega
 rcases bK.1 hi with e | e
 ·by_cases hc : fW fs nm.data.toList at_ cnt = 0
  ·exact ((ho hc).block i (by simpa using e)).2
  rw [hn hc] at e; simp [Value.ownBlock] at e
 exact dN (h.lt i e) g2.size
end
theorem QE (w0 : World) {w : World} (u : aB [] w0 w) (n : Nat) (h1 : 64 ≤ n) (h2 : n ≤ 512) : Calls Tryz.prog 8 #[.int .i64 n] w fun r w' => ∃ p v, r = .returned (.tuple #[.pointer (some ⟨p, 0, none⟩), .pointer (some ⟨v, 0, none⟩)]) ∧ Lv w0 w' v p (n - 36) [] [] 0 [] ∧ aB [] w w' := by
 refine (QD w n h1 h2).mono fun r w' ⟨p, v, s, D, X, hr, hat, hfu, hwr, hu, hlow⟩ => ?_
 exact ⟨p, v, hr, ⟨⟨D, 3, s, X, ⟨hat, hfu, u.trans hu, fun i hi => by have := hlow i hi; have := u.size; omega⟩, by omega, by omega, by simp⟩, by simp⟩, hu⟩
end Go.Proofs.YtgpefiacbipfpaaGreatDoor
namespace Go.Proofs.YtgpefiacbipfpaaGreatDoor
open Go.RowKit Go.ChangeShapes Go.WideShapes Go.ChangeAt
theorem aB.frame {w w' : World} (h : aB [] w w') (may : MemPlace → Prop) : w.keptBut w' may := by
 refine ⟨h.os, h.output, fun i hi => ?_⟩
 rw [h.block i hi (by simp)]
 split <;> simp_all
theorem aB.same {w w' : World} (h : aB [] w w') {p : MemPlace} (hp : p.block < w.heap.size) : w.sameAt w' p := by
 cases p with
 | cell b o => exact iD (w := w) (h.block b hp (by simp))
 | map b => exact h.block b hp (by simp)
section
variable {H : Type} {enc : TypeId × Value → H} {P : Program}
theorem QF (hl : laidOutB P = true) {W W' : World} (hu : aB [] W W') : ∀ (ts : List TypeId) (vs : List Value) (ds : List (DataW H)) (ps : List MemPlace), (∀ t ∈ ts, P.readableRec t = true ∧ t < P.types.size) →
  DataW.TrodAll enc P W 0 (fun _ => true) true ts vs ds ps → (∀ p ∈ ps, p.block < W.heap.size) → DataW.TrodAll enc P W' 0 (fun b => decide (b < W.heap.size)) true ts vs ds ps := by
 intro ts
 induction ts with
 | nil => intro vs ds ps _ h _; cases vs <;> cases ds <;> exact h
 | cons t ts ih =>
  intro vs ds ps ht h hp
  cases vs with
  | nil => exact h.elim
  | cons v vs =>
   cases ds with
   | nil => exact h.elim
   | cons d ds =>
    obtain ⟨p, q, h1, h2, rfl⟩ := h
    have ht' := ht t (by simp)
    exact ⟨p, q, WideElems.Trod_stays hl ht'.1 ht'.2 h1 (fun x hx => hu.same (hp x (by simp [hx]))) (fun x hx => by simpa using hp x (by simp [hx])),
     ih vs ds q (fun t h => ht t (by simp [h])) h2 (fun x hx => hp x (by simp [hx])), rfl⟩
theorem QG {f : Func} {s : ChangeSpec} {B : TypeId} (hv : s.vars = []) (hl : laidOutB P = true) (hts : ∀ t ∈ f.params.toList, P.readableRec t = true ∧ t < P.types.size) (hr : f.resultTypes = #[B]) (hB : P.underlying B = some .bool)
  {W W' : World} {args : Array Value} {ds gs : List (DataW H)} {before : List MemPlace} (hW : DataW.Whole enc P f.params.toList s.vars false W args.toList ds gs before) (hu : aB [] W W')
  (hs : s.fn H (ds ++ []) = { results := [.lit (.bool true)], args := ds }) : s.post enc P f false true false false W args (.bool true) W' := by
 have hlt := hW.lt
 have hW0 := hW
 obtain ⟨p, q, h1, h2, rfl, h3, h4⟩ := hW
 rw [hv] at h2
 obtain ⟨rfl, rfl⟩ := trodVars_none h2
 refine ⟨ds, [], p ++ [], [], p, [], hW0, ?_, ?_, ?_, hu.frame _, fun h => by cases h⟩
 ·rw [hs, hr]
  exact trodAll_cons_mk (shut_bool hB _) trodAll_mk0
 ·rw [hs]
  exact QF hl hu _ _ _ _ hts h1 (fun x hx => hlt x (by simp [hx]))
 rw [hs, hv]; exact rfl
end
open Go.Deep
section
variable {H : Type} {enc : TypeId × Value → H} {w : World} {base : Nat} {spare : Nat → Bool} {held : Bool}
def Wt (t : TypeId) (d : DataW H) : Prop := ∀ n ∈ d.weights Tryz.prog t, n ≤ 140737488351232
theorem QH {e : TypeId} : ∀ {l : List (DataW H)}, (∀ n ∈ DataW.weightsAll Tryz.prog e l, n ≤ 140737488351232) → ∀ d ∈ l, Wt e d := by
 intro l
 induction l with
 | nil => intro _ d hd; simp at hd
 | cons x l ih =>
  intro h d hd n hn
  simp only [DataW.weightsAll, bK] at h
  rcases aJ.1 hd with rfl | hd
  ·exact h n (Or.inl hn)
  exact ih (fun m hm => h m (Or.inr hm)) d hd n hn
theorem IF {ts : List TypeId} {ds : List (DataW H)} (h : (DataW.weightsEach Tryz.prog ts ds).all (· ≤ reachBytes) = true) {j : Nat} {t : TypeId} {d : DataW H} (ht : ts[j]? = some t) (hd : ds[j]? = some d) : Wt t d := by
 intro n hn
 have := List.all_eq_true.1 h n (DataW.weights_mem_each ht hd n hn)
 have hr : reachBytes = 140737488351232 := rfl
 rw [hr] at this
 simpa using this
theorem Dg {α : Type} (k : Nat) (hk0 : 0 < k) (At : World → Nat → Nat → α → Prop) (G : α → Prop) {t e : TypeId} (ht : Tryz.prog.underlying t = some (.slice e)) (hk : Tryz.prog.cellsOf e = k) {fuel : Nat}
  (hel : ∀ n, n < fuel → ∀ cs y, DataW.trod enc Tryz.prog w base spare held n e cs = some y → Wt e y.1 → ∃ x : α, (∀ b o, (∀ i (h : i < cs.length), w.cell? ⟨b, o + i, none⟩ = some cs[i]) → At w b o x) ∧ G x)
  {cs : List Value} {x : DataW H × List MemPlace} (h : DataW.trod enc Tryz.prog w base spare held fuel t cs = some x) (hw : Wt t x.1) :
  ∃ v l, cs = [v] ∧ iF k At w v l ∧ (∀ y ∈ l, G y) ∧ l.length * Tryz.prog.bytesOf e ≤ 140737488351232 ∧ (∀ n c, v = .slice none n c → c = 0) ∧ (l ≠ [] → ∀ g, v.ownBlock = some g → g < w.heap.size) := by
 rcases DataW.trod_slice ht h with ⟨rfl, hx⟩ | ⟨a, len, cap, elems, rest, n, hn, rfl, rfl, hb, hl, hm, hlen, hi, -, -⟩
 ·exact ⟨_, [], rfl, ⟨none, 0, rfl, aQ _, by unfold maxLen; omega, fun i hi => absurd hi (by simp)⟩, by simp, by simp, fun n c e => by cases e; rfl, fun h => absurd rfl h⟩
 simp only [Wt, DataW.weights, ht, aJ, bK] at hw
 have hsz := hw _ (Or.inl rfl)
 have hwe : ∀ j (hj : j < elems.length), Wt e elems[j].1 := fun j hj => QH (fun m hm => hw m (Or.inr (Or.inl hm))) _ (cV.2 ⟨_, fX hj, rfl⟩)
 have hcell : ∀ j, j < len → ∃ cs', w.cells? base (a.add (j * Tryz.prog.cellsOf e)) (Tryz.prog.cellsOf e) = some cs' ∧ ∃ y, elems[j]? = some y ∧ DataW.trod enc Tryz.prog w base spare held n e cs' = some y := fun j hj => by
  have := hi j hj
  rw [bL (by omega)] at this
  obtain ⟨cs', h1, h2⟩ := Option.bind_eq_some_iff.1 this
  exact ⟨cs', h1, _, bL (by omega), h2⟩
 have hE : ∀ j, j < len → ∃ y : α, (∃ b off, a = ⟨b, off, none⟩ ∧ b < w.heap.size ∧ At w b (off + j * k) y) ∧ G y := fun j hj => by
  obtain ⟨cs', hc, y, hy, ht'⟩ := hcell j hj
  rw [hk] at hc
  have hwy : Wt e y.1 := by
   have := hwe j (by omega)
   rw [bL (by omega)] at hy
   obtain rfl := mQ hy
   exact this
  obtain ⟨z, hz, hg⟩ := hel _ (by omega) _ _ ht' hwy
  obtain ⟨_, hcl, hat⟩ := World.cells?_some hc
  obtain ⟨b, off, spot⟩ := a
  have hspot : spot = none ∧ b < w.heap.size := by
   obtain ⟨ds, hd, -⟩ := hcell 0 (by omega)
   rw [hk] at hd
   obtain ⟨-, hdl, hdt⟩ := World.cells?_some hd
   have := hdt 0 (by omega)
   rw [bL (by omega)] at this
   have hs : spot = none := by simpa [Addr.add] using World.cell?_spot this
   exact ⟨hs, by simpa [Addr.add] using kX _ _ this⟩
  obtain ⟨hspot, hbl⟩ := hspot
  subst hspot
  refine ⟨z, ⟨b, off, rfl, hbl, hz b (off + j * k) fun i hi => ?_⟩, hg⟩
  have := hat i (by omega)
  rw [add_plain, add_plain, bL hi] at this
  exact this
 refine ⟨_, List.ofFn (fun i : Fin len => (hE i.1 i.2).choose), rfl, ⟨some a, cap, by rw [Bf], by rw [Bf]; exact hl, hm, fun i hi => ?_⟩, fun y hy => ?_, ?_, ?_, fun hne g hg => ?_⟩
 ·rw [Bf] at hi
  obtain ⟨b, off, e, -, hA⟩ := (hE i hi).choose_spec.1
  refine ⟨b, off, by rw [e], ?_⟩
  rw [List.getElem_ofFn]
  exact hA
 ·obtain ⟨i, rfl⟩ := List.mem_ofFn.1 hy
  exact (hE i.1 i.2).choose_spec.2
 ·rw [Bf]
  refine bG (wH _ ?_) hsz
  simp [hlen]
 ·intro n c e
  cases e
 have h0 : 0 < len := by
  have := oO.2 hne
  rwa [Bf] at this
 obtain ⟨b, off, e, hbl, -⟩ := (hE 0 h0).choose_spec.1
 subst e
 cases hg
 exact hbl
theorem QI : Tryz.prog.cellsOf 5 = 1 := by kernel_rfl
theorem QJ : Tryz.prog.bytesOf 5 = 1 := by kernel_rfl
theorem QK : Tryz.prog.cellsOf 23 = 1 := by kernel_rfl
theorem QL : Tryz.prog.cellsOf 3 = 1 := by kernel_rfl
theorem QM : Tryz.prog.bytesOf 3 = 8 := by kernel_rfl
abbrev rF (n : Int) : Prop := -9223372036854775808 ≤ n ∧ n ≤ 9223372036854775807
theorem QN {n : Int} (h : (Lit.int .i64 n).wf = true) : rF n := by
 have e0 : IntKind.i64.min = -9223372036854775808 := by decide
 have e1 : IntKind.i64.max = 9223372036854775807 := by decide
 have := h
 simp only [Lit.wf, Bool.and_eq_true, decide_eq_true_eq, e0, e1] at this
 exact this
theorem wf8 {n : Int} (h : (Lit.int .u8 n).wf = true) : 0 ≤ n ∧ n ≤ 255 := by
 have e0 : IntKind.u8.min = 0 := by decide
 have e1 : IntKind.u8.max = 255 := by decide
 have := h
 simp only [Lit.wf, Bool.and_eq_true, decide_eq_true_eq, e0, e1] at this
 exact this
theorem IG {v : Value} {r : Reach} {b0 : Nat} {t e : TypeId} (ht : Tryz.prog.underlying t = some (.slice e)) (hv : Value.okWide Tryz.prog w r b0 t v) {cs : List Value} (hcs : v.cells.toList = cs) {u : Value} (hu : cs = [u]) : u = v := by
 obtain ⟨a, n, c, rfl⟩ := okWide_slice ht hv
 subst hcs
 have : [Value.slice a n c] = [u] := by rw [← hu]; simp [Value.cells]
 exact (List.cons.inj this).1.symm
theorem QO {n : Nat} {cs : List Value} {y : DataW H × List MemPlace} (h : DataW.trod enc Tryz.prog w base spare held n 23 cs = some y) (hw : Wt 23 y.1) :
  ∃ (v : Value) (d : Bs), cs = [v] ∧ Rd w v d ∧ d.length ≤ 140737488351232 ∧ (d ≠ [] → ∀ g, v.ownBlock = some g → g < w.heap.size) := by
 obtain ⟨v, l, rfl, h1, -, h3, h4, h5⟩ := Dg 1 (by omega) (lP c8) (fun _ => True) Tryz.underlying23 QI (fun n hn cs y hy _ => by
  obtain ⟨s, e, -, z⟩ := DataW.trod_int Tryz.underlying5 hy
  have hz := wf8 z
  subst e
  refine ⟨UInt8.ofNat s.toNat, fun b o hb j u hj => ?_, trivial⟩
  have h0 := hb 0 (by simp)
  have e : ((UInt8.ofNat s.toNat).toNat : Int) = s := by
   rw [qD]; omega
  have hj0 : j = 0 := by
   have := (eX.1 hj).1
   simpa using this
  subst hj0
  have hu : u = .int .u8 s := by
   have : some (Value.int .u8 ((UInt8.ofNat s.toNat).toNat : Int)) = some u := hj
   rw [e] at this
   exact (mQ this).symm
  rw [hu]
  exact h0) h hw
 rw [QJ] at h3
 exact ⟨v, l, rfl, ⟨h1, h4⟩, by omega, h5⟩
theorem QP {n : Nat} {cs : List Value} {y : DataW H × List MemPlace} (h : DataW.trod enc Tryz.prog w base spare held n 31 cs = some y) (hw : Wt 31 y.1) :
  ∃ (v : Value) (d : List Int), cs = [v] ∧ uJ w v d ∧ d.length ≤ 140737488351232 ∧ (∀ x ∈ d, -9223372036854775808 ≤ x ∧ x ≤ 9223372036854775807) ∧ (d ≠ [] → ∀ g, v.ownBlock = some g → g < w.heap.size) := by
 obtain ⟨v, l, rfl, h1, h2, h3, h4, h5⟩ := Dg 1 (by omega) (lP cZ) (fun x => rF x) Tryz.underlying31 QL (fun n hn cs y hy _ => by
  obtain ⟨s, e, -, z⟩ := DataW.trod_int Tryz.underlying3 hy
  subst e
  refine ⟨s, fun b o hb j u hj => ?_, QN z⟩
  have h0 := hb 0 (by simp)
  have hj0 : j = 0 := by
   have : j < [Value.int .i64 s].length := (eX.1 hj).1
   simpa using this
  subst hj0
  have hu : u = .int .i64 s := (mQ hj).symm
  rw [hu]
  exact h0) h hw
 rw [QM] at h3
 exact ⟨v, l, rfl, ⟨h1, h4⟩, by omega, h2, h5⟩
def Dh (w : World) (b o : Nat) (x : Value × Bs) : Prop := w.cell? ⟨b, o, none⟩ = some x.1 ∧ Rd w x.1 x.2
def Dj (w : World) (x : Value × Bs) : Prop := x.2.length ≤ 140737488351232 ∧ (x.2 ≠ [] → ∀ g, x.1.ownBlock = some g → g < w.heap.size)
theorem QQ {n : Nat} {cs : List Value} {y : DataW H × List MemPlace} (h : DataW.trod enc Tryz.prog w base spare held n 56 cs = some y) (hw : Wt 56 y.1) :
  ∃ (v : Value) (l : List (Value × Bs)), cs = [v] ∧ iF 1 Dh w v l ∧ (∀ x ∈ l, Dj w x) := by
 obtain ⟨v, l, rfl, h1, h2, -, -, -⟩ := Dg 1 (by omega) Dh (Dj w) Tryz.underlying56 QK (fun n hn cs y hy hwy => by
  obtain ⟨v, d, rfl, h1, h2, h3⟩ := QO hy hwy
  exact ⟨(v, d), fun b o hb => ⟨hb 0 (by simp), h1⟩, h2, h3⟩) h hw
 exact ⟨v, l, rfl, h1, h2⟩
end
end Go.Proofs.YtgpefiacbipfpaaGreatDoor
