/- Plain facts about worlds and doubly linked lists in blocks: no program in sight. -/
import Derived.WalkKit
import Derived.ProofKit
import Derived.OpenShut
import Derived.Handy
import Derived.Lib.Hide
import Derived.Deep.LoopGhost
namespace Go.Proofs.Ytgndkmdmpiiedaa
open Go.RowKit

def Obj.put (o : Nat) (v : Value) : Obj → Obj
  | .cells c e f => .cells (c.setIfInBounds o v) e f
  | x => x

theorem heap_setCell (w : World) (b o : Nat) (v : Value) (k : Nat) :
    (w.setCell ⟨b, o, none⟩ v).heap[k]? = if k = b then (w.heap[k]?).map (Obj.put o v) else w.heap[k]? := by
  simp only [World.setCell, Array.getElem?_modify]
  by_cases h : b = k
  · subst h
    simp only [if_true]
    cases w.heap[b]? with
    | none => rfl
    | some x => cases x <;> rfl
  · rw [if_neg h, if_neg (fun e => h e.symm)]

theorem heap_alloc (w : World) (o : Obj) (k : Nat) : (w.alloc o).heap[k]? = if k = w.heap.size then some o else w.heap[k]? := by
  show (w.heap.push o)[k]? = _
  rw [Array.getElem?_push]

theorem heap_drew (w : World) : w.drew.heap = w.heap := rfl

theorem cell_blk {w : World} {b : Nat} {c : Array Value} {e : TypeId} {f : Nat × Nat} (h : w.heap[b]? = some (.cells c e f)) (o : Nat) : w.cell? ⟨b, o, none⟩ = c[o]? := by
  simp [World.cell?, h]

theorem frozen_blk {w : World} {b : Nat} {c : Array Value} {e : TypeId} (h : w.heap[b]? = some (.cells c e (0, 0))) (o : Nat) : w.frozen? ⟨b, o, none⟩ = false := by
  simp [World.frozen?, h]

theorem lt_of_blk {w : World} {b : Nat} {o : Obj} (h : w.heap[b]? = some o) : b < w.heap.size := by
  rcases Nat.lt_or_ge b w.heap.size with h' | h'
  · exact h'
  · simp [Array.getElem?_eq_none h'] at h

/-- All blocks that were there stay, but those of F. -/
structure Upd (F : List Nat) (w w' : World) : Prop where
  os : w'.os = w.os
  output : w'.output = w.output
  size : w.heap.size ≤ w'.heap.size
  block : ∀ k, k < w.heap.size → k ∉ F → w'.heap[k]? = w.heap[k]?

theorem Upd.refl (F : List Nat) (w : World) : Upd F w w := ⟨rfl, rfl, Nat.le_refl _, fun _ _ _ => rfl⟩
theorem Upd.trans {F : List Nat} {a b c : World} (h : Upd F a b) (g : Upd F b c) : Upd F a c :=
  ⟨g.os.trans h.os, g.output.trans h.output, Nat.le_trans h.size g.size, fun k hk hn => (g.block k (Nat.lt_of_lt_of_le hk h.size) hn).trans (h.block k hk hn)⟩
theorem Upd.next {F G : List Nat} {a b c : World} (h : Upd F a b) (g : Upd G b c) (hs : ∀ k, k ∈ G → k < a.heap.size → k ∈ F) : Upd F a c :=
  ⟨g.os.trans h.os, g.output.trans h.output, Nat.le_trans h.size g.size, fun k hk hn => (g.block k (Nat.lt_of_lt_of_le hk h.size) (fun q => hn (hs k q hk))).trans (h.block k hk hn)⟩
theorem Upd.mono {F G : List Nat} {w w' : World} (h : Upd F w w') (hs : ∀ k, k ∈ F → k < w.heap.size → k ∈ G) : Upd G w w' :=
  ⟨h.os, h.output, h.size, fun k hk hn => h.block k hk (fun hf => hn (hs k hf hk))⟩
theorem Upd.alike {F : List Nat} {w w' w'' : World} (h : Upd F w w') (g : w''.Alike w') : Upd F w w'' :=
  ⟨g.2.1.trans h.os, g.2.2.trans h.output, by rw [g.1]; exact h.size, fun k hk hn => by rw [g.1]; exact h.block k hk hn⟩
theorem Upd.setCell {F : List Nat} {w w' : World} (h : Upd F w w') {b : Nat} (hb : b ∈ F) (o : Nat) (v : Value) : Upd F w (w'.setCell ⟨b, o, none⟩ v) :=
  h.trans ⟨rfl, rfl, by simp, fun k _ hn => by rw [heap_setCell, if_neg (by rintro rfl; exact hn hb)]⟩
theorem Upd.setCellNew {F : List Nat} {w w' : World} (h : Upd F w w') {b : Nat} (hb : w.heap.size ≤ b) (o : Nat) (v : Value) : Upd F w (w'.setCell ⟨b, o, none⟩ v) :=
  ⟨h.os, h.output, by simpa using h.size, fun k hk hn => by rw [heap_setCell, if_neg (by omega)]; exact h.block k hk hn⟩
theorem Upd.alloc {F : List Nat} {w w' : World} (h : Upd F w w') (o : Obj) : Upd F w (w'.alloc o) :=
  h.trans ⟨rfl, rfl, by simp, fun k hk _ => by rw [heap_alloc, if_neg (by omega)]⟩
theorem Upd.drew {F : List Nat} {w w' : World} (h : Upd F w w') : Upd F w w'.drew := ⟨h.os, h.output, h.size, h.block⟩

theorem alike_drew (w : World) : w.drew.Alike w := ⟨rfl, rfl, rfl⟩
theorem alike_refl (w : World) : w.Alike w := ⟨rfl, rfl, rfl⟩

def pt (o : Option Nat) : Value := .pointer (o.map fun b => ⟨b, 0, none⟩)

structure It (κ ν : Type) where
  k : κ
  v : ν
  d : Bool
  p : Nat

structure Nd (κ ν : Type) where
  a : Nat
  it : It κ ν

/-- How keys and values lie in cells, and the types' numbers. -/
structure Cfg (κ ν : Type) where
  ek : κ → Value
  ev : ν → Value
  tc : TypeId
  ti : TypeId

section
variable {κ ν : Type} (C : Cfg κ ν)

def nodeObj (x : It κ ν) (prev next : Option Nat) : Obj := .cells #[C.ek x.k, C.ev x.v, .bool x.d, .int .i64 x.p, pt prev, pt next] C.ti (0, 0)
def cacheObj (most : Int) (m : Nat) (oldest first : Option Nat) : Obj := .cells #[.int .i64 most, .map (some m), pt oldest, pt first] C.tc (0, 0)

def hd : List (Nd κ ν) → Option Nat → Option Nat
  | [], q => q
  | n :: _, _ => some n.a
def lst : List (Nd κ ν) → Option Nat → Option Nat
  | [], p => p
  | n :: r, _ => lst r (some n.a)

def Chain (H : Nat → Option Obj) : Option Nat → List (Nd κ ν) → Option Nat → Prop
  | _, [], _ => True
  | p, n :: r, q => H n.a = some (nodeObj C n.it p (hd r q)) ∧ Chain H (some n.a) r q

theorem hd_app (l r : List (Nd κ ν)) (q : Option Nat) : hd (l ++ r) q = hd l (hd r q) := by cases l <;> rfl
theorem lst_app (l r : List (Nd κ ν)) (p : Option Nat) : lst (l ++ r) p = lst r (lst l p) := by
  induction l generalizing p with
  | nil => rfl
  | cons n l ih => exact ih _

theorem chain_app (H : Nat → Option Obj) (p : Option Nat) (l r : List (Nd κ ν)) (q : Option Nat) :
    Chain C H p (l ++ r) q ↔ Chain C H p l (hd r q) ∧ Chain C H (lst l p) r q := by
  induction l generalizing p with
  | nil => simp [Chain, lst]
  | cons n l ih => simp [Chain, lst, hd_app, ih, and_assoc]

theorem chain_congr {H H' : Nat → Option Obj} {p : Option Nat} {l : List (Nd κ ν)} {q : Option Nat} (h : ∀ n ∈ l, H' n.a = H n.a) (hc : Chain C H p l q) : Chain C H' p l q := by
  induction l generalizing p with
  | nil => trivial
  | cons n l ih =>
    obtain ⟨h1, h2⟩ := hc
    exact ⟨by rw [h n (by simp)]; exact h1, ih (fun x hx => h x (by simp [hx])) h2⟩

theorem chain_at {H : Nat → Option Obj} {p : Option Nat} {l : List (Nd κ ν)} {q : Option Nat} (hc : Chain C H p l q) {n : Nd κ ν} (hn : n ∈ l) : ∃ a b, H n.a = some (nodeObj C n.it a b) := by
  induction l generalizing p with
  | nil => simp at hn
  | cons x l ih =>
    obtain ⟨h1, h2⟩ := hc
    rcases List.mem_cons.1 hn with rfl | hn
    · exact ⟨_, _, h1⟩
    · exact ih h2 hn

/-- The cache's block and its list of things; the map aside. -/
structure Lay (w : World) (c m : Nat) (most : Int) (l : List (Nd κ ν)) : Prop where
  cache : w.heap[c]? = some (cacheObj C most m (hd l none) (lst l none))
  chain : Chain C (fun k => w.heap[k]?) none l none
  nodup : (c :: m :: l.map (·.a)).Nodup

abbrev foot (c m : Nat) (l : List (Nd κ ν)) : List Nat := c :: m :: l.map (·.a)

/-- The lay goes by the blocks of its footprint alone. -/
theorem Lay.congr {w w' : World} {c m : Nat} {most : Int} {l : List (Nd κ ν)} (h : Lay C w c m most l) (hh : ∀ k ∈ foot c m l, w'.heap[k]? = w.heap[k]?) : Lay C w' c m most l :=
  ⟨by rw [hh c (by simp)]; exact h.cache, chain_congr C (fun n hn => hh n.a (by simp; right; right; exact ⟨n, hn, rfl⟩)) h.chain, h.nodup⟩

theorem Lay.alike {w w' : World} {c m : Nat} {most : Int} {l : List (Nd κ ν)} (h : Lay C w c m most l) (g : w'.Alike w) : Lay C w' c m most l :=
  h.congr C (fun k _ => by rw [g.1])

theorem Lay.lt {w : World} {c m : Nat} {most : Int} {l : List (Nd κ ν)} (h : Lay C w c m most l) {n : Nd κ ν} (hn : n ∈ l) : n.a < w.heap.size := by
  obtain ⟨a, b, hb⟩ := chain_at C h.chain hn
  exact lt_of_blk hb

end
section
variable {κ ν : Type} (C : Cfg κ ν)

theorem hd_nil (q : Option Nat) : hd ([] : List (Nd κ ν)) q = q := rfl
theorem hd_cons (n : Nd κ ν) (r : List (Nd κ ν)) (q : Option Nat) : hd (n :: r) q = some n.a := rfl
theorem lst_nil (q : Option Nat) : lst ([] : List (Nd κ ν)) q = q := rfl
theorem lst_cons (n : Nd κ ν) (r : List (Nd κ ν)) (q : Option Nat) : lst (n :: r) q = lst r (some n.a) := rfl

def unlinkW (w : World) (c x : Nat) (prev next : Option Nat) : World :=
  let w1 := match prev with | some y => w.setCell ⟨y, 5, none⟩ (pt next) | none => w.setCell ⟨c, 2, none⟩ (pt next)
  let w2 := match next with | some z => w1.setCell ⟨z, 4, none⟩ (pt prev) | none => w1.setCell ⟨c, 3, none⟩ (pt prev)
  (w2.setCell ⟨x, 4, none⟩ (pt none)).setCell ⟨x, 5, none⟩ (pt none)

theorem lst_last (l : List (Nd κ ν)) (y : Nd κ ν) (p : Option Nat) : lst (l ++ [y]) p = some y.a := by rw [lst_app]; rfl

theorem put_node4 (x : It κ ν) (a b : Option Nat) (u : Option Nat) : Obj.put 4 (pt u) (nodeObj C x a b) = nodeObj C x u b := rfl
theorem put_node5 (x : It κ ν) (a b : Option Nat) (u : Option Nat) : Obj.put 5 (pt u) (nodeObj C x a b) = nodeObj C x a u := rfl
theorem put_cache2 (most : Int) (m : Nat) (a b u : Option Nat) : Obj.put 2 (pt u) (cacheObj C most m a b) = cacheObj C most m u b := rfl
theorem put_cache3 (most : Int) (m : Nat) (a b u : Option Nat) : Obj.put 3 (pt u) (cacheObj C most m a b) = cacheObj C most m a u := rfl

theorem lay_unlink {w w' : World} {c m : Nat} {most : Int} {l1 l2 : List (Nd κ ν)} {x : Nd κ ν} (h : Lay C w c m most (l1 ++ x :: l2))
    (hw : w'.Alike (unlinkW w c x.a (lst l1 none) (hd l2 none))) :
    Lay C w' c m most (l1 ++ l2) ∧ w'.heap[x.a]? = some (nodeObj C x.it none none) ∧ Upd (c :: (l1 ++ x :: l2).map (·.a)) w w' := by
  obtain ⟨h1, h2, h3⟩ := h
  have hnd : (c :: m :: (l1 ++ l2).map (·.a)).Nodup := h3.sublist (by simp)
  rw [chain_app] at h2
  obtain ⟨h2, h4, h5⟩ := h2
  rcases List.eq_nil_or_concat l1 with rfl | ⟨l1, y, rfl⟩
  · rcases l2 with _ | ⟨z, l2⟩
    · simp [unlinkW, lst_nil, lst_cons, hd_nil, hd_cons] at hw h1 h3 h4 ⊢
      have hh := hw.1
      refine ⟨⟨?_, trivial, ?_⟩, ?_, ?_⟩
      · rw [hh]; simp [heap_setCell, h1, h3, put_cache2, put_cache3, hd_nil, lst_nil]
      · simp; exact h3.1.1
      · rw [hh]; simp [heap_setCell, h4, put_node4, put_node5, Ne.symm h3.1.2]
      · exact ((((Upd.refl _ _).setCell (by simp) _ _).setCell (by simp) _ _).setCell (by simp) _ _ |>.setCell (by simp) _ _).alike hw
    · obtain ⟨h5, h6⟩ := h5
      simp [unlinkW, lst_nil, lst_cons, hd_cons] at hw h1 h3 h4 h5 h6 ⊢
      have hh := hw.1
      obtain ⟨⟨n1, n2, n3, n4⟩, ⟨n5, n6, n7⟩, ⟨n8, n9⟩, n10, n11⟩ := h3
      refine ⟨⟨?_, ⟨?_, ?_⟩, ?_⟩, ?_, ?_⟩
      · rw [hh]; simp [heap_setCell, h1, n2, n3, put_cache2, hd_cons, lst_cons]
      · simp only [hh]; simp [heap_setCell, h5, Ne.symm n3, Ne.symm n8, put_node4]
      · refine chain_congr C (fun n hn => ?_) h6
        have q1 := n4 n hn; have q2 := n7 n hn; have q3 := n9 n hn; have q4 := n10 n hn
        simp only [hh]; simp [heap_setCell, q1, q3, q4]
      · simp; exact ⟨⟨n1, n3, n4⟩, ⟨n6, n7⟩, n10, n11⟩
      · rw [hh]; simp [heap_setCell, h4, put_node4, put_node5, n8, Ne.symm n2]
      · exact ((((Upd.refl _ _).setCell (by simp) _ _).setCell (by simp) _ _).setCell (by simp) _ _ |>.setCell (by simp) _ _).alike hw
  · simp only [List.concat_eq_append, List.append_assoc] at *
    rw [chain_app] at h2
    obtain ⟨h2, h7, _⟩ := h2
    rcases l2 with _ | ⟨z, l2⟩
    · simp [unlinkW, lst_nil, lst_cons, hd_nil, hd_cons, lst_app, hd_app, List.nodup_append] at hw h1 h2 h3 h4 h5 h7 ⊢
      have hh := hw.1
      obtain ⟨⟨n1, n2, n3, n4⟩, ⟨n5, n6, n7⟩, n8, n9, n10⟩ := h3
      refine ⟨⟨?_, (chain_app ..).2 ⟨?_, ?_, trivial⟩, ?_⟩, ?_, ?_⟩
      · rw [hh]; simp [heap_setCell, h1, n3, n4, put_cache3, hd_app, hd_cons, lst_app, lst_cons, lst_nil]
      · refine chain_congr C (fun n hn => ?_) h2
        have q1 := n2 n hn; have q2 := n10 n hn
        simp only [hh]; simp [heap_setCell, q1, q2.1, q2.2]
      · simp only [hh]; simp [heap_setCell, h7, Ne.symm n3, n9, put_node5, hd_nil]
      · simpa using hnd
      · rw [hh]; simp [heap_setCell, h4, put_node4, put_node5, Ne.symm n9, Ne.symm n4]
      · exact ((((Upd.refl _ _).setCell (by simp) _ _).setCell (by simp) _ _).setCell (by simp) _ _ |>.setCell (by simp) _ _).alike hw
    · obtain ⟨h5, h6⟩ := h5
      simp [unlinkW, lst_nil, lst_cons, hd_nil, hd_cons, lst_app, hd_app, List.nodup_append] at hw h1 h2 h3 h4 h5 h6 h7 ⊢
      have hh := hw.1
      obtain ⟨⟨n1, n2, n3, n4, n5, n6⟩, ⟨n7, n8, n9, n10, n11⟩, n12, ⟨⟨n13, n14, n15⟩, ⟨n16, n17⟩, n18, n19⟩, n20⟩ := h3
      refine ⟨⟨?_, (chain_app ..).2 ⟨?_, ?_, ?_, ?_⟩, ?_⟩, ?_, ?_⟩
      · rw [hh]; simp [heap_setCell, h1, n3, n4, n5, hd_app, hd_cons, lst_app, lst_cons]
      · refine chain_congr C (fun n hn => ?_) h2
        have q1 := n2 n hn; have q2 := n20 n hn
        simp only [hh]; simp [heap_setCell, q2.1, q2.2.1, q2.2.2.1]
      · simp only [hh]; simp [heap_setCell, h7, n13, n14, put_node5, hd_cons]
      · simp only [hh]; simp [heap_setCell, h5, Ne.symm n14, Ne.symm n16, put_node4]
      · refine chain_congr C (fun n hn => ?_) h6
        have q1 := n15 n hn; have q2 := n17 n hn; have q3 := n18 n hn
        simp only [hh]; simp [heap_setCell, q1, q2, q3]
      · simpa using hnd
      · rw [hh]; simp [heap_setCell, h4, put_node4, put_node5, Ne.symm n13, n16]
      · exact ((((Upd.refl _ _).setCell (by simp) _ _).setCell (by simp) _ _).setCell (by simp) _ _ |>.setCell (by simp) _ _).alike hw

def linkW (w : World) (c x : Nat) (last : Option Nat) : World :=
  let w1 := w.setCell ⟨x, 4, none⟩ (pt last)
  let w2 := match last with | some y => w1.setCell ⟨y, 5, none⟩ (pt (some x)) | none => w1.setCell ⟨c, 2, none⟩ (pt (some x))
  w2.setCell ⟨c, 3, none⟩ (pt (some x))

theorem lay_link {w w' : World} {c m : Nat} {most : Int} {l : List (Nd κ ν)} {x : Nd κ ν} (h : Lay C w c m most l) (hx : w.heap[x.a]? = some (nodeObj C x.it none none))
    (hnd : (c :: m :: (l ++ [x]).map (·.a)).Nodup) (hw : w'.Alike (linkW w c x.a (lst l none))) :
    Lay C w' c m most (l ++ [x]) ∧ Upd (c :: (l ++ [x]).map (·.a)) w w' := by
  obtain ⟨h1, h2, h3⟩ := h
  have hnd' := hnd
  rcases List.eq_nil_or_concat l with rfl | ⟨l1, y, rfl⟩
  · simp [linkW, lst_nil, hd_nil] at hw h1 hnd ⊢
    have hh := hw.1
    refine ⟨⟨?_, ⟨?_, trivial⟩, by simpa using hnd'⟩, ?_⟩
    · rw [hh]; simp [heap_setCell, h1, hnd, put_cache2, put_cache3, hd_cons, lst_nil, lst_cons]
    · simp only [hh]; simp [heap_setCell, hx, Ne.symm hnd.1.2, put_node4, hd_nil]
    · exact ((((Upd.refl _ _).setCell (by simp) _ _).setCell (by simp) _ _).setCell (by simp) _ _).alike hw
  · simp only [List.concat_eq_append] at *
    rw [chain_app] at h2
    obtain ⟨h2, h7, _⟩ := h2
    simp [linkW, lst_nil, lst_cons, hd_nil, hd_cons, lst_app, hd_app, List.nodup_append] at hw h1 h2 h7 hnd ⊢
    have hh := hw.1
    obtain ⟨⟨n1, n2, n3, n4⟩, ⟨n5, n6, n7⟩, n8, n9, n10⟩ := hnd
    refine ⟨⟨?_, (chain_app ..).2 ⟨?_, ?_, ?_, trivial⟩, by simpa using hnd'⟩, ?_⟩
    · rw [hh]; simp [heap_setCell, h1, n3, n4, put_cache3, hd_app, hd_cons, lst_app, lst_cons, lst_nil]
    · refine chain_congr C (fun n hn => ?_) h2
      have q1 := n2 n hn; have q2 := n10 n hn
      simp only [hh]; simp [heap_setCell, q1, q2.1, q2.2]
    · simp only [hh]; simp [heap_setCell, h7, n9, Ne.symm n3, put_node5, hd_cons]
    · simp only [hh]; simp [heap_setCell, hx, Ne.symm n9, Ne.symm n4, put_node4, hd_nil]
    · exact ((((Upd.refl _ _).setCell (by simp) _ _).setCell (by simp) _ _).setCell (by simp) _ _).alike hw
end
section
variable {κ ν : Type} (C : Cfg κ ν)

def MapRep (es : Array MapEntry) (l : List (Nd κ ν)) : Prop := (es.toList.map fun e => (e.key, e.val)).Perm (l.map fun n => (C.ek n.it.k, pt (some n.a)))

theorem mapRep_mem {es : Array MapEntry} {l : List (Nd κ ν)} (h : MapRep C es l) {e : MapEntry} (he : e ∈ es.toList) : ∃ n ∈ l, e.key = C.ek n.it.k ∧ e.val = pt (some n.a) := by
  have : (e.key, e.val) ∈ l.map fun n => (C.ek n.it.k, pt (some n.a)) := h.mem_iff.1 (List.mem_map.2 ⟨e, he, rfl⟩)
  obtain ⟨n, hn, hq⟩ := List.mem_map.1 this
  simp only [Prod.mk.injEq] at hq
  exact ⟨n, hn, hq.1.symm, hq.2.symm⟩

theorem mapRep_size {es : Array MapEntry} {l : List (Nd κ ν)} (h : MapRep C es l) : es.size = l.length := by
  have := h.length_eq; simpa using this

theorem mapRep_push {es : Array MapEntry} {l : List (Nd κ ν)} (h : MapRep C es l) (x : Nd κ ν) (b : Nat) : MapRep C (es.push { key := C.ek x.it.k, val := pt (some x.a), born := b }) (l ++ [x]) := by
  unfold MapRep at *
  simp only [Array.toList_push, List.map_append, List.map_cons, List.map_nil]
  exact h.append_right _

end
section
variable {κ ν : Type} [DecidableEq κ] (C : Cfg κ ν)

/-- How a key's type compares: D is what the type comes to. -/
structure Keys (P : Program) (K : TypeId) : Prop where
  plain : P.underlying K = some (.int .i64) ∨ P.underlying K = some .string
  same : ∀ D, P.underlying K = some D → ∀ a b : κ, Instr.sameNow D (C.ek a) (C.ek b) = some (decide (a = b))
  bits : ∀ a : κ, Instr.sameBits 10000 (C.ek a) (C.ek a) = true

theorem run_check {P : Program} {K : TypeId} (hK : P.underlying K = some (.int .i64) ∨ P.underlying K = some .string) (w : World) (e : Bool) (v : Value) : (Instr.checkKey e 10000 K v).run P w = .ok () w := by
  unfold Instr.checkKey
  rcases hK with h | h <;> simp [run_underlying h]

theorem findNow_miss {D : TypeDesc} (hS : ∀ a b : κ, Instr.sameNow D (C.ek a) (C.ek b) = some (decide (a = b))) (k : κ) : ∀ (es : List MapEntry) (i : Nat), (∀ e ∈ es, ∃ k', e.key = C.ek k' ∧ k' ≠ k) →
    Instr.findNow D (C.ek k) es i = some none := by
  intro es
  induction es with
  | nil => intro i _; rfl
  | cons e es ih =>
    intro i h
    obtain ⟨k', h1, h2⟩ := h e (by simp)
    simp only [Instr.findNow, h1, hS, decide_eq_false (fun (q : k = k') => h2 q.symm)]
    exact ih _ (fun x hx => h x (by simp [hx]))

theorem findNow_hit {D : TypeDesc} (hS : ∀ a b : κ, Instr.sameNow D (C.ek a) (C.ek b) = some (decide (a = b))) (k : κ) : ∀ (es : List MapEntry) (i : Nat), (∀ e ∈ es, ∃ k', e.key = C.ek k') → (∃ e ∈ es, e.key = C.ek k) →
    ∃ j e, es[j]? = some e ∧ e.key = C.ek k ∧ Instr.findNow D (C.ek k) es i = some (some (i + j, e.val)) := by
  intro es
  induction es with
  | nil => intro i _ h; obtain ⟨e, he, _⟩ := h; simp at he
  | cons e es ih =>
    intro i h hx
    obtain ⟨k', h1⟩ := h e (by simp)
    by_cases hk : k = k'
    · subst hk
      exact ⟨0, e, rfl, h1, by simp [Instr.findNow, h1, hS]⟩
    · have hx' : ∃ e ∈ es, e.key = C.ek k := by
        obtain ⟨x, hx1, hx2⟩ := hx
        rcases List.mem_cons.1 hx1 with rfl | hx1
        · rw [h1] at hx2
          have := hS k k'; rw [hx2, hS k k] at this; simp [hk] at this
        · exact ⟨x, hx1, hx2⟩
      obtain ⟨j, e', g1, g2, g3⟩ := ih (i + 1) (fun x hx => h x (by simp [hx])) hx'
      exact ⟨j + 1, e', by simpa using g1, g2, by simp [Instr.findNow, h1, hS, hk, g3]; omega⟩

variable {P : Program} {K : TypeId} (HK : Keys C P K)
include HK

theorem find_miss {es : Array MapEntry} {l : List (Nd κ ν)} (h : MapRep C es l) {k : κ} (hk : ∀ n ∈ l, n.it.k ≠ k) (w : World) : (Instr.findKey K (C.ek k) es.toList).run P w = .ok none w := by
  have hex : ∃ D, P.underlying K = some D := by rcases HK.plain with h | h <;> exact ⟨_, h⟩
  obtain ⟨D, hD⟩ := hex
  have := findNow_miss C (HK.same D hD) k es.toList 0 (fun e he => by obtain ⟨n, hn, h1, _⟩ := mapRep_mem C h he; exact ⟨_, h1, hk n hn⟩)
  simp [Instr.findKey, run_underlying hD, this]

theorem ek_inj {a b : κ} (h : C.ek a = C.ek b) : a = b := by
  have hex : ∃ D, P.underlying K = some D := by rcases HK.plain with h | h <;> exact ⟨_, h⟩
  obtain ⟨D, hD⟩ := hex
  have h1 := HK.same D hD a b
  rw [← h, HK.same D hD a a] at h1
  simpa using h1

theorem find_hit {es : Array MapEntry} {l1 l2 : List (Nd κ ν)} {x : Nd κ ν} (h : MapRep C es (l1 ++ x :: l2)) (hnd : ((l1 ++ x :: l2).map (·.it.k)).Nodup) (w : World) :
    ∃ j, (Instr.findKey K (C.ek x.it.k) es.toList).run P w = .ok (some (j, pt (some x.a))) w ∧ j < es.size ∧ ((es[j]?).map (·.key)) = some (C.ek x.it.k) ∧ MapRep C (es.eraseIdxIfInBounds j) (l1 ++ l2) := by
  have hex : ∃ D, P.underlying K = some D := by rcases HK.plain with h | h <;> exact ⟨_, h⟩
  obtain ⟨D, hD⟩ := hex
  have hin : ∃ e ∈ es.toList, e.key = C.ek x.it.k := by
    have : (C.ek x.it.k, pt (some x.a)) ∈ es.toList.map fun e => (e.key, e.val) := h.mem_iff.2 (List.mem_map.2 ⟨x, by simp, rfl⟩)
    obtain ⟨e, he, hq⟩ := List.mem_map.1 this
    simp only [Prod.mk.injEq] at hq
    exact ⟨e, he, hq.1⟩
  obtain ⟨j, e, g1, g2, g3⟩ := findNow_hit C (HK.same D hD) x.it.k es.toList 0 (fun e he => by obtain ⟨n, hn, h1, _⟩ := mapRep_mem C h he; exact ⟨_, h1⟩) hin
  have hm : e ∈ es.toList := List.mem_of_getElem? g1
  obtain ⟨n, hn, h1, h2⟩ := mapRep_mem C h hm
  have hkn : n.it.k = x.it.k := ek_inj C HK (h1.symm.trans g2)
  have hnx : n = x := by
    rw [List.map_append, List.map_cons, List.nodup_append] at hnd
    obtain ⟨_, hnd2, hnd3⟩ := hnd
    rcases List.mem_append.1 hn with hn | hn
    · exact (hnd3 _ (List.mem_map.2 ⟨n, hn, rfl⟩) x.it.k (by simp) hkn).elim
    · rcases List.mem_cons.1 hn with rfl | hn
      · rfl
      · exact ((List.nodup_cons.1 hnd2).1 (List.mem_map.2 ⟨n, hn, hkn⟩)).elim
  subst hnx
  have hj : j < es.size := by
    rcases Nat.lt_or_ge j es.size with h' | h'
    · exact h'
    · rw [List.getElem?_eq_none (by simpa using h')] at g1; cases g1
  refine ⟨j, by simp [Instr.findKey, run_underlying hD, g3, h2], hj, ?_, ?_⟩
  · have : es[j]? = some e := by simpa using g1
    rw [this]; simp [g2]
  · have hl : es.toList = es.toList.take j ++ e :: es.toList.drop (j + 1) := by
      rw [List.getElem?_eq_getElem (by simpa using hj)] at g1
      cases g1
      rw [List.getElem_cons_drop, List.take_append_drop]
    have he : (es.eraseIdxIfInBounds j).toList = es.toList.take j ++ es.toList.drop (j + 1) := by
      simp [Array.eraseIdxIfInBounds, hj, List.eraseIdx_eq_take_drop_succ]
    unfold MapRep at h ⊢
    rw [he]
    rw [hl] at h
    have h' : ((e.key, e.val) :: (es.toList.take j ++ es.toList.drop (j + 1)).map fun e => (e.key, e.val)).Perm ((C.ek n.it.k, pt (some n.a)) :: (l1 ++ l2).map fun n => (C.ek n.it.k, pt (some n.a))) := by
      refine List.Perm.trans ?_ (h.trans ?_)
      · simp only [List.map_append, List.map_cons]; exact List.perm_middle.symm
      · simp only [List.map_append, List.map_cons]; exact List.perm_middle
    rw [h1, h2] at h'
    exact h'.cons_inv

end

section
variable {κ ν : Type} [DecidableEq κ] {C : Cfg κ ν} {P : Program} {T K E : TypeId} {w : World} {m clock : Nat} {es : Array MapEntry}

theorem run_lookup_hit (HK : Keys C P K) (ht : P.underlying T = some (.map K E)) (hb : w.heap[m]? = some (.map es clock)) {l1 l2 : List (Nd κ ν)} {x : Nd κ ν} (h : MapRep C es (l1 ++ x :: l2)) (hnd : ((l1 ++ x :: l2).map (·.it.k)).Nodup) {k : κ} (hk : x.it.k = k) :
    (Instr.lookup T (.map (some m)) (C.ek k) false).run P w = .ok (pt (some x.a)) w := by
  subst hk
  obtain ⟨j, h1, _⟩ := find_hit C HK h hnd w
  simp [Instr.lookup, run_underlying ht, MapKept.run_getObj_map hb, run_check HK.plain, h1, Result.andThen]

theorem run_lookup_miss (HK : Keys C P K) (ht : P.underlying T = some (.map K E)) (hz : (zeroValue E).run P w = .ok (.pointer none) w) (hb : w.heap[m]? = some (.map es clock)) {l : List (Nd κ ν)} (h : MapRep C es l) {k : κ} (hk : ∀ n ∈ l, n.it.k ≠ k) :
    (Instr.lookup T (.map (some m)) (C.ek k) false).run P w = .ok (pt none) w := by
  simp [Instr.lookup, run_underlying ht, MapKept.run_getObj_map hb, run_check HK.plain, find_miss C HK h hk w, Result.andThen, hz, pt]

theorem run_store_new (HK : Keys C P K) (ht : P.underlying T = some (.map K E)) (hb : w.heap[m]? = some (.map es clock)) {l : List (Nd κ ν)} (h : MapRep C es l) {k : κ} (hk : ∀ n ∈ l, n.it.k ≠ k) (v : Value) :
    (Instr.mapUpdate T (.map (some m)) (C.ek k) v).run P w = .ok () (ChangeMaps.setBlock w m (.map (es.push { key := C.ek k, val := v, born := clock }) (clock + 1))) := by
  simp [Instr.mapUpdate, run_underlying ht, MapKept.run_getObj_map hb, run_check HK.plain, find_miss C HK h hk w, Result.andThen, MapKept.run_setObj_map _ hb, ChangeMaps.setBlock]

theorem run_delete_hit (HK : Keys C P K) (ht : P.underlying T = some (.map K E)) (hb : w.heap[m]? = some (.map es clock)) {l1 l2 : List (Nd κ ν)} {x : Nd κ ν} (h : MapRep C es (l1 ++ x :: l2)) (hnd : ((l1 ++ x :: l2).map (·.it.k)).Nodup) {k : κ} (hk : x.it.k = k) (k2 ty : TypeId) :
    ∃ es', (Builtin.delete_ #[T, k2] ty #[.map (some m), C.ek k]).run P w = .ok (.tuple #[]) (ChangeMaps.setBlock w m (.map es' clock)) ∧ MapRep C es' (l1 ++ l2) := by
  subst hk
  obtain ⟨j, h1, h2, h3, h4⟩ := find_hit C HK h hnd w
  refine ⟨_, ?_, h4⟩
  simp [Builtin.delete_, run_underlying ht, MapKept.run_getObj_map hb, run_check HK.plain, h1, Result.andThen, MapKept.run_setObj_map _ hb, ChangeMaps.setBlock]

theorem run_len_map (ht : P.underlying T = some (.map K E)) (hb : w.heap[m]? = some (.map es clock)) (ty : TypeId) :
    (Builtin.len_ #[T] ty #[.map (some m)]).run P w = .ok (.int .i64 es.size) w := by
  simp [Builtin.len_, run_underlying ht, MapKept.run_getObj_map hb, goInt, Result.andThen]

theorem heap_setBlock (w : World) (b : Nat) (o : Obj) (k : Nat) (h : b < w.heap.size) : (ChangeMaps.setBlock w b o).heap[k]? = if k = b then some o else w.heap[k]? := by
  unfold ChangeMaps.setBlock
  simp only [Array.getElem?_setIfInBounds, h, if_true]
  by_cases e : b = k
  · subst e; simp
  · rw [if_neg e, if_neg (fun q => e q.symm)]
end

section
variable {κ ν : Type} (C : Cfg κ ν)
/-- The cache at c, its map at m: at most 'most' things, those of l, that first which was used longest ago. -/
structure Rep (w : World) (c m : Nat) (most : Int) (l : List (Nd κ ν)) : Prop where
  lay : Lay C w c m most l
  map : ∃ es clock, w.heap[m]? = some (.map es clock) ∧ MapRep C es l
  keys : (l.map (·.it.k)).Nodup

theorem Rep.alike {w w' : World} {c m : Nat} {most : Int} {l : List (Nd κ ν)} (h : Rep C w c m most l) (g : w'.Alike w) : Rep C w' c m most l :=
  ⟨h.lay.alike C g, by obtain ⟨es, k, h1, h2⟩ := h.map; exact ⟨es, k, by rw [g.1]; exact h1, h2⟩, h.keys⟩
end
section
variable {κ ν : Type} (C : Cfg κ ν)
theorem new_rep (w : World) (most : Int) : Rep C ((w.alloc (.map #[] 0)).alloc (.cells #[.int .i64 most, .map (some w.heap.size), .pointer none, .pointer none] C.tc)) (w.heap.size + 1) w.heap.size most [] := by
  refine ⟨⟨?_, trivial, ?_⟩, ⟨#[], 0, ?_, .refl _⟩, .nil⟩
  · rw [heap_alloc, if_pos (by simp)]; rfl
  · simp
  · rw [heap_alloc, if_neg (by simp), heap_alloc, if_pos rfl]

theorem lay_cells {w : World} {c m : Nat} {most : Int} {l : List (Nd κ ν)} (h : Lay C w c m most l) :
    w.cell? ⟨c, 0, none⟩ = some (.int .i64 most) ∧ w.cell? ⟨c, 1, none⟩ = some (.map (some m)) ∧ w.cell? ⟨c, 2, none⟩ = some (pt (hd l none)) ∧ w.cell? ⟨c, 3, none⟩ = some (pt (lst l none)) ∧ (∀ o, w.frozen? ⟨c, o, none⟩ = false) :=
  ⟨cell_blk h.cache 0, cell_blk h.cache 1, cell_blk h.cache 2, cell_blk h.cache 3, frozen_blk h.cache⟩

theorem node_cells {w : World} {a : Nat} {x : It κ ν} {p q : Option Nat} (h : w.heap[a]? = some (nodeObj C x p q)) :
    w.cell? ⟨a, 0, none⟩ = some (C.ek x.k) ∧ w.cell? ⟨a, 1, none⟩ = some (C.ev x.v) ∧ w.cell? ⟨a, 2, none⟩ = some (.bool x.d) ∧ w.cell? ⟨a, 3, none⟩ = some (.int .i64 x.p) ∧ w.cell? ⟨a, 4, none⟩ = some (pt p) ∧ w.cell? ⟨a, 5, none⟩ = some (pt q) ∧ (∀ o, w.frozen? ⟨a, o, none⟩ = false) :=
  ⟨cell_blk h 0, cell_blk h 1, cell_blk h 2, cell_blk h 3, cell_blk h 4, cell_blk h 5, frozen_blk h⟩

theorem pt_none : pt none = .pointer none := rfl
theorem pt_some (a : Nat) : pt (some a) = .pointer (some ⟨a, 0, none⟩) := rfl
end

section
variable {κ ν : Type} {C : Cfg κ ν}

theorem Lay.m_lt {w : World} {c m : Nat} {most : Int} {l : List (Nd κ ν)} (_h : Lay C w c m most l) {es : Array MapEntry} {k : Nat} (hb : w.heap[m]? = some (.map es k)) : m < w.heap.size := lt_of_blk hb

theorem Lay.m_not {w : World} {c m : Nat} {most : Int} {l : List (Nd κ ν)} (h : Lay C w c m most l) : m ∉ c :: l.map (·.a) := by
  have := h.nodup
  simp only [List.nodup_cons, List.mem_cons, not_or] at this ⊢
  exact ⟨fun e => this.1.1 e.symm, this.2.1⟩

/-- The two steps of a use: taken out, put at the end. -/
theorem rep_used {w w1 w2 : World} {c m : Nat} {most : Int} {l1 l2 : List (Nd κ ν)} {x : Nd κ ν} (h : Rep C w c m most (l1 ++ x :: l2)) (u1 : Upd (c :: (l1 ++ x :: l2).map (·.a)) w w1)
    (hL : Lay C w2 c m most (l1 ++ l2 ++ [x])) (u2 : Upd (c :: (l1 ++ l2 ++ [x]).map (·.a)) w1 w2) : Rep C w2 c m most (l1 ++ l2 ++ [x]) ∧ Upd (c :: (l1 ++ x :: l2).map (·.a)) w w2 := by
  have u2' : Upd (c :: (l1 ++ x :: l2).map (·.a)) w1 w2 := u2.mono (fun k hk _ => by simp at hk ⊢; grind)
  have u := u1.trans u2'
  obtain ⟨es, ck, h1, h2⟩ := h.map
  have hp : (l1 ++ x :: l2).Perm (l1 ++ l2 ++ [x]) := by
    rw [List.append_assoc]
    exact List.Perm.append_left _ (List.perm_append_singleton x l2).symm
  refine ⟨⟨hL, ⟨es, ck, ?_, h2.trans (hp.map _)⟩, ((hp.map _).nodup_iff).1 h.keys⟩, u⟩
  rw [u.block m (lt_of_blk h1) h.lay.m_not]; exact h1

theorem used_nodup {c m : Nat} {l1 l2 : List (Nd κ ν)} {x : Nd κ ν} (h : (c :: m :: (l1 ++ x :: l2).map (·.a)).Nodup) : (c :: m :: (l1 ++ l2 ++ [x]).map (·.a)).Nodup := by
  have hp : (l1 ++ x :: l2).Perm (l1 ++ l2 ++ [x]) := by
    rw [List.append_assoc]
    exact List.Perm.append_left _ (List.perm_append_singleton x l2).symm
  exact ((((hp.map (·.a)).cons m).cons c).nodup_iff).1 h
end

section
variable {κ ν : Type} {C : Cfg κ ν}

/-- The cache goes by the blocks of its footprint alone. -/
theorem Rep.congr {w w' : World} {c m : Nat} {most : Int} {l : List (Nd κ ν)} (h : Rep C w c m most l) (hh : ∀ k ∈ foot c m l, w'.heap[k]? = w.heap[k]?) : Rep C w' c m most l :=
  ⟨h.lay.congr C hh, by obtain ⟨es, k, h1, h2⟩ := h.map; exact ⟨es, k, by rw [hh m (by simp)]; exact h1, h2⟩, h.keys⟩

theorem Rep.lt {w : World} {c m : Nat} {most : Int} {l : List (Nd κ ν)} (h : Rep C w c m most l) {k : Nat} (hk : k ∈ foot c m l) : k < w.heap.size := by
  simp at hk
  rcases hk with rfl | rfl | ⟨n, hn, rfl⟩
  · exact lt_of_blk h.lay.cache
  · obtain ⟨es, k, h1, h2⟩ := h.map; exact lt_of_blk h1
  · exact h.lay.lt C hn

theorem Rep.keep {w w' : World} {c m : Nat} {most : Int} {l : List (Nd κ ν)} (h : Rep C w c m most l) {F : List Nat} (u : Upd F w w') (hF : ∀ k ∈ foot c m l, k ∉ F) : Rep C w' c m most l :=
  h.congr fun k hk => u.block k (h.lt hk) (hF k hk)

theorem Rep.alloc {w : World} {c m : Nat} {most : Int} {l : List (Nd κ ν)} (h : Rep C w c m most l) (o : Obj) : Rep C (w.alloc o) c m most l :=
  h.keep ((Upd.refl [] w).alloc o) (by simp)

/-- The node at x. -/
theorem Rep.node {w : World} {c m : Nat} {most : Int} {l1 l2 : List (Nd κ ν)} {x : Nd κ ν} (h : Rep C w c m most (l1 ++ x :: l2)) : w.heap[x.a]? = some (nodeObj C x.it (lst l1 none) (hd l2 none)) := by
  have := h.lay.chain
  rw [chain_app] at this
  exact this.2.1

/-- A thing's contents turn; its key does not. -/
theorem Rep.change {w w' : World} {c m : Nat} {most : Int} {l1 l2 : List (Nd κ ν)} {x : Nd κ ν} (h : Rep C w c m most (l1 ++ x :: l2)) (it : It κ ν) (hk : it.k = x.it.k)
    (hx : w'.heap[x.a]? = some (nodeObj C it (lst l1 none) (hd l2 none))) (hh : ∀ k ∈ foot c m (l1 ++ x :: l2), k ≠ x.a → w'.heap[k]? = w.heap[k]?) : Rep C w' c m most (l1 ++ ⟨x.a, it⟩ :: l2) := by
  obtain ⟨⟨h1, h2, h3⟩, ⟨es, ck, h4, h5⟩, h6⟩ := h
  rw [chain_app] at h2
  obtain ⟨h2, h7, h8⟩ := h2
  have h3' := h3
  simp [List.nodup_append] at h3
  obtain ⟨⟨n1, n2, n3, n4⟩, ⟨n5, n6, n7⟩, n8, ⟨n9, n10⟩, n11⟩ := h3
  refine ⟨⟨?_, (chain_app ..).2 ⟨?_, ?_, ?_⟩, by simpa using h3'⟩, ⟨es, ck, ?_, ?_⟩, ?_⟩
  · rw [hh c (by simp) n3, h1]
    simp only [hd_app, lst_app, hd_cons, lst_cons]
  · exact chain_congr C (fun n hn => hh n.a (by simp; right; right; left; exact ⟨n, hn, rfl⟩) (n11 n hn).1) h2
  · exact hx
  · exact chain_congr C (fun n hn => hh n.a (by simp; right; right; right; right; exact ⟨n, hn, rfl⟩) (n9 n hn)) h8
  · rw [hh m (by simp) n6]; exact h4
  · simpa [MapRep, hk] using h5
  · simpa [hk] using h6

/-- A new thing at the end. -/
theorem rep_new {w1 w2 : World} {c m : Nat} {most : Int} {l : List (Nd κ ν)} {x : Nd κ ν} {es : Array MapEntry} {ck : Nat}
    (h1 : w1.heap[m]? = some (.map es ck)) (h2 : MapRep C es (l ++ [x])) (hk : ((l ++ [x]).map (·.it.k)).Nodup) (hL : Lay C w2 c m most (l ++ [x])) (u : Upd (c :: (l ++ [x]).map (·.a)) w1 w2) : Rep C w2 c m most (l ++ [x]) :=
  ⟨hL, ⟨es, ck, by rw [u.block m (lt_of_blk h1) hL.m_not]; exact h1, h2⟩, hk⟩
end

section
variable {κ ν : Type} {C : Cfg κ ν}
theorem Rep.set12 {w w' : World} {c m : Nat} {most : Int} {l : List (Nd κ ν)} {x : Nd κ ν} (h : Rep C w c m most (l ++ [x])) (v : ν) (b : Bool)
    (hw : w'.Alike ((w.setCell ⟨x.a, 1, none⟩ (C.ev v)).setCell ⟨x.a, 2, none⟩ (.bool b))) : Rep C w' c m most (l ++ [⟨x.a, { x.it with v := v, d := b }⟩]) := by
  have hx := h.node
  refine h.change _ rfl ?_ (fun k _ hk => ?_)
  · rw [hw.1]; simp [heap_setCell, hx, nodeObj, Obj.put]
  · rw [hw.1]; simp [heap_setCell, hk]
theorem upd_foot_used {w w1 w2 : World} {c m : Nat} {l1 l2 : List (Nd κ ν)} {x : Nd κ ν} (u0 : Upd (foot c m (l1 ++ x :: l2)) w w1) (h : w2.Alike w1) : Upd (foot c m (l1 ++ x :: l2)) w w2 := u0.alike h
/-- The blocks of a foot are older than what was laid behind. -/
theorem Rep.new_not {w : World} {c m : Nat} {most : Int} {l : List (Nd κ ν)} (h : Rep C w c m most l) : w.heap.size ∉ foot c m l := fun hk => Nat.lt_irrefl _ (h.lt hk)
end

section
variable {κ ν : Type} {C : Cfg κ ν}
/-- A new thing is boxed and written into the map: before it is linked. -/
theorem put_new_pre {w0 W2 : World} {c m ck : Nat} {most : Int} {l : List (Nd κ ν)} {es : Array MapEntry} (h : Lay C w0 c m most l) (hb : w0.heap[m]? = some (.map es ck)) (it : It κ ν)
    (hW : W2.Alike (ChangeMaps.setBlock (w0.alloc (nodeObj C it none none)) m (.map (es.push { key := C.ek it.k, val := pt (some w0.heap.size), born := ck }) (ck + 1)))) :
    Lay C W2 c m most l ∧ W2.heap[w0.heap.size]? = some (nodeObj C it none none) ∧ W2.heap[m]? = some (.map (es.push { key := C.ek it.k, val := pt (some w0.heap.size), born := ck }) (ck + 1)) ∧
      Upd [m] w0 W2 ∧ (c :: m :: (l ++ [(⟨w0.heap.size, it⟩ : Nd κ ν)]).map (·.a)).Nodup := by
  have hm := lt_of_blk hb
  have hs : m < (w0.alloc (nodeObj C it none none)).heap.size := by simp; omega
  have hcm := h.nodup
  simp only [List.nodup_cons, List.mem_cons, not_or] at hcm
  obtain ⟨⟨q1, q2⟩, q3, q4⟩ := hcm
  have hc := lt_of_blk h.cache
  have keep : ∀ k, k < w0.heap.size → k ≠ m → W2.heap[k]? = w0.heap[k]? := fun k hk hn => by
    rw [hW.1, heap_setBlock _ _ _ _ hs, if_neg hn, heap_alloc, if_neg (by omega)]
  refine ⟨⟨by rw [keep c hc q1]; exact h.cache, chain_congr C (fun n hn => keep n.a (h.lt C hn) (fun e => q3 (List.mem_map.2 ⟨n, hn, e⟩))) h.chain, h.nodup⟩, ?_, ?_, ⟨hW.2.1, hW.2.2, ?_, fun k hk hn => keep k hk (by simpa using hn)⟩, ?_⟩
  · have hne : w0.heap.size ≠ m := by omega
    rw [hW.1, heap_setBlock _ _ _ _ hs, if_neg hne, heap_alloc, if_pos rfl]
  · rw [hW.1, heap_setBlock _ _ _ _ hs, if_pos rfl]
  · rw [hW.1]; simp [ChangeMaps.setBlock]
  · have hl : ∀ n ∈ l, n.a < w0.heap.size := fun n hn => h.lt C hn
    simp [List.nodup_append]
    simp at q2 q3
    refine ⟨⟨q1, fun n hn => q2 n hn, by omega⟩, ⟨fun n hn => q3 n hn, by omega⟩, q4, fun n hn => by have := hl n hn; omega⟩
end
theorem cast0 : ((0 : Nat) : Int) = 0 := rfl
theorem Rep.c_lt {κ ν : Type} {C : Cfg κ ν} {w : World} {c m : Nat} {most : Int} {l : List (Nd κ ν)} (h : Rep C w c m most l) : c < w.heap.size := h.lt (by simp)
theorem Rep.m_lt {κ ν : Type} {C : Cfg κ ν} {w : World} {c m : Nat} {most : Int} {l : List (Nd κ ν)} (h : Rep C w c m most l) : m < w.heap.size := h.lt (by simp)

/-- A row of six cells is written over: as the walk spells it. -/
theorem store6 {w w' : World} {g : Nat} {a0 a1 a2 a3 a4 a5 b0 b1 b2 b3 b4 b5 : Value} {t : TypeId} (h : w.heap[g]? = some (.cells #[a0, a1, a2, a3, a4, a5] t (0, 0)))
    (hw : w'.Alike ((((((w.setCell ⟨g, 0, none⟩ b0).setCell ⟨g, 1, none⟩ b1).setCell ⟨g, 2, none⟩ b2).setCell ⟨g, 3, none⟩ b3).setCell ⟨g, 4, none⟩ b4).setCell ⟨g, 5, none⟩ b5)) :
    w'.heap[g]? = some (.cells #[b0, b1, b2, b3, b4, b5] t (0, 0)) ∧ Upd [g] w w' := by
  refine ⟨?_, ?_⟩
  · rw [hw.1]; simp [heap_setCell, h, Obj.put]
  · exact (((((((Upd.refl _ _).setCell (by simp) _ _).setCell (by simp) _ _).setCell (by simp) _ _).setCell (by simp) _ _).setCell (by simp) _ _).setCell (by simp) _ _).alike hw

section
variable {κ ν : Type} {C : Cfg κ ν}
/-- A thing is out of the list: it goes out of the map. -/
theorem rep_gone {w w1 w2 : World} {c m ck : Nat} {most : Int} {l1 l2 : List (Nd κ ν)} {x : Nd κ ν} {es es' : Array MapEntry} (h : Rep C w c m most (l1 ++ x :: l2)) (hb : w1.heap[m]? = some (.map es ck))
    (hL : Lay C w1 c m most (l1 ++ l2)) (hm : MapRep C es' (l1 ++ l2)) (hW : w2.Alike (ChangeMaps.setBlock w1 m (.map es' ck))) : Rep C w2 c m most (l1 ++ l2) ∧ Upd [m] w1 w2 := by
  have hm1 := lt_of_blk hb
  have keep : ∀ k, k ≠ m → w2.heap[k]? = w1.heap[k]? := fun k hn => by rw [hW.1, heap_setBlock _ _ _ _ hm1, if_neg hn]
  have hnd := hL.nodup
  simp only [List.nodup_cons, List.mem_cons, not_or] at hnd
  refine ⟨⟨⟨by rw [keep c hnd.1.1]; exact hL.cache, chain_congr C (fun n hn => keep n.a (fun e => hnd.2.1 (List.mem_map.2 ⟨n, hn, e⟩))) hL.chain, hL.nodup⟩, ⟨es', ck, ?_, hm⟩, ?_⟩, ⟨hW.2.1, hW.2.2, ?_, fun k _ hn => keep k (by simpa using hn)⟩⟩
  · rw [hW.1, heap_setBlock _ _ _ _ hm1, if_pos rfl]
  · exact h.keys.sublist (by simp)
  · rw [hW.1]; simp [ChangeMaps.setBlock]
end
theorem bytes_beq (a b : ByteArray) : (a == b) = decide (a = b) := by
  cases a with | mk a => cases b with | mk b =>
  rw [Bool.eq_iff_iff]
  show ByteArray.beq ⟨a⟩ ⟨b⟩ = true ↔ _
  simp only [ByteArray.beq, decide_eq_true_eq, ByteArray.mk.injEq]
  exact beq_iff_eq

/-- Behind an append to a row of the call's own. -/
theorem Upd.grown {F : List Nat} {w a b : World} {row : Option Nat} (h : Upd F w a) (hg : a.grownBy b row) (hr : ∀ k, row = some k → w.heap.size ≤ k) : Upd F w b :=
  ⟨hg.os.trans h.os, hg.output.trans h.output, Nat.le_trans h.size hg.size, fun k hk hn => (hg.block k (Nat.lt_of_lt_of_le hk h.size) (fun e => by have := hr k e.symm; omega)).trans (h.block k hk hn)⟩
theorem ownBlock_ge {w : World} {base : Nat} {e : TypeId} {size : Nat} {v : Value} {n : Nat} {xs : List Value} (h : w.ownsRow base e size v n xs) : ∀ k, v.ownBlock = some k → base ≤ k := fun k hk => (h.lt k hk).1
/-- A row is owned in whatever world has its block as it was. -/
theorem own_upd {F : List Nat} {w w' : World} {base : Nat} {e : TypeId} {size : Nat} {v : Value} {n : Nat} {xs : List Value} (h : w.ownsRow base e size v n xs) (u : Upd F w w') (hF : ∀ k ∈ F, v.ownBlock ≠ some k) : w'.ownsRow base e size v n xs := by
  have hlt := h.lt
  obtain ⟨h1, h2⟩ := h
  refine ⟨h1, ?_⟩
  rcases h2 with h2 | ⟨g, cap, cur, hv, hg, hh, r⟩
  · exact Or.inl h2
  · subst hv
    have := (hlt g rfl).2
    exact Or.inr ⟨g, cap, cur, rfl, hg, by rw [u.block g this (fun q => hF g q rfl)]; exact hh, r⟩

section
variable {κ ν : Type} {C : Cfg κ ν}
theorem Rep.set3 {w w' : World} {c m : Nat} {most : Int} {l1 l2 : List (Nd κ ν)} {x : Nd κ ν} (h : Rep C w c m most (l1 ++ x :: l2)) (p : Nat)
    (hw : w'.Alike (w.setCell ⟨x.a, 3, none⟩ (.int .i64 p))) : Rep C w' c m most (l1 ++ ⟨x.a, { x.it with p := p }⟩ :: l2) := by
  have hx := h.node
  refine h.change _ rfl ?_ (fun k _ hk => ?_)
  · rw [hw.1]; simp [heap_setCell, hx, nodeObj, Obj.put]
  · rw [hw.1]; simp [heap_setCell, hk]
theorem Rep.set2 {w w' : World} {c m : Nat} {most : Int} {l1 l2 : List (Nd κ ν)} {x : Nd κ ν} (h : Rep C w c m most (l1 ++ x :: l2)) (b : Bool)
    (hw : w'.Alike (w.setCell ⟨x.a, 2, none⟩ (.bool b))) : Rep C w' c m most (l1 ++ ⟨x.a, { x.it with d := b }⟩ :: l2) := by
  have hx := h.node
  refine h.change _ rfl ?_ (fun k _ hk => ?_)
  · rw [hw.1]; simp [heap_setCell, hx, nodeObj, Obj.put]
  · rw [hw.1]; simp [heap_setCell, hk]
end
end Go.Proofs.Ytgndkmdmpiiedaa
