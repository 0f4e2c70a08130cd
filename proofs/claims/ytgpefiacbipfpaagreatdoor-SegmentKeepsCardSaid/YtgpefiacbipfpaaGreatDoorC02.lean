/- A cache: doubly linked lists in blocks, a map: no program in sight. (Turned from wip/bcache.) The contracts of the cache's inner functions (new, unlink, link, find) at one pair of types, over any world that holds the cache's list. The contracts of the cache's outer functions (Put, Get, Len) at one pair of types. The contracts of Get and Len at one pair of types. -/
import Derived.Handy
import Derived.OpenShut
import Derived.Lib.Hide
import Derived.Deep.LoopGhost
import Derived.Deep.QuietTactic
import Derived.BigQuiet
import Derived.Deep.DeepCutAuto
import Derived.Test.YtgpefiacbipfpaaGreatDoorC01
import Derived.Test.YtgpefiacbipfpaaGreatDoorChecked
namespace Go.Proofs.YtgpefiacbipfpaaGreatDoor.Bc
open Go.RowKit
def pt (o : Option Nat) : Value := .pointer (o.map fun b => ⟨b, 0, none⟩)
structure It (κ ν : Type) where
 k : κ
 v : ν
 d : Bool
 p : Nat
structure Nd (κ ν : Type) where
 a : Nat
 it : It κ ν
structure Cfg (κ ν : Type) where
 ek : κ → Value
 ev : ν → Value
 tc : TypeId
 ti : TypeId
section
variable {κ ν : Type} (C : Cfg κ ν)
def nodeObj (x : It κ ν) (prev next : Option Nat) : Obj := .cells #[C.ek x.k, C.ev x.v, .bool x.d, .int .i64 x.p, pt prev, pt next] C.ti (0, 0)
def cacheObj (most : Int) (m : Nat) (oldest first : Option Nat) : Obj := .cells #[.int .i64 most, .map (some m), pt oldest, pt first] C.tc (0, 0)
def hd : List (Nd κ ν) → Option Nat → Option Nat
 | [], q => q
 | n :: _, _ => some n.a
def lst : List (Nd κ ν) → Option Nat → Option Nat
 | [], p => p
 | n :: r, _ => lst r (some n.a)
def Chain (H : Nat → Option Obj) : Option Nat → List (Nd κ ν) → Option Nat → Prop
 | _, [], _ => True
 | p, n :: r, q => H n.a = some (nodeObj C n.it p (hd r q)) ∧ Chain H (some n.a) r q
theorem hd_app (l r : List (Nd κ ν)) (q : Option Nat) : hd (l ++ r) q = hd l (hd r q) := by cases l <;> rfl
theorem lst_app (l r : List (Nd κ ν)) (p : Option Nat) : lst (l ++ r) p = lst r (lst l p) := by
 induction l generalizing p with
 | nil => rfl
 | cons n l ih => exact ih _
theorem chain_app (H : Nat → Option Obj) (p : Option Nat) (l r : List (Nd κ ν)) (q : Option Nat) :
  Chain C H p (l ++ r) q ↔ Chain C H p l (hd r q) ∧ Chain C H (lst l p) r q := by
 induction l generalizing p with
 | nil => simp [Chain, lst]
 | cons n l ih => simp [Chain, lst, hd_app, ih, and_assoc]
theorem chain_congr {H H' : Nat → Option Obj} {p : Option Nat} {l : List (Nd κ ν)} {q : Option Nat} (h : ∀ n ∈ l, H' n.a = H n.a) (hc : Chain C H p l q) : Chain C H' p l q := by
 induction l generalizing p with
 | nil => trivial
 | cons n l ih =>
  obtain ⟨h1, h2⟩ := hc
  exact ⟨by rw [h n (by simp)]; exact h1, ih (fun x hx => h x (by simp [hx])) h2⟩
theorem chain_at {H : Nat → Option Obj} {p : Option Nat} {l : List (Nd κ ν)} {q : Option Nat} (hc : Chain C H p l q) {n : Nd κ ν} (hn : n ∈ l) : ∃ a b, H n.a = some (nodeObj C n.it a b) := by
 induction l generalizing p with
 | nil => simp at hn
 | cons x l ih =>
  obtain ⟨h1, h2⟩ := hc
  rcases List.mem_cons.1 hn with rfl | hn
  ·exact ⟨_, _, h1⟩
  ·exact ih h2 hn
structure Lay (w : World) (c m : Nat) (most : Int) (l : List (Nd κ ν)) : Prop where
 cache : w.heap[c]? = some (cacheObj C most m (hd l none) (lst l none))
 chain : Chain C (fun k => w.heap[k]?) none l none
 nodup : (c :: m :: l.map (·.a)).Nodup
abbrev foot (c m : Nat) (l : List (Nd κ ν)) : List Nat := c :: m :: l.map (·.a)
theorem Lay.congr {w w' : World} {c m : Nat} {most : Int} {l : List (Nd κ ν)} (h : Lay C w c m most l) (hh : ∀ k ∈ foot c m l, w'.heap[k]? = w.heap[k]?) : Lay C w' c m most l :=
 ⟨by rw [hh c (by simp)]; exact h.cache, chain_congr C (fun n hn => hh n.a (by simp; right; right; exact ⟨n, hn, rfl⟩)) h.chain, h.nodup⟩
theorem Lay.alike {w w' : World} {c m : Nat} {most : Int} {l : List (Nd κ ν)} (h : Lay C w c m most l) (g : w'.Alike w) : Lay C w' c m most l :=
 h.congr C (fun k _ => by rw [g.1])
theorem Lay.lt {w : World} {c m : Nat} {most : Int} {l : List (Nd κ ν)} (h : Lay C w c m most l) {n : Nd κ ν} (hn : n ∈ l) : n.a < w.heap.size := by
 obtain ⟨a, b, hb⟩ := chain_at C h.chain hn
 exact lt_of_blk hb
end
section
variable {κ ν : Type} (C : Cfg κ ν)
theorem hd_nil (q : Option Nat) : hd ([] : List (Nd κ ν)) q = q := rfl
theorem hd_cons (n : Nd κ ν) (r : List (Nd κ ν)) (q : Option Nat) : hd (n :: r) q = some n.a := rfl
theorem lst_nil (q : Option Nat) : lst ([] : List (Nd κ ν)) q = q := rfl
theorem lst_cons (n : Nd κ ν) (r : List (Nd κ ν)) (q : Option Nat) : lst (n :: r) q = lst r (some n.a) := rfl
def unlinkW (w : World) (c x : Nat) (prev next : Option Nat) : World :=
 let w1 := match prev with | some y => w.setCell ⟨y, 5, none⟩ (pt next) | none => w.setCell ⟨c, 2, none⟩ (pt next)
 let w2 := match next with | some z => w1.setCell ⟨z, 4, none⟩ (pt prev) | none => w1.setCell ⟨c, 3, none⟩ (pt prev)
 (w2.setCell ⟨x, 4, none⟩ (pt none)).setCell ⟨x, 5, none⟩ (pt none)
theorem put_node4 (x : It κ ν) (a b : Option Nat) (u : Option Nat) : Obj.put 4 (pt u) (nodeObj C x a b) = nodeObj C x u b := rfl
theorem put_node5 (x : It κ ν) (a b : Option Nat) (u : Option Nat) : Obj.put 5 (pt u) (nodeObj C x a b) = nodeObj C x a u := rfl
theorem put_cache2 (most : Int) (m : Nat) (a b u : Option Nat) : Obj.put 2 (pt u) (cacheObj C most m a b) = cacheObj C most m u b := rfl
theorem put_cache3 (most : Int) (m : Nat) (a b u : Option Nat) : Obj.put 3 (pt u) (cacheObj C most m a b) = cacheObj C most m a u := rfl
theorem lay_unlink {w w' : World} {c m : Nat} {most : Int} {l1 l2 : List (Nd κ ν)} {x : Nd κ ν} (h : Lay C w c m most (l1 ++ x :: l2))
  (hw : w'.Alike (unlinkW w c x.a (lst l1 none) (hd l2 none))) :
  Lay C w' c m most (l1 ++ l2) ∧ w'.heap[x.a]? = some (nodeObj C x.it none none) ∧ Upd (c :: (l1 ++ x :: l2).map (·.a)) w w' := by
 obtain ⟨h1, h2, h3⟩ := h
 have hnd : (c :: m :: (l1 ++ l2).map (·.a)).Nodup := h3.sublist (by simp)
 rw [chain_app] at h2
 obtain ⟨h2, h4, h5⟩ := h2
 rcases List.eq_nil_or_concat l1 with rfl | ⟨l1, y, rfl⟩
 ·rcases l2 with _ | ⟨z, l2⟩
  ·simp [unlinkW, lst_nil, lst_cons, hd_nil, hd_cons] at hw h1 h3 h4 ⊢
   have hh := hw.1
   refine ⟨⟨?_, trivial, ?_⟩, ?_, ?_⟩
   ·rw [hh]; simp [heap_setCell, h1, h3, put_cache2, put_cache3, hd_nil, lst_nil]
   ·simp; exact h3.1.1
   ·rw [hh]; simp [heap_setCell, h4, put_node4, put_node5, Ne.symm h3.1.2]
   ·exact ((((Upd.refl _ _).setCell (by simp) _ _).setCell (by simp) _ _).setCell (by simp) _ _ |>.setCell (by simp) _ _).alike hw
  ·obtain ⟨h5, h6⟩ := h5
   simp [unlinkW, lst_nil, lst_cons, hd_cons] at hw h1 h3 h4 h5 h6 ⊢
   have hh := hw.1
   obtain ⟨⟨n1, n2, n3, n4⟩, ⟨n5, n6, n7⟩, ⟨n8, n9⟩, n10, n11⟩ := h3
   refine ⟨⟨?_, ⟨?_, ?_⟩, ?_⟩, ?_, ?_⟩
   ·rw [hh]; simp [heap_setCell, h1, n2, n3, put_cache2, hd_cons, lst_cons]
   ·simp only [hh]; simp [heap_setCell, h5, Ne.symm n3, Ne.symm n8, put_node4]
   ·refine chain_congr C (fun n hn => ?_) h6
    have q1 := n4 n hn; have q2 := n7 n hn; have q3 := n9 n hn; have q4 := n10 n hn
    simp only [hh]; simp [heap_setCell, q1, q3, q4]
   ·simp; exact ⟨⟨n1, n3, n4⟩, ⟨n6, n7⟩, n10, n11⟩
   ·rw [hh]; simp [heap_setCell, h4, put_node4, put_node5, n8, Ne.symm n2]
   ·exact ((((Upd.refl _ _).setCell (by simp) _ _).setCell (by simp) _ _).setCell (by simp) _ _ |>.setCell (by simp) _ _).alike hw
 ·simp only [List.concat_eq_append, List.append_assoc] at *
  rw [chain_app] at h2
  obtain ⟨h2, h7, _⟩ := h2
  rcases l2 with _ | ⟨z, l2⟩
  ·simp [unlinkW, lst_nil, lst_cons, hd_nil, hd_cons, lst_app, hd_app, List.nodup_append] at hw h1 h2 h3 h4 h5 h7 ⊢
   have hh := hw.1
   obtain ⟨⟨n1, n2, n3, n4⟩, ⟨n5, n6, n7⟩, n8, n9, n10⟩ := h3
   refine ⟨⟨?_, (chain_app ..).2 ⟨?_, ?_, trivial⟩, ?_⟩, ?_, ?_⟩
   ·rw [hh]; simp [heap_setCell, h1, n3, n4, put_cache3, hd_app, hd_cons, lst_app, lst_cons, lst_nil]
   ·refine chain_congr C (fun n hn => ?_) h2
    have q1 := n2 n hn; have q2 := n10 n hn
    simp only [hh]; simp [heap_setCell, q1, q2.1, q2.2]
   ·simp only [hh]; simp [heap_setCell, h7, Ne.symm n3, n9, put_node5, hd_nil]
   ·simpa using hnd
   ·rw [hh]; simp [heap_setCell, h4, put_node4, put_node5, Ne.symm n9, Ne.symm n4]
   ·exact ((((Upd.refl _ _).setCell (by simp) _ _).setCell (by simp) _ _).setCell (by simp) _ _ |>.setCell (by simp) _ _).alike hw
  ·obtain ⟨h5, h6⟩ := h5
   simp [unlinkW, lst_nil, lst_cons, hd_nil, hd_cons, lst_app, hd_app, List.nodup_append] at hw h1 h2 h3 h4 h5 h6 h7 ⊢
   have hh := hw.1
   obtain ⟨⟨n1, n2, n3, n4, n5, n6⟩, ⟨n7, n8, n9, n10, n11⟩, n12, ⟨⟨n13, n14, n15⟩, ⟨n16, n17⟩, n18, n19⟩, n20⟩ := h3
   refine ⟨⟨?_, (chain_app ..).2 ⟨?_, ?_, ?_, ?_⟩, ?_⟩, ?_, ?_⟩
   ·rw [hh]; simp [heap_setCell, h1, n3, n4, n5, hd_app, hd_cons, lst_app, lst_cons]
   ·refine chain_congr C (fun n hn => ?_) h2
    have q1 := n2 n hn; have q2 := n20 n hn
    simp only [hh]; simp [heap_setCell, q2.1, q2.2.1, q2.2.2.1]
   ·simp only [hh]; simp [heap_setCell, h7, n13, n14, put_node5, hd_cons]
   ·simp only [hh]; simp [heap_setCell, h5, Ne.symm n14, Ne.symm n16, put_node4]
   ·refine chain_congr C (fun n hn => ?_) h6
    have q1 := n15 n hn; have q2 := n17 n hn; have q3 := n18 n hn
    simp only [hh]; simp [heap_setCell, q1, q2, q3]
   ·simpa using hnd
   ·rw [hh]; simp [heap_setCell, h4, put_node4, put_node5, Ne.symm n13, n16]
   ·exact ((((Upd.refl _ _).setCell (by simp) _ _).setCell (by simp) _ _).setCell (by simp) _ _ |>.setCell (by simp) _ _).alike hw
def linkW (w : World) (c x : Nat) (last : Option Nat) : World :=
 let w1 := w.setCell ⟨x, 4, none⟩ (pt last)
 let w2 := match last with | some y => w1.setCell ⟨y, 5, none⟩ (pt (some x)) | none => w1.setCell ⟨c, 2, none⟩ (pt (some x))
 w2.setCell ⟨c, 3, none⟩ (pt (some x))
theorem lay_link {w w' : World} {c m : Nat} {most : Int} {l : List (Nd κ ν)} {x : Nd κ ν} (h : Lay C w c m most l) (hx : w.heap[x.a]? = some (nodeObj C x.it none none))
  (hnd : (c :: m :: (l ++ [x]).map (·.a)).Nodup) (hw : w'.Alike (linkW w c x.a (lst l none))) :
  Lay C w' c m most (l ++ [x]) ∧ Upd (c :: (l ++ [x]).map (·.a)) w w' := by
 obtain ⟨h1, h2, h3⟩ := h
 have hnd' := hnd
 rcases List.eq_nil_or_concat l with rfl | ⟨l1, y, rfl⟩
 ·simp [linkW, lst_nil, hd_nil] at hw h1 hnd ⊢
  have hh := hw.1
  refine ⟨⟨?_, ⟨?_, trivial⟩, by simpa using hnd'⟩, ?_⟩
  ·rw [hh]; simp [heap_setCell, h1, hnd, put_cache2, put_cache3, hd_cons, lst_nil, lst_cons]
  ·simp only [hh]; simp [heap_setCell, hx, Ne.symm hnd.1.2, put_node4, hd_nil]
  ·exact ((((Upd.refl _ _).setCell (by simp) _ _).setCell (by simp) _ _).setCell (by simp) _ _).alike hw
 ·simp only [List.concat_eq_append] at *
  rw [chain_app] at h2
  obtain ⟨h2, h7, _⟩ := h2
  simp [linkW, lst_nil, lst_cons, hd_nil, hd_cons, lst_app, hd_app, List.nodup_append] at hw h1 h2 h7 hnd ⊢
  have hh := hw.1
  obtain ⟨⟨n1, n2, n3, n4⟩, ⟨n5, n6, n7⟩, n8, n9, n10⟩ := hnd
  refine ⟨⟨?_, (chain_app ..).2 ⟨?_, ?_, ?_, trivial⟩, by simpa using hnd'⟩, ?_⟩
  ·rw [hh]; simp [heap_setCell, h1, n3, n4, put_cache3, hd_app, hd_cons, lst_app, lst_cons, lst_nil]
  ·refine chain_congr C (fun n hn => ?_) h2
   have q1 := n2 n hn; have q2 := n10 n hn
   simp only [hh]; simp [heap_setCell, q1, q2.1, q2.2]
  ·simp only [hh]; simp [heap_setCell, h7, n9, Ne.symm n3, put_node5, hd_cons]
  ·simp only [hh]; simp [heap_setCell, hx, Ne.symm n9, Ne.symm n4, put_node4, hd_nil]
  ·exact ((((Upd.refl _ _).setCell (by simp) _ _).setCell (by simp) _ _).setCell (by simp) _ _).alike hw
end
section
variable {κ ν : Type} (C : Cfg κ ν)
def MapRep (es : Array MapEntry) (l : List (Nd κ ν)) : Prop := (es.toList.map fun e => (e.key, e.val)).Perm (l.map fun n => (C.ek n.it.k, pt (some n.a)))
theorem mapRep_mem {es : Array MapEntry} {l : List (Nd κ ν)} (h : MapRep C es l) {e : MapEntry} (he : e ∈ es.toList) : ∃ n ∈ l, e.key = C.ek n.it.k ∧ e.val = pt (some n.a) := by
 have : (e.key, e.val) ∈ l.map fun n => (C.ek n.it.k, pt (some n.a)) := h.mem_iff.1 (List.mem_map.2 ⟨e, he, rfl⟩)
 obtain ⟨n, hn, hq⟩ := List.mem_map.1 this
 simp only [Prod.mk.injEq] at hq
 exact ⟨n, hn, hq.1.symm, hq.2.symm⟩
theorem mapRep_size {es : Array MapEntry} {l : List (Nd κ ν)} (h : MapRep C es l) : es.size = l.length := by
 have := h.length_eq; simpa using this
theorem mapRep_push {es : Array MapEntry} {l : List (Nd κ ν)} (h : MapRep C es l) (x : Nd κ ν) (b : Nat) : MapRep C (es.push { key := C.ek x.it.k, val := pt (some x.a), born := b }) (l ++ [x]) := by
 unfold MapRep at *
 simp only [Array.toList_push, List.map_append, List.map_cons, List.map_nil]
 exact h.append_right _
end
section
variable {κ ν : Type} [DecidableEq κ] (C : Cfg κ ν)
structure Keys (P : Program) (K : TypeId) : Prop where
 plain : P.underlying K = some (.int .i64) ∨ P.underlying K = some .string
 same : ∀ D, P.underlying K = some D → ∀ a b : κ, Instr.sameNow D (C.ek a) (C.ek b) = some (decide (a = b))
 bits : ∀ a : κ, Instr.sameBits 10000 (C.ek a) (C.ek a) = true
theorem run_check {P : Program} {K : TypeId} (hK : P.underlying K = some (.int .i64) ∨ P.underlying K = some .string) (w : World) (e : Bool) (v : Value) : (Instr.checkKey e 10000 K v).run P w = .ok () w := by
 unfold Instr.checkKey
 rcases hK with h | h <;> simp [run_underlying h]
theorem findNow_miss {D : TypeDesc} (hS : ∀ a b : κ, Instr.sameNow D (C.ek a) (C.ek b) = some (decide (a = b))) (k : κ) : ∀ (es : List MapEntry) (i : Nat), (∀ e ∈ es, ∃ k', e.key = C.ek k' ∧ k' ≠ k) →
  Instr.findNow D (C.ek k) es i = some none := by
 intro es
 induction es with
 | nil => intro i _; rfl
 | cons e es ih =>
  intro i h
  obtain ⟨k', h1, h2⟩ := h e (by simp)
  simp only [Instr.findNow, h1, hS, decide_eq_false (fun (q : k = k') => h2 q.symm)]
  exact ih _ (fun x hx => h x (by simp [hx]))
theorem findNow_hit {D : TypeDesc} (hS : ∀ a b : κ, Instr.sameNow D (C.ek a) (C.ek b) = some (decide (a = b))) (k : κ) : ∀ (es : List MapEntry) (i : Nat), (∀ e ∈ es, ∃ k', e.key = C.ek k') → (∃ e ∈ es, e.key = C.ek k) →
  ∃ j e, es[j]? = some e ∧ e.key = C.ek k ∧ Instr.findNow D (C.ek k) es i = some (some (i + j, e.val)) := by
 intro es
 induction es with
 | nil => intro i _ h; obtain ⟨e, he, _⟩ := h; simp at he
 | cons e es ih =>
  intro i h hx
  obtain ⟨k', h1⟩ := h e (by simp)
  by_cases hk : k = k'
  ·subst hk
   exact ⟨0, e, rfl, h1, by simp [Instr.findNow, h1, hS]⟩
  ·have hx' : ∃ e ∈ es, e.key = C.ek k := by
    obtain ⟨x, hx1, hx2⟩ := hx
    rcases List.mem_cons.1 hx1 with rfl | hx1
    ·rw [h1] at hx2
     have := hS k k'; rw [hx2, hS k k] at this; simp [hk] at this
    ·exact ⟨x, hx1, hx2⟩
   obtain ⟨j, e', g1, g2, g3⟩ := ih (i + 1) (fun x hx => h x (by simp [hx])) hx'
   exact ⟨j + 1, e', by simpa using g1, g2, by simp [Instr.findNow, h1, hS, hk, g3]; omega⟩
variable {P : Program} {K : TypeId} (HK : Keys C P K)
include HK
theorem find_miss {es : Array MapEntry} {l : List (Nd κ ν)} (h : MapRep C es l) {k : κ} (hk : ∀ n ∈ l, n.it.k ≠ k) (w : World) : (Instr.findKey K (C.ek k) es.toList).run P w = .ok none w := by
 have hex : ∃ D, P.underlying K = some D := by rcases HK.plain with h | h <;> exact ⟨_, h⟩
 obtain ⟨D, hD⟩ := hex
 have := findNow_miss C (HK.same D hD) k es.toList 0 (fun e he => by obtain ⟨n, hn, h1, _⟩ := mapRep_mem C h he; exact ⟨_, h1, hk n hn⟩)
 simp [Instr.findKey, run_underlying hD, this]
theorem ek_inj {a b : κ} (h : C.ek a = C.ek b) : a = b := by
 have hex : ∃ D, P.underlying K = some D := by rcases HK.plain with h | h <;> exact ⟨_, h⟩
 obtain ⟨D, hD⟩ := hex
 have h1 := HK.same D hD a b
 rw [← h, HK.same D hD a a] at h1
 simpa using h1
theorem find_hit {es : Array MapEntry} {l1 l2 : List (Nd κ ν)} {x : Nd κ ν} (h : MapRep C es (l1 ++ x :: l2)) (hnd : ((l1 ++ x :: l2).map (·.it.k)).Nodup) (w : World) :
  ∃ j, (Instr.findKey K (C.ek x.it.k) es.toList).run P w = .ok (some (j, pt (some x.a))) w ∧ j < es.size ∧ ((es[j]?).map (·.key)) = some (C.ek x.it.k) ∧ MapRep C (es.eraseIdxIfInBounds j) (l1 ++ l2) := by
 have hex : ∃ D, P.underlying K = some D := by rcases HK.plain with h | h <;> exact ⟨_, h⟩
 obtain ⟨D, hD⟩ := hex
 have hin : ∃ e ∈ es.toList, e.key = C.ek x.it.k := by
  have : (C.ek x.it.k, pt (some x.a)) ∈ es.toList.map fun e => (e.key, e.val) := h.mem_iff.2 (List.mem_map.2 ⟨x, by simp, rfl⟩)
  obtain ⟨e, he, hq⟩ := List.mem_map.1 this
  simp only [Prod.mk.injEq] at hq
  exact ⟨e, he, hq.1⟩
 obtain ⟨j, e, g1, g2, g3⟩ := findNow_hit C (HK.same D hD) x.it.k es.toList 0 (fun e he => by obtain ⟨n, hn, h1, _⟩ := mapRep_mem C h he; exact ⟨_, h1⟩) hin
 have hm : e ∈ es.toList := List.mem_of_getElem? g1
 obtain ⟨n, hn, h1, h2⟩ := mapRep_mem C h hm
 have hkn : n.it.k = x.it.k := ek_inj C HK (h1.symm.trans g2)
 have hnx : n = x := by
  rw [List.map_append, List.map_cons, List.nodup_append] at hnd
  obtain ⟨_, hnd2, hnd3⟩ := hnd
  rcases List.mem_append.1 hn with hn | hn
  ·exact (hnd3 _ (List.mem_map.2 ⟨n, hn, rfl⟩) x.it.k (by simp) hkn).elim
  ·rcases List.mem_cons.1 hn with rfl | hn
   ·rfl
   ·exact ((List.nodup_cons.1 hnd2).1 (List.mem_map.2 ⟨n, hn, hkn⟩)).elim
 subst hnx
 have hj : j < es.size := by
  rcases Nat.lt_or_ge j es.size with h' | h'
  ·exact h'
  ·rw [List.getElem?_eq_none (by simpa using h')] at g1; cases g1
 refine ⟨j, by simp [Instr.findKey, run_underlying hD, g3, h2], hj, ?_, ?_⟩
 ·have : es[j]? = some e := by simpa using g1
  rw [this]; simp [g2]
 ·have hl : es.toList = es.toList.take j ++ e :: es.toList.drop (j + 1) := by
   rw [List.getElem?_eq_getElem (by simpa using hj)] at g1
   cases g1
   rw [List.getElem_cons_drop, List.take_append_drop]
  have he : (es.eraseIdxIfInBounds j).toList = es.toList.take j ++ es.toList.drop (j + 1) := by
   simp [Array.eraseIdxIfInBounds, hj, List.eraseIdx_eq_take_drop_succ]
  unfold MapRep at h ⊢
  rw [he]
  rw [hl] at h
  have h' : ((e.key, e.val) :: (es.toList.take j ++ es.toList.drop (j + 1)).map fun e => (e.key, e.val)).Perm ((C.ek n.it.k, pt (some n.a)) :: (l1 ++ l2).map fun n => (C.ek n.it.k, pt (some n.a))) := by
   refine List.Perm.trans ?_ (h.trans ?_)
   ·simp only [List.map_append, List.map_cons]; exact List.perm_middle.symm
   ·simp only [List.map_append, List.map_cons]; exact List.perm_middle
  rw [h1, h2] at h'
  exact h'.cons_inv
end
section
variable {κ ν : Type} [DecidableEq κ] {C : Cfg κ ν} {P : Program} {T K E : TypeId} {w : World} {m clock : Nat} {es : Array MapEntry}
theorem run_lookup_hit (HK : Keys C P K) (ht : P.underlying T = some (.map K E)) (hb : w.heap[m]? = some (.map es clock)) {l1 l2 : List (Nd κ ν)} {x : Nd κ ν} (h : MapRep C es (l1 ++ x :: l2)) (hnd : ((l1 ++ x :: l2).map (·.it.k)).Nodup) {k : κ} (hk : x.it.k = k) :
  (Instr.lookup T (.map (some m)) (C.ek k) false).run P w = .ok (pt (some x.a)) w := by
 subst hk
 obtain ⟨j, h1, _⟩ := find_hit C HK h hnd w
 simp [Instr.lookup, run_underlying ht, MapKept.run_getObj_map hb, run_check HK.plain, h1, Result.andThen]
theorem run_lookup_miss (HK : Keys C P K) (ht : P.underlying T = some (.map K E)) (hz : (zeroValue E).run P w = .ok (.pointer none) w) (hb : w.heap[m]? = some (.map es clock)) {l : List (Nd κ ν)} (h : MapRep C es l) {k : κ} (hk : ∀ n ∈ l, n.it.k ≠ k) :
  (Instr.lookup T (.map (some m)) (C.ek k) false).run P w = .ok (pt none) w := by
 simp [Instr.lookup, run_underlying ht, MapKept.run_getObj_map hb, run_check HK.plain, find_miss C HK h hk w, Result.andThen, hz, pt]
theorem run_store_new (HK : Keys C P K) (ht : P.underlying T = some (.map K E)) (hb : w.heap[m]? = some (.map es clock)) {l : List (Nd κ ν)} (h : MapRep C es l) {k : κ} (hk : ∀ n ∈ l, n.it.k ≠ k) (v : Value) :
  (Instr.mapUpdate T (.map (some m)) (C.ek k) v).run P w = .ok () (ChangeMaps.setBlock w m (.map (es.push { key := C.ek k, val := v, born := clock }) (clock + 1))) := by
 simp [Instr.mapUpdate, run_underlying ht, MapKept.run_getObj_map hb, run_check HK.plain, find_miss C HK h hk w, Result.andThen, MapKept.run_setObj_map _ hb, ChangeMaps.setBlock]
theorem run_delete_hit (HK : Keys C P K) (ht : P.underlying T = some (.map K E)) (hb : w.heap[m]? = some (.map es clock)) {l1 l2 : List (Nd κ ν)} {x : Nd κ ν} (h : MapRep C es (l1 ++ x :: l2)) (hnd : ((l1 ++ x :: l2).map (·.it.k)).Nodup) {k : κ} (hk : x.it.k = k) (k2 ty : TypeId) :
  ∃ es', (Builtin.delete_ #[T, k2] ty #[.map (some m), C.ek k]).run P w = .ok (.tuple #[]) (ChangeMaps.setBlock w m (.map es' clock)) ∧ MapRep C es' (l1 ++ l2) := by
 subst hk
 obtain ⟨j, h1, h2, h3, h4⟩ := find_hit C HK h hnd w
 refine ⟨_, ?_, h4⟩
 simp [Builtin.delete_, run_underlying ht, MapKept.run_getObj_map hb, run_check HK.plain, h1, Result.andThen, MapKept.run_setObj_map _ hb, ChangeMaps.setBlock]
theorem run_len_map (ht : P.underlying T = some (.map K E)) (hb : w.heap[m]? = some (.map es clock)) (ty : TypeId) :
  (Builtin.len_ #[T] ty #[.map (some m)]).run P w = .ok (.int .i64 es.size) w := by
 simp [Builtin.len_, run_underlying ht, MapKept.run_getObj_map hb, goInt, Result.andThen]
theorem heap_setBlock (w : World) (b : Nat) (o : Obj) (k : Nat) (h : b < w.heap.size) : (ChangeMaps.setBlock w b o).heap[k]? = if k = b then some o else w.heap[k]? := by
 unfold ChangeMaps.setBlock
 simp only [Array.getElem?_setIfInBounds, h, if_true]
 by_cases e : b = k
 ·subst e; simp
 ·rw [if_neg e, if_neg (fun q => e q.symm)]
end
section
variable {κ ν : Type} (C : Cfg κ ν)
structure Rep (w : World) (c m : Nat) (most : Int) (l : List (Nd κ ν)) : Prop where
 lay : Lay C w c m most l
 map : ∃ es clock, w.heap[m]? = some (.map es clock) ∧ MapRep C es l
 keys : (l.map (·.it.k)).Nodup
theorem Rep.alike {w w' : World} {c m : Nat} {most : Int} {l : List (Nd κ ν)} (h : Rep C w c m most l) (g : w'.Alike w) : Rep C w' c m most l :=
 ⟨h.lay.alike C g, by obtain ⟨es, k, h1, h2⟩ := h.map; exact ⟨es, k, by rw [g.1]; exact h1, h2⟩, h.keys⟩
end
section
variable {κ ν : Type} (C : Cfg κ ν)
theorem new_rep (w : World) (most : Int) : Rep C ((w.alloc (.map #[] 0)).alloc (.cells #[.int .i64 most, .map (some w.heap.size), .pointer none, .pointer none] C.tc)) (w.heap.size + 1) w.heap.size most [] := by
 refine ⟨⟨?_, trivial, ?_⟩, ⟨#[], 0, ?_, .refl _⟩, .nil⟩
 ·rw [heap_alloc, if_pos (by simp)]; rfl
 ·simp
 ·rw [heap_alloc, if_neg (by simp), heap_alloc, if_pos rfl]
theorem lay_cells {w : World} {c m : Nat} {most : Int} {l : List (Nd κ ν)} (h : Lay C w c m most l) :
  w.cell? ⟨c, 0, none⟩ = some (.int .i64 most) ∧ w.cell? ⟨c, 1, none⟩ = some (.map (some m)) ∧ w.cell? ⟨c, 2, none⟩ = some (pt (hd l none)) ∧ w.cell? ⟨c, 3, none⟩ = some (pt (lst l none)) ∧ (∀ o, w.frozen? ⟨c, o, none⟩ = false) :=
 ⟨cell_blk h.cache 0, cell_blk h.cache 1, cell_blk h.cache 2, cell_blk h.cache 3, frozen_blk h.cache⟩
theorem node_cells {w : World} {a : Nat} {x : It κ ν} {p q : Option Nat} (h : w.heap[a]? = some (nodeObj C x p q)) :
  w.cell? ⟨a, 0, none⟩ = some (C.ek x.k) ∧ w.cell? ⟨a, 1, none⟩ = some (C.ev x.v) ∧ w.cell? ⟨a, 2, none⟩ = some (.bool x.d) ∧ w.cell? ⟨a, 3, none⟩ = some (.int .i64 x.p) ∧ w.cell? ⟨a, 4, none⟩ = some (pt p) ∧ w.cell? ⟨a, 5, none⟩ = some (pt q) ∧ (∀ o, w.frozen? ⟨a, o, none⟩ = false) :=
 ⟨cell_blk h 0, cell_blk h 1, cell_blk h 2, cell_blk h 3, cell_blk h 4, cell_blk h 5, frozen_blk h⟩
theorem pt_none : pt none = .pointer none := rfl
theorem pt_some (a : Nat) : pt (some a) = .pointer (some ⟨a, 0, none⟩) := rfl
end
section
variable {κ ν : Type} {C : Cfg κ ν}
theorem Lay.m_not {w : World} {c m : Nat} {most : Int} {l : List (Nd κ ν)} (h : Lay C w c m most l) : m ∉ c :: l.map (·.a) := by
 have := h.nodup
 simp only [List.nodup_cons, List.mem_cons, not_or] at this ⊢
 exact ⟨fun e => this.1.1 e.symm, this.2.1⟩
theorem rep_used {w w1 w2 : World} {c m : Nat} {most : Int} {l1 l2 : List (Nd κ ν)} {x : Nd κ ν} (h : Rep C w c m most (l1 ++ x :: l2)) (u1 : Upd (c :: (l1 ++ x :: l2).map (·.a)) w w1)
  (hL : Lay C w2 c m most (l1 ++ l2 ++ [x])) (u2 : Upd (c :: (l1 ++ l2 ++ [x]).map (·.a)) w1 w2) : Rep C w2 c m most (l1 ++ l2 ++ [x]) ∧ Upd (c :: (l1 ++ x :: l2).map (·.a)) w w2 := by
 have u2' : Upd (c :: (l1 ++ x :: l2).map (·.a)) w1 w2 := u2.mono (fun k hk _ => by simp at hk ⊢; grind)
 have u := u1.trans u2'
 obtain ⟨es, ck, h1, h2⟩ := h.map
 have hp : (l1 ++ x :: l2).Perm (l1 ++ l2 ++ [x]) := by
  rw [List.append_assoc]
  exact List.Perm.append_left _ (List.perm_append_singleton x l2).symm
 refine ⟨⟨hL, ⟨es, ck, ?_, h2.trans (hp.map _)⟩, ((hp.map _).nodup_iff).1 h.keys⟩, u⟩
 rw [u.block m (lt_of_blk h1) h.lay.m_not]; exact h1
theorem used_nodup {c m : Nat} {l1 l2 : List (Nd κ ν)} {x : Nd κ ν} (h : (c :: m :: (l1 ++ x :: l2).map (·.a)).Nodup) : (c :: m :: (l1 ++ l2 ++ [x]).map (·.a)).Nodup := by
 have hp : (l1 ++ x :: l2).Perm (l1 ++ l2 ++ [x]) := by
  rw [List.append_assoc]
  exact List.Perm.append_left _ (List.perm_append_singleton x l2).symm
 exact ((((hp.map (·.a)).cons m).cons c).nodup_iff).1 h
end
section
variable {κ ν : Type} {C : Cfg κ ν}
theorem Rep.congr {w w' : World} {c m : Nat} {most : Int} {l : List (Nd κ ν)} (h : Rep C w c m most l) (hh : ∀ k ∈ foot c m l, w'.heap[k]? = w.heap[k]?) : Rep C w' c m most l :=
 ⟨h.lay.congr C hh, by obtain ⟨es, k, h1, h2⟩ := h.map; exact ⟨es, k, by rw [hh m (by simp)]; exact h1, h2⟩, h.keys⟩
theorem Rep.lt {w : World} {c m : Nat} {most : Int} {l : List (Nd κ ν)} (h : Rep C w c m most l) {k : Nat} (hk : k ∈ foot c m l) : k < w.heap.size := by
 simp at hk
 rcases hk with rfl | rfl | ⟨n, hn, rfl⟩
 ·exact lt_of_blk h.lay.cache
 ·obtain ⟨es, k, h1, h2⟩ := h.map; exact lt_of_blk h1
 ·exact h.lay.lt C hn
theorem Rep.keep {w w' : World} {c m : Nat} {most : Int} {l : List (Nd κ ν)} (h : Rep C w c m most l) {F : List Nat} (u : Upd F w w') (hF : ∀ k ∈ foot c m l, k ∉ F) : Rep C w' c m most l :=
 h.congr fun k hk => u.block k (h.lt hk) (hF k hk)
theorem Rep.alloc {w : World} {c m : Nat} {most : Int} {l : List (Nd κ ν)} (h : Rep C w c m most l) (o : Obj) : Rep C (w.alloc o) c m most l :=
 h.keep ((Upd.refl [] w).alloc o) (by simp)
theorem Rep.node {w : World} {c m : Nat} {most : Int} {l1 l2 : List (Nd κ ν)} {x : Nd κ ν} (h : Rep C w c m most (l1 ++ x :: l2)) : w.heap[x.a]? = some (nodeObj C x.it (lst l1 none) (hd l2 none)) := by
 have := h.lay.chain
 rw [chain_app] at this
 exact this.2.1
theorem Rep.change {w w' : World} {c m : Nat} {most : Int} {l1 l2 : List (Nd κ ν)} {x : Nd κ ν} (h : Rep C w c m most (l1 ++ x :: l2)) (it : It κ ν) (hk : it.k = x.it.k)
  (hx : w'.heap[x.a]? = some (nodeObj C it (lst l1 none) (hd l2 none))) (hh : ∀ k ∈ foot c m (l1 ++ x :: l2), k ≠ x.a → w'.heap[k]? = w.heap[k]?) : Rep C w' c m most (l1 ++ ⟨x.a, it⟩ :: l2) := by
 obtain ⟨⟨h1, h2, h3⟩, ⟨es, ck, h4, h5⟩, h6⟩ := h
 rw [chain_app] at h2
 obtain ⟨h2, h7, h8⟩ := h2
 have h3' := h3
 simp [List.nodup_append] at h3
 obtain ⟨⟨n1, n2, n3, n4⟩, ⟨n5, n6, n7⟩, n8, ⟨n9, n10⟩, n11⟩ := h3
 refine ⟨⟨?_, (chain_app ..).2 ⟨?_, ?_, ?_⟩, by simpa using h3'⟩, ⟨es, ck, ?_, ?_⟩, ?_⟩
 ·rw [hh c (by simp) n3, h1]
  simp only [hd_app, lst_app, hd_cons, lst_cons]
 ·exact chain_congr C (fun n hn => hh n.a (by simp; right; right; left; exact ⟨n, hn, rfl⟩) (n11 n hn).1) h2
 ·exact hx
 ·exact chain_congr C (fun n hn => hh n.a (by simp; right; right; right; right; exact ⟨n, hn, rfl⟩) (n9 n hn)) h8
 ·rw [hh m (by simp) n6]; exact h4
 ·simpa [MapRep, hk] using h5
 ·simpa [hk] using h6
theorem rep_new {w1 w2 : World} {c m : Nat} {most : Int} {l : List (Nd κ ν)} {x : Nd κ ν} {es : Array MapEntry} {ck : Nat}
  (h1 : w1.heap[m]? = some (.map es ck)) (h2 : MapRep C es (l ++ [x])) (hk : ((l ++ [x]).map (·.it.k)).Nodup) (hL : Lay C w2 c m most (l ++ [x])) (u : Upd (c :: (l ++ [x]).map (·.a)) w1 w2) : Rep C w2 c m most (l ++ [x]) :=
 ⟨hL, ⟨es, ck, by rw [u.block m (lt_of_blk h1) hL.m_not]; exact h1, h2⟩, hk⟩
end
section
variable {κ ν : Type} {C : Cfg κ ν}
theorem Rep.set12 {w w' : World} {c m : Nat} {most : Int} {l : List (Nd κ ν)} {x : Nd κ ν} (h : Rep C w c m most (l ++ [x])) (v : ν) (b : Bool)
  (hw : w'.Alike ((w.setCell ⟨x.a, 1, none⟩ (C.ev v)).setCell ⟨x.a, 2, none⟩ (.bool b))) : Rep C w' c m most (l ++ [⟨x.a, { x.it with v := v, d := b }⟩]) := by
 have hx := h.node
 refine h.change _ rfl ?_ (fun k _ hk => ?_)
 ·rw [hw.1]; simp [heap_setCell, hx, nodeObj, Obj.put]
 ·rw [hw.1]; simp [heap_setCell, hk]
theorem Rep.new_not {w : World} {c m : Nat} {most : Int} {l : List (Nd κ ν)} (h : Rep C w c m most l) : w.heap.size ∉ foot c m l := fun hk => Nat.lt_irrefl _ (h.lt hk)
end
section
variable {κ ν : Type} {C : Cfg κ ν}
theorem put_new_pre {w0 W2 : World} {c m ck : Nat} {most : Int} {l : List (Nd κ ν)} {es : Array MapEntry} (h : Lay C w0 c m most l) (hb : w0.heap[m]? = some (.map es ck)) (it : It κ ν)
  (hW : W2.Alike (ChangeMaps.setBlock (w0.alloc (nodeObj C it none none)) m (.map (es.push { key := C.ek it.k, val := pt (some w0.heap.size), born := ck }) (ck + 1)))) :
  Lay C W2 c m most l ∧ W2.heap[w0.heap.size]? = some (nodeObj C it none none) ∧ W2.heap[m]? = some (.map (es.push { key := C.ek it.k, val := pt (some w0.heap.size), born := ck }) (ck + 1)) ∧
   Upd [m] w0 W2 ∧ (c :: m :: (l ++ [(⟨w0.heap.size, it⟩ : Nd κ ν)]).map (·.a)).Nodup := by
 have hm := lt_of_blk hb
 have hs : m < (w0.alloc (nodeObj C it none none)).heap.size := by simp; omega
 have hcm := h.nodup
 simp only [List.nodup_cons, List.mem_cons, not_or] at hcm
 obtain ⟨⟨q1, q2⟩, q3, q4⟩ := hcm
 have hc := lt_of_blk h.cache
 have keep : ∀ k, k < w0.heap.size → k ≠ m → W2.heap[k]? = w0.heap[k]? := fun k hk hn => by
  rw [hW.1, heap_setBlock _ _ _ _ hs, if_neg hn, heap_alloc, if_neg (by omega)]
 refine ⟨⟨by rw [keep c hc q1]; exact h.cache, chain_congr C (fun n hn => keep n.a (h.lt C hn) (fun e => q3 (List.mem_map.2 ⟨n, hn, e⟩))) h.chain, h.nodup⟩, ?_, ?_, ⟨hW.2.1, hW.2.2, ?_, fun k hk hn => keep k hk (by simpa using hn)⟩, ?_⟩
 ·have hne : w0.heap.size ≠ m := by omega
  rw [hW.1, heap_setBlock _ _ _ _ hs, if_neg hne, heap_alloc, if_pos rfl]
 ·rw [hW.1, heap_setBlock _ _ _ _ hs, if_pos rfl]
 ·rw [hW.1]; simp [ChangeMaps.setBlock]
 ·have hl : ∀ n ∈ l, n.a < w0.heap.size := fun n hn => h.lt C hn
  simp [List.nodup_append]
  simp at q2 q3
  refine ⟨⟨q1, fun n hn => q2 n hn, by omega⟩, ⟨fun n hn => q3 n hn, by omega⟩, q4, fun n hn => by have := hl n hn; omega⟩
end
theorem cast0 : ((0 : Nat) : Int) = 0 := rfl
theorem Rep.c_lt {κ ν : Type} {C : Cfg κ ν} {w : World} {c m : Nat} {most : Int} {l : List (Nd κ ν)} (h : Rep C w c m most l) : c < w.heap.size := h.lt (by simp)
theorem Rep.m_lt {κ ν : Type} {C : Cfg κ ν} {w : World} {c m : Nat} {most : Int} {l : List (Nd κ ν)} (h : Rep C w c m most l) : m < w.heap.size := h.lt (by simp)
theorem store6 {w w' : World} {g : Nat} {a0 a1 a2 a3 a4 a5 b0 b1 b2 b3 b4 b5 : Value} {t : TypeId} (h : w.heap[g]? = some (.cells #[a0, a1, a2, a3, a4, a5] t (0, 0)))
  (hw : w'.Alike ((((((w.setCell ⟨g, 0, none⟩ b0).setCell ⟨g, 1, none⟩ b1).setCell ⟨g, 2, none⟩ b2).setCell ⟨g, 3, none⟩ b3).setCell ⟨g, 4, none⟩ b4).setCell ⟨g, 5, none⟩ b5)) :
  w'.heap[g]? = some (.cells #[b0, b1, b2, b3, b4, b5] t (0, 0)) ∧ Upd [g] w w' := by
 refine ⟨?_, ?_⟩
 ·rw [hw.1]; simp [heap_setCell, h, Obj.put]
 ·exact (((((((Upd.refl _ _).setCell (by simp) _ _).setCell (by simp) _ _).setCell (by simp) _ _).setCell (by simp) _ _).setCell (by simp) _ _).setCell (by simp) _ _).alike hw
section
variable {κ ν : Type} {C : Cfg κ ν}
theorem rep_gone {w w1 w2 : World} {c m ck : Nat} {most : Int} {l1 l2 : List (Nd κ ν)} {x : Nd κ ν} {es es' : Array MapEntry} (h : Rep C w c m most (l1 ++ x :: l2)) (hb : w1.heap[m]? = some (.map es ck))
  (hL : Lay C w1 c m most (l1 ++ l2)) (hm : MapRep C es' (l1 ++ l2)) (hW : w2.Alike (ChangeMaps.setBlock w1 m (.map es' ck))) : Rep C w2 c m most (l1 ++ l2) ∧ Upd [m] w1 w2 := by
 have hm1 := lt_of_blk hb
 have keep : ∀ k, k ≠ m → w2.heap[k]? = w1.heap[k]? := fun k hn => by rw [hW.1, heap_setBlock _ _ _ _ hm1, if_neg hn]
 have hnd := hL.nodup
 simp only [List.nodup_cons, List.mem_cons, not_or] at hnd
 refine ⟨⟨⟨by rw [keep c hnd.1.1]; exact hL.cache, chain_congr C (fun n hn => keep n.a (fun e => hnd.2.1 (List.mem_map.2 ⟨n, hn, e⟩))) hL.chain, hL.nodup⟩, ⟨es', ck, ?_, hm⟩, ?_⟩, ⟨hW.2.1, hW.2.2, ?_, fun k _ hn => keep k (by simpa using hn)⟩⟩
 ·rw [hW.1, heap_setBlock _ _ _ _ hm1, if_pos rfl]
 ·exact h.keys.sublist (by simp)
 ·rw [hW.1]; simp [ChangeMaps.setBlock]
end
section
variable {κ ν : Type} {C : Cfg κ ν}
end
end Go.Proofs.YtgpefiacbipfpaaGreatDoor.Bc

namespace Go.Proofs.YtgpefiacbipfpaaGreatDoor.Bc.C
open Go.RowKit
structure Sl where
 a : Option Addr
 n : Nat
 c : Nat
abbrev cfg : Cfg Int Sl := { ek := fun k => .int .i64 k, ev := fun s => .slice s.a s.n s.c, tc := 197, ti := 208 }
theorem tmap : Tryz.prog.underlying 194 = some (.map 3 195) := by kernel_rfl
theorem zeroPi (w : World) : (zeroValue 195).run Tryz.prog w = .ok (.pointer none) w := by kernel_rfl
theorem keys : Go.Proofs.YtgpefiacbipfpaaGreatDoor.Bc.Keys cfg Tryz.prog 3 where
 plain := .inl Tryz.underlying3
 same := fun D h a b => by rw [Tryz.underlying3] at h; cases h; simp [Instr.sameNow, Bool.beq_eq_decide_eq]
 bits := fun a => by simp [Instr.sameBits]
def NewPost (most : Int) (w : World) (e : Ending) (w' : World) : Prop :=
 ∃ c m, e = .returned (.tuple #[.pointer (some ⟨c, 0, none⟩), .int .i64 0]) ∧ Rep cfg w' c m most [] ∧ Upd [] w w' ∧ w.heap.size ≤ c ∧ w.heap.size ≤ m
theorem new_ok (most : Int) (w : World) (h1 : 1 ≤ most) (h2 : most ≤ 1024) : Calls Tryz.prog 81 #[.int .i64 most] w (NewPost most w) := by
 have hmm := @run_makeMap Tryz.prog
 go_enter Tryz.func81, Tryz.ntmps81
 go_wp2
 go_ret2
 exact ⟨_, _, rfl, new_rep cfg w most, ((Upd.refl _ _).alloc _).alloc _, by omega, by omega⟩
def UnlinkPost (w : World) (c x : Nat) (prev next : Option Nat) (e : Ending) (w' : World) : Prop := e = .returned (.tuple #[]) ∧ w'.Alike (unlinkW w c x prev next)
set_option maxHeartbeats 1000000 in
theorem unlink_walk (w : World) {c m : Nat} {most : Int} {l1 l2 : List (Nd Int Sl)} {x : Nd Int Sl} (h : Lay cfg w c m most (l1 ++ x :: l2)) :
  Calls Tryz.prog 141 #[.pointer (some ⟨c, 0, none⟩), .pointer (some ⟨x.a, 0, none⟩)] w (UnlinkPost w c x.a (lst l1 none) (hd l2 none)) := by
 obtain ⟨-, -, c2, c3, fc⟩ := lay_cells cfg h
 obtain ⟨-, h2, h3⟩ := h
 rw [chain_app] at h2
 obtain ⟨h2, h4, h5⟩ := h2
 obtain ⟨-, -, -, -, x4, x5, fx⟩ := node_cells cfg h4
 obtain ⟨xa, xi⟩ := x
 simp only [] at *
 rcases List.eq_nil_or_concat l1 with rfl | ⟨l1, y, rfl⟩
 ·rcases l2 with _ | ⟨z, l2⟩
  ·simp only [lst_nil, lst_cons, hd_nil, hd_cons, pt_none, List.nil_append] at *
   simp at h3
   have n1 : c ≠ xa := h3.1.2
   have n2 : xa ≠ c := Ne.symm n1
   clear h2 h3 h4 h5
   go_enter Tryz.func141, Tryz.ntmps141
   go_wp2
   go_end0
   exact ⟨rfl, rfl, rfl, rfl⟩
  ·obtain ⟨h5, h6⟩ := h5
   obtain ⟨-, -, -, -, z4, z5, fz⟩ := node_cells cfg h5
   simp only [lst_nil, lst_cons, hd_cons, pt_none, pt_some, List.nil_append] at *
   simp at h3
   obtain ⟨⟨-, n1, n2, -⟩, -, ⟨n3, -⟩, -⟩ := h3
   obtain ⟨za, zi⟩ := z
   simp only [] at *
   have n1' := Ne.symm n1; have n2' := Ne.symm n2; have n3' := Ne.symm n3
   clear h2 h4 h5 h6 z5
   go_enter Tryz.func141, Tryz.ntmps141
   go_wp2
   go_region
   go_wp2
   all_goals go_end0
   all_goals exact ⟨rfl, rfl, rfl, rfl⟩
 ·simp only [List.concat_eq_append, List.append_assoc] at *
  rw [chain_app] at h2
  obtain ⟨h2, h7, _⟩ := h2
  obtain ⟨-, -, -, -, y4, y5, fy⟩ := node_cells cfg h7
  obtain ⟨ya, yi⟩ := y
  simp only [] at *
  rcases l2 with _ | ⟨z, l2⟩
  ·simp only [lst_nil, lst_cons, hd_nil, hd_cons, lst_app, hd_app, pt_none, pt_some] at *
   simp [List.nodup_append] at h3
   obtain ⟨⟨n1, n2, n3, n4⟩, ⟨n5, n6, n7⟩, n8, n9, n10⟩ := h3
   have n3' := Ne.symm n3; have n4' := Ne.symm n4; have n9' := Ne.symm n9
   clear h2 h4 h5 h7 n2 n5 n8 n10 n1 n6 n7 y4 c2
   go_enter Tryz.func141, Tryz.ntmps141
   go_wp2
   go_region
   go_wp2
   all_goals go_end0
   all_goals exact ⟨rfl, rfl, rfl, rfl⟩
  ·obtain ⟨h5, h6⟩ := h5
   obtain ⟨-, -, -, -, z4, z5, fz⟩ := node_cells cfg h5
   obtain ⟨za, zi⟩ := z
   simp only [] at *
   simp only [lst_nil, lst_cons, hd_nil, hd_cons, lst_app, hd_app, pt_some] at *
   simp [List.nodup_append] at h3
   obtain ⟨⟨n1, n2, n3, n4, n5, n6⟩, ⟨n7, n8, n9, n10, n11⟩, n12, ⟨⟨n13, n14, n15⟩, ⟨n16, n17⟩, n18, n19⟩, n20⟩ := h3
   have n13' := Ne.symm n13; have n14' := Ne.symm n14; have n16' := Ne.symm n16
   clear h2 h4 h5 h6 h7 n1 n2 n6 n7 n8 n9 n10 n11 n12 n15 n17 n18 n19 n20 y4 z5 c2 c3
   go_enter Tryz.func141, Tryz.ntmps141
   go_wp2
   go_region
   go_wp2
   go_region
   go_wp2
   all_goals go_end0
   all_goals exact ⟨rfl, rfl, rfl, rfl⟩
theorem unlink_ok (w : World) {c m : Nat} {most : Int} {l1 l2 : List (Nd Int Sl)} {x : Nd Int Sl} (h : Lay cfg w c m most (l1 ++ x :: l2)) :
  Calls Tryz.prog 141 #[.pointer (some ⟨c, 0, none⟩), .pointer (some ⟨x.a, 0, none⟩)] w fun e w' => e = .returned (.tuple #[]) ∧
   Lay cfg w' c m most (l1 ++ l2) ∧ w'.heap[x.a]? = some (nodeObj cfg x.it none none) ∧ Upd (c :: (l1 ++ x :: l2).map (·.a)) w w' :=
 (unlink_walk w h).mono fun _ _ ⟨he, hw⟩ => ⟨he, lay_unlink cfg h hw⟩
def LinkPost (w : World) (c x : Nat) (last : Option Nat) (e : Ending) (w' : World) : Prop := e = .returned (.tuple #[]) ∧ w'.Alike (linkW w c x last)
set_option maxHeartbeats 1000000 in
theorem link_walk (w : World) {c m : Nat} {most : Int} {l : List (Nd Int Sl)} {x : Nd Int Sl} (h : Lay cfg w c m most l) (hx : w.heap[x.a]? = some (nodeObj cfg x.it none none))
  (hnd : (c :: m :: (l ++ [x]).map (·.a)).Nodup) : Calls Tryz.prog 142 #[.pointer (some ⟨c, 0, none⟩), .pointer (some ⟨x.a, 0, none⟩)] w (LinkPost w c x.a (lst l none)) := by
 obtain ⟨-, -, c2, c3, fc⟩ := lay_cells cfg h
 obtain ⟨-, h2, -⟩ := h
 obtain ⟨-, -, -, -, x4, x5, fx⟩ := node_cells cfg hx
 obtain ⟨xa, xi⟩ := x
 simp only [] at *
 rcases List.eq_nil_or_concat l with rfl | ⟨l1, y, rfl⟩
 ·simp only [lst_nil, hd_nil, pt_none, List.nil_append] at *
  simp at hnd
  have n1 : c ≠ xa := hnd.1.2
  have n2 : xa ≠ c := Ne.symm n1
  clear h2 hnd hx x5
  go_enter Tryz.func142, Tryz.ntmps142
  go_wp2
  go_end0
  exact ⟨rfl, rfl, rfl, rfl⟩
 ·simp only [List.concat_eq_append, List.append_assoc] at *
  rw [chain_app] at h2
  obtain ⟨-, h7, _⟩ := h2
  obtain ⟨-, -, -, -, y4, y5, fy⟩ := node_cells cfg h7
  obtain ⟨ya, yi⟩ := y
  simp only [] at *
  simp only [lst_nil, lst_cons, hd_nil, hd_cons, lst_app, hd_app, pt_none, pt_some] at *
  simp [List.nodup_append] at hnd
  obtain ⟨⟨n1, n2, n3, n4⟩, ⟨n5, n6, n7⟩, n8, n9, n10⟩ := hnd
  have n3' := Ne.symm n3; have n4' := Ne.symm n4; have n9' := Ne.symm n9
  clear h7 n1 n2 n5 n6 n7 n8 n10 c2 x5 y4 hx
  go_enter Tryz.func142, Tryz.ntmps142
  go_wp2
  go_end0
  exact ⟨rfl, rfl, rfl, rfl⟩
theorem link_ok (w : World) {c m : Nat} {most : Int} {l : List (Nd Int Sl)} {x : Nd Int Sl} (h : Lay cfg w c m most l) (hx : w.heap[x.a]? = some (nodeObj cfg x.it none none))
  (hnd : (c :: m :: (l ++ [x]).map (·.a)).Nodup) : Calls Tryz.prog 142 #[.pointer (some ⟨c, 0, none⟩), .pointer (some ⟨x.a, 0, none⟩)] w fun e w' => e = .returned (.tuple #[]) ∧
   Lay cfg w' c m most (l ++ [x]) ∧ Upd (c :: (l ++ [x]).map (·.a)) w w' :=
 (link_walk w h hx hnd).mono fun _ _ ⟨he, hw⟩ => ⟨he, lay_link cfg h hx hnd hw⟩
theorem find_miss (w : World) {c m : Nat} {most : Int} {l : List (Nd Int Sl)} (h : Rep cfg w c m most l) (k : Int) (hk : ∀ n ∈ l, n.it.k ≠ k) (use : Bool) :
  Calls Tryz.prog 140 #[.pointer (some ⟨c, 0, none⟩), cfg.ek k, .bool use] w fun e w' => e = .returned (.pointer none) ∧ w = w' := by
 obtain ⟨-, c1, -, -, fc⟩ := lay_cells cfg h.lay
 obtain ⟨es, ck, h1, h2⟩ := h.map
 have hl := run_lookup_miss keys tmap (zeroPi w) h1 h2 hk
 simp only [pt_none] at hl
 clear h h1 h2 hk
 go_enter Tryz.func140, Tryz.ntmps140
 go_wp2
 go_ret
 exact ⟨rfl, rfl⟩
theorem find_hit (w : World) {c m : Nat} {most : Int} {l1 l2 : List (Nd Int Sl)} {x : Nd Int Sl} (h : Rep cfg w c m most (l1 ++ x :: l2)) (k : Int) (hk : x.it.k = k) :
  Calls Tryz.prog 140 #[.pointer (some ⟨c, 0, none⟩), cfg.ek k, .bool false] w fun e w' => e = .returned (.pointer (some ⟨x.a, 0, none⟩)) ∧ w = w' := by
 obtain ⟨-, c1, -, -, fc⟩ := lay_cells cfg h.lay
 obtain ⟨es, ck, h1, h2⟩ := h.map
 have hl := run_lookup_hit keys tmap h1 h2 h.keys hk
 simp only [pt_some] at hl
 clear h h1 h2 hk
 go_enter Tryz.func140, Tryz.ntmps140
 go_wp2
 go_ret
 exact ⟨rfl, rfl⟩
def UsedPost (w : World) (c m : Nat) (most : Int) (l1 l2 : List (Nd Int Sl)) (x : Nd Int Sl) (e : Ending) (w' : World) : Prop :=
 e = .returned (.pointer (some ⟨x.a, 0, none⟩)) ∧ Rep cfg w' c m most (l1 ++ l2 ++ [x]) ∧ Upd (c :: (l1 ++ x :: l2).map (·.a)) w w'
theorem find_use (w : World) {c m : Nat} {most : Int} {l1 l2 : List (Nd Int Sl)} {x : Nd Int Sl} (h : Rep cfg w c m most (l1 ++ x :: l2)) (k : Int) (hk : x.it.k = k) :
  Calls Tryz.prog 140 #[.pointer (some ⟨c, 0, none⟩), cfg.ek k, .bool true] w (UsedPost w c m most l1 l2 x) := by
 obtain ⟨-, c1, -, -, fc⟩ := lay_cells cfg h.lay
 obtain ⟨es, ck, h1, h2⟩ := h.map
 have hl := run_lookup_hit keys tmap h1 h2 h.keys hk
 simp only [pt_some] at hl
 clear h1 h2 hk
 go_enter Tryz.func140, Tryz.ntmps140
 go_wp2_with fail
 refine (unlink_ok w h.lay).mono ?_
 rintro e w1 ⟨rfl, hL, hx, hU⟩
 have HX := Lib.hid hx; clear hx
 go_wp2_with fail
 refine (link_ok w1 hL HX.out (used_nodup h.lay.nodup)).mono ?_
 rintro e w2 ⟨rfl, hL2, hU2⟩
 go_wp2_with fail
 go_ret
 exact ⟨rfl, rep_used h hU hL2 hU2⟩
end Go.Proofs.YtgpefiacbipfpaaGreatDoor.Bc.C

namespace Go.Proofs.YtgpefiacbipfpaaGreatDoor.Bc.C
open Go.RowKit
abbrev zk : Int := 0
abbrev zv : Sl := ⟨none, 0, 0⟩
def PutPost (w : World) (c m : Nat) (most : Int) (l l' : List (Nd Int Sl)) (gk : Int) (gv : Sl) (went gd : Bool) (err : Int) (e : Ending) (w' : World) : Prop :=
 e = .returned (.tuple #[cfg.ek gk, cfg.ev gv, .bool went, .bool gd, .int .i64 err]) ∧ Rep cfg w' c m most l' ∧ Upd (foot c m l) w w'
set_option maxRecDepth 100000 in
set_option maxHeartbeats 1000000 in
theorem put_there (w : World) {c m : Nat} {most : Int} {l1 l2 : List (Nd Int Sl)} {x : Nd Int Sl} (h : Rep cfg w c m most (l1 ++ x :: l2)) (k : Int) (hk : x.it.k = k) (v : Sl) (d : Bool) :
  Calls Tryz.prog 93 #[.pointer (some ⟨c, 0, none⟩), cfg.ek k, cfg.ev v, .bool d] w
   (PutPost w c m most (l1 ++ x :: l2) (l1 ++ l2 ++ [⟨x.a, { x.it with v := v, d := x.it.d || d }⟩]) zk zv false false 0) := by
 obtain ⟨xa, xk, xv, xd, xp⟩ := x
 simp only [] at hk ⊢
 have H := Lib.hid h
 clear h
 cases xd
 all_goals
  go_enter Tryz.func93, Tryz.ntmps93
  go_wp2_with fail
  refine (find_use _ (H.out.alloc _) k hk).mono ?_
  rintro e w1 ⟨rfl, hR, hU⟩
  obtain ⟨-, x1, x2, -, -, -, fx⟩ := node_cells cfg hR.node
  simp only [] at x1 x2 fx hR
  have nF := H.out.new_not
  have hg : w1.heap[w.heap.size]? = some (.cells #[cfg.ek zk, cfg.ev zv, .bool false, .int .i64 0, .pointer none, .pointer none] 208) := by
   rw [hU.block _ (by simp) (fun q => nF (by simp at q ⊢; grind)), heap_alloc, if_pos rfl]; try rfl
  have g0 : w1.cell? ⟨w.heap.size, 0, none⟩ = some (cfg.ek zk) := cell_blk hg 0
  have g1 : w1.cell? ⟨w.heap.size, 1, none⟩ = some (cfg.ev zv) := cell_blk hg 1
  simp only [] at g0 g1
  have nx : xa ≠ w.heap.size := fun q => nF (by simp [q])
  have nx' : w.heap.size ≠ xa := Ne.symm nx
  clear nF hg
  have HU := Lib.hid hU
  have HR := Lib.hid hR
  clear hU hR
  go_wp2
  go_region
  go_wp2
 ·refine bodyPost_ret (v := .tuple #[cfg.ek zk, cfg.ev zv, .bool false, .bool false, .int .i64 0]) (by simp [results, Tryz.results93, go_sem]; try rfl) rfl ⟨rfl, HR.out.set12 v _ ⟨rfl, rfl, rfl⟩, ?_⟩
  exact (((((Upd.refl _ _).alloc _).trans (HU.out.mono (fun q hq _ => by simp at hq ⊢; grind))).setCell (by simp) _ _).setCell (by simp) _ _).drew
 ·refine bodyPost_ret (v := .tuple #[cfg.ek zk, cfg.ev zv, .bool false, .bool false, .int .i64 0]) (by simp [results, Tryz.results93, go_sem]; try rfl) rfl ⟨rfl, HR.out.set12 v _ ⟨rfl, rfl, rfl⟩, ?_⟩
  exact (((((Upd.refl _ _).alloc _).trans (HU.out.mono (fun q hq _ => by simp at hq ⊢; grind))).setCell (by simp) _ _).setCell (by simp) _ _).drew
def PutNewPost (w : World) (c m : Nat) (most : Int) (l0 l : List (Nd Int Sl)) (it : It Int Sl) (gk : Int) (gv : Sl) (went gd : Bool) (e : Ending) (w' : World) : Prop :=
 ∃ a, e = .returned (.tuple #[cfg.ek gk, cfg.ev gv, .bool went, .bool gd, .int .i64 0]) ∧ Rep cfg w' c m most (l ++ [⟨a, it⟩]) ∧ Upd (foot c m l0) w w' ∧ w.heap.size ≤ a
abbrev goneObj : Obj := .cells #[cfg.ek zk, cfg.ev zv, .bool false, .int .i64 0, .pointer none, .pointer none] 208
set_option maxRecDepth 100000 in
set_option maxHeartbeats 1000000 in
theorem put_new (w : World) {c m : Nat} {most : Int} {l : List (Nd Int Sl)} (h : Rep cfg w c m most l) (k : Int) (hk : ∀ n ∈ l, n.it.k ≠ k) (v : Sl) (d : Bool) (hl : (l.length : Int) ≠ most) :
  Calls Tryz.prog 93 #[.pointer (some ⟨c, 0, none⟩), cfg.ek k, cfg.ev v, .bool d] w
   (PutNewPost w c m most l l { k := k, v := v, d := d, p := 0 } zk zv false false) := by
 have hN := h.new_not
 have h0 := h.alloc goneObj
 have HK := Lib.hid hk
 go_enter Tryz.func93, Tryz.ntmps93
 go_wp2_with fail
 refine (find_miss _ h0 k HK.out true).mono ?_
 rintro e w1 ⟨rfl, hw1⟩
 obtain ⟨es, ck, h1, h2⟩ := h0.map
 obtain ⟨c0, c1, c2, c3, fc⟩ := lay_cells cfg h0.lay
 have hg : (w.alloc goneObj).heap[w.heap.size]? = some goneObj := by rw [heap_alloc, if_pos rfl]
 have hs : (w.alloc goneObj).heap.size = w.heap.size + 1 := by simp
 have u0 : Upd (foot c m l) w (w.alloc goneObj) := (Upd.refl _ _).alloc _
 obtain rfl : w.alloc goneObj = w1 := hw1
 generalize w.alloc goneObj = w0 at *
 clear hk h
 have hcs : c < w0.heap.size := h0.c_lt
 have hcs' : c ≠ w0.heap.size := by omega
 have hms := h0.m_lt
 have hlen := run_len_map (P := Tryz.prog) (T := 194) (w := w0.drew) tmap h1 3
 have hz : ((es.size : Int) == most) = false := by rw [mapRep_size cfg h2]; simpa using hl
 have hst := run_store_new (P := Tryz.prog) (T := 194) (w := (w0.alloc (nodeObj cfg { k := k, v := v, d := d, p := 0 } none none)).drew) keys tmap (m := m) (es := es) (clock := ck) (by rw [heap_drew, heap_alloc, if_neg (by omega)]; exact h1) h2 HK.out (pt (some w0.heap.size))
 have hL := fun W2 hW => put_new_pre (W2 := W2) h0.lay h1 { k := k, v := v, d := d, p := 0 } hW
 have HP := Lib.hid (mapRep_push cfg h2 ⟨w0.heap.size, { k := k, v := v, d := d, p := 0 }⟩ ck)
 have HL := Lib.hid hL
 have HR := Lib.hid h0
 have HG := Lib.hid hg
 have HM := Lib.hid h1
 have HS := Lib.hid hs
 have HU := Lib.hid u0
 have HN := Lib.hid hN
 clear hg h1 hs hl h0 u0 hL hN
 simp only [nodeObj, pt_none, pt_some, cast0] at hst
 go_wp2_with fail
 go_region
 go_wp2_with fail
 generalize hW2 : ChangeMaps.setBlock ((w0.alloc _).drew) m _ = W2
 obtain ⟨hL, hx, hmap, hU2, hnd⟩ := HL.out W2 (by rw [← hW2]; exact ⟨rfl, rfl, rfl⟩)
 clear hW2
 have HX := Lib.hid hx
 have HB := Lib.hid hmap
 clear hx hmap hlen hst c0 c1 c2 c3 fc
 refine (link_ok W2 hL HX.out hnd).mono ?_
 rintro e w3 ⟨rfl, hL3, hU3⟩
 have hnw : w.heap.size ∉ c :: (l ++ [(⟨w0.heap.size, { k := k, v := v, d := d, p := 0 }⟩ : Nd Int Sl)]).map (·.a) := by
  have h1 := HN.out; have h2 := HS.out
  simp at h1 ⊢; refine ⟨h1.1, fun x hx => h1.2.2 x hx, by omega⟩
 have hg : w3.heap[w.heap.size]? = some goneObj := by
  have h1 := HN.out; have h2 := HS.out
  rw [hU3.block _ (by have := hU2.size; omega) hnw, hU2.block _ (by omega) (by simp at h1 ⊢; exact h1.2.1)]; exact HG.out
 have g0 : w3.cell? ⟨w.heap.size, 0, none⟩ = some (cfg.ek zk) := cell_blk hg 0
 have g1 : w3.cell? ⟨w.heap.size, 1, none⟩ = some (cfg.ev zv) := cell_blk hg 1
 have g2 : w3.cell? ⟨w.heap.size, 2, none⟩ = some (.bool false) := cell_blk hg 2
 have hkk : ((l ++ [(⟨w0.heap.size, { k := k, v := v, d := d, p := 0 }⟩ : Nd Int Sl)]).map (·.it.k)).Nodup := by
  have h1 := HR.out.keys; have h2 := HK.out
  simp only [List.map_append, List.map_cons, List.map_nil, List.nodup_append]
  refine ⟨h1, by simp, ?_⟩
  simp; exact fun x hx => h2 x hx
 have hR := rep_new HB.out HP.out hkk hL3 hU3
 have hUU : Upd (foot c m l) w w3 := by
  have h2 := HS.out
  refine (HU.out.next hU2 (by simp)).next hU3 (fun q hq hlt => ?_)
  simp at hq ⊢
  rcases hq with hq | hq | hq
  ·exact .inl hq
  ·exact .inr (.inr hq)
  ·omega
 have HF := Lib.hid (And.intro hR hUU)
 clear hg hnw hkk hR hUU hL3 hU3 hL hnd
 simp only [] at g0 g1 g2
 go_wp2
 go_region
 go_wp2
 all_goals exact bodyPost_ret (v := .tuple #[cfg.ek zk, cfg.ev zv, .bool false, .bool false, .int .i64 0]) (by simp [results, Tryz.results93, go_sem]; try rfl) rfl ⟨w0.heap.size, rfl, HF.out.1.alike cfg ⟨rfl, rfl, rfl⟩, HF.out.2.drew, by have := HS.out; omega⟩
set_option maxRecDepth 100000 in
set_option maxHeartbeats 2000000 in
theorem put_goes (w : World) {c m : Nat} {most : Int} {l1 l2 : List (Nd Int Sl)} {x : Nd Int Sl} (h : Rep cfg w c m most (l1 ++ x :: l2)) (k : Int) (hk : ∀ n ∈ l1 ++ x :: l2, n.it.k ≠ k) (v : Sl) (d : Bool)
  (hl : ((l1 ++ x :: l2).length : Int) = most) (hp : ∀ n ∈ l1, 0 < n.it.p) (hx : x.it.p = 0) :
  Calls Tryz.prog 93 #[.pointer (some ⟨c, 0, none⟩), cfg.ek k, cfg.ev v, .bool d] w (PutNewPost w c m most (l1 ++ x :: l2) (l1 ++ l2) { k := k, v := v, d := d, p := 0 } x.it.k x.it.v true x.it.d) := by
 obtain ⟨xa, xk, xv, xd, xp⟩ := x
 simp only [] at hx ⊢
 subst hx
 have hN := h.new_not
 have h0 := h.alloc goneObj
 have HK := Lib.hid hk
 go_enter Tryz.func93, Tryz.ntmps93
 go_wp2_with fail
 refine (find_miss _ h0 k HK.out true).mono ?_
 rintro e w1 ⟨rfl, hw1⟩
 obtain ⟨es, ck, h1, h2⟩ := h0.map
 obtain ⟨c0, c1, c2, c3, fc⟩ := lay_cells cfg h0.lay
 have hg : (w.alloc goneObj).heap[w.heap.size]? = some goneObj := by rw [heap_alloc, if_pos rfl]
 have hs : (w.alloc goneObj).heap.size = w.heap.size + 1 := by simp
 have u0 : Upd (foot c m (l1 ++ ⟨xa, { k := xk, v := xv, d := xd, p := 0 }⟩ :: l2)) w (w.alloc goneObj) := (Upd.refl _ _).alloc _
 obtain rfl : w.alloc goneObj = w1 := hw1
 generalize w.alloc goneObj = w0 at *
 clear hk h
 have hlen := run_len_map (P := Tryz.prog) (T := 194) (w := w0.drew) tmap h1 3
 have hz : ((es.size : Int) == most) = true := by rw [mapRep_size cfg h2]; simpa using hl
 obtain ⟨x0, x1, x2, x3, x4, x5, fx⟩ := node_cells cfg h0.node
 have g0 : w0.cell? ⟨w.heap.size, 0, none⟩ = some (cfg.ek zk) := cell_blk hg 0
 have g1 : w0.cell? ⟨w.heap.size, 1, none⟩ = some (cfg.ev zv) := cell_blk hg 1
 have g2 : w0.cell? ⟨w.heap.size, 2, none⟩ = some (.bool false) := cell_blk hg 2
 have g3 : w0.cell? ⟨w.heap.size, 3, none⟩ = some (.int .i64 0) := cell_blk hg 3
 have g4 : w0.cell? ⟨w.heap.size, 4, none⟩ = some (.pointer none) := cell_blk hg 4
 have g5 : w0.cell? ⟨w.heap.size, 5, none⟩ = some (.pointer none) := cell_blk hg 5
 have fg := frozen_blk hg
 have nx : xa ≠ w.heap.size := fun q => hN (by simp [q])
 have nx' : w.heap.size ≠ xa := Ne.symm nx
 simp only [cast0] at g0 g1 x0 x1 x2 x3 x4 x5
 obtain ⟨pp, hpp⟩ : ∃ o, pt (lst l1 none) = .pointer o := ⟨_, rfl⟩
 obtain ⟨pq, hpq⟩ : ∃ o, pt (hd l2 none) = .pointer o := ⟨_, rfl⟩
 rw [hpp] at x4
 rw [hpq] at x5
 clear hpp hpq
 have hst6 := fun W' hW => store6 (w' := W') (b0 := cfg.ek xk) (b1 := cfg.ev xv) (b2 := .bool xd) (b3 := .int .i64 0) (b4 := .pointer pp) (b5 := .pointer pq) hg hW
 have H6 := Lib.hid hst6
 have HR := Lib.hid h0
 have HU := Lib.hid u0
 have HP := Lib.hid hp
 have HN := Lib.hid hN
 have HM := Lib.hid h1
 have HMR := Lib.hid h2
 have HS := Lib.hid hs
 clear hg h1 hl h0 u0 hp h2 hst6 hN hs
 go_wp2_with fail
 go_region
 go_wp2_with fail
 go_loopg [16] l1.length (fun n v wr => wr = w0.drew ∧ ∃ a b, l1 = a ++ b ∧ v = pt (hd (b ++ ⟨xa, { k := xk, v := xv, d := xd, p := 0 }⟩ :: l2) none) ∧ n = b.length)
 case atStart => exact ⟨rfl, [], l1, rfl, rfl, rfl⟩
 case round =>
  obtain ⟨rfl, a, b, hab, rfl, rfl⟩ := hrel
  rcases b with _ | ⟨n, b⟩
  ·simp only [List.nil_append, hd_cons, pt_some]
   clear hab c0 c1 c2 c3 fc hlen hz
   go_wp2_with fail
   generalize hW1 : World.drew (World.setCell _ _ _) = w1
   obtain ⟨hg1, hU1⟩ := H6.out w1 (by rw [← hW1]; exact alike_drew _)
   clear hW1 H6 x0 x1 x2 x3 x4 x5 fx g0 g1 g2 g3 g4 g5 fg
   have hR1 := HR.out.keep hU1 (fun q hq => by simp only [List.mem_singleton]; rintro rfl; exact HN.out hq)
   have hc := unlink_ok w1 hR1.lay
   simp only [] at hc
   refine hc.mono ?_
   clear hc
   rintro e w2 ⟨rfl, hL, hX, hU2⟩
   have hs2 : w.heap.size + 1 ≤ w2.heap.size := by have h1 := HS.out; have h2 := hU1.size; have h3 := hU2.size; omega
   have hms := HR.out.m_lt
   have hm2 : w2.heap[m]? = some (.map es ck) := by
    have h1 := hU1.size
    rw [hU2.block _ (by omega) hR1.lay.m_not, hU1.block _ hms (by simp only [List.mem_singleton]; rintro rfl; exact HN.out (by simp))]
    exact HM.out
   have hg2 : w2.heap[w.heap.size]? = some (.cells #[cfg.ek xk, cfg.ev xv, .bool xd, .int .i64 0, .pointer pp, .pointer pq] 208) := by
    have h1 := hU1.size; have h2 := HS.out
    rw [hU2.block _ (by omega) (fun q => HN.out (by simp at q ⊢; grind))]; exact hg1
   obtain ⟨es', hdel, hmr⟩ := run_delete_hit (w := w2.drew) (P := Tryz.prog) (T := 194) keys tmap hm2 HMR.out HR.out.keys (k := xk) rfl 3 0
   obtain ⟨c0, c1, c2, c3, fc⟩ := lay_cells cfg hL
   obtain ⟨x0, -, -, -, -, -, fx⟩ := node_cells cfg hX
   have HF1 := Lib.hid hR1
   have HF2 := Lib.hid hL
   have HF3 := Lib.hid hU2
   have HF4 := Lib.hid hm2
   have HF5 := Lib.hid hg2
   have HF6 := Lib.hid hU1
   clear hg1 hR1 hL hX hU2 hm2 hg2 hU1 c0 c2 c3
   simp only [] at x0 hdel
   go_upto_region 17 with (fail)
   go_region
   go_upto_region 18 with (fail)
   generalize hW4 : ChangeMaps.setBlock w2.drew m _ = w4
   obtain ⟨hR4, hU4⟩ := rep_gone (w2 := w4) HF1.out HF4.out HF2.out hmr (by rw [← hW4]; exact ⟨rfl, rfl, rfl⟩)
   have hu0 : Upd (foot c m (l1 ++ ⟨xa, { k := xk, v := xv, d := xd, p := 0 }⟩ :: l2)) w w4 := by
    refine ((HU.out.next HF6.out (fun q hq hlt => ?_)).next HF3.out (fun q hq _ => ?_)).next hU4 (fun q hq _ => ?_)
    ·simp at hq; omega
    ·simp at hq ⊢; grind
    ·simp at hq ⊢; grind
   have hgm : w.heap.size ≠ m := fun q => HN.out (by simp [q])
   have hg4 : w4.heap[w.heap.size]? = some (.cells #[cfg.ek xk, cfg.ev xv, .bool xd, .int .i64 0, .pointer pp, .pointer pq] 208) := by
    rw [hU4.block _ (by omega) (by simpa using hgm)]; exact HF5.out
   have hs4 : w.heap.size + 1 ≤ w4.heap.size := by have := hU4.size; omega
   have HK4 : Hid (∀ n ∈ l1 ++ l2, n.it.k ≠ k) := Lib.hid (fun n hn => HK.out n (by simp at hn ⊢; grind))
   have hgF : w.heap.size ∉ foot c m (l1 ++ l2) := fun q => HN.out (by simp at q ⊢; grind)
   clear hW4 hdel hmr c1 fc x0 fx HF1 HF2 HF3 HF4 HF5 HF6 hU4 HK HU HN HM HMR HS HR HP nx nx' hs2 hms
   obtain ⟨es4, ck4, h1, h2⟩ := hR4.map
   obtain ⟨c0, c1, c2, c3, fc⟩ := lay_cells cfg hR4.lay
   have hcs : c < w4.heap.size := hR4.c_lt
   have hcs' : c ≠ w4.heap.size := by omega
   have hms := hR4.m_lt
   have hst := run_store_new (P := Tryz.prog) (T := 194) (w := w4.alloc (nodeObj cfg { k := k, v := v, d := d, p := 0 } none none)) keys tmap (m := m) (es := es4) (clock := ck4) (by rw [heap_alloc, if_neg (by omega)]; exact h1) h2 HK4.out (pt (some w4.heap.size))
   have hL := fun W2 hW => put_new_pre (W2 := W2) hR4.lay h1 { k := k, v := v, d := d, p := 0 } hW
   have HP := Lib.hid (mapRep_push cfg h2 ⟨w4.heap.size, { k := k, v := v, d := d, p := 0 }⟩ ck4)
   have HL := Lib.hid hL
   have HR := Lib.hid hR4
   have HG := Lib.hid hg4
   have HM := Lib.hid h1
   have HU := Lib.hid hu0
   have HN := Lib.hid hgF
   clear hg4 h1 hu0 hL hgF hR4 h2
   simp only [nodeObj, pt_none, pt_some, cast0] at hst
   go_wp2_with fail
   generalize hW2 : ChangeMaps.setBlock (w4.alloc _) m _ = w5
   obtain ⟨hL, hx, hmap, hU2, hnd⟩ := HL.out w5 (by rw [← hW2]; exact alike_refl _)
   clear hW2
   have HX := Lib.hid hx
   have HB := Lib.hid hmap
   clear hx hmap hst c0 c1 c2 c3 fc HL
   refine (link_ok w5 hL HX.out hnd).mono ?_
   rintro e w3 ⟨rfl, hL3, hU3⟩
   have hnw : w.heap.size ∉ c :: (l1 ++ l2 ++ [(⟨w4.heap.size, { k := k, v := v, d := d, p := 0 }⟩ : Nd Int Sl)]).map (·.a) := by
    intro q
    rw [List.map_append, ← List.cons_append] at q
    rcases List.mem_append.1 q with q | q
    ·exact HN.out (by simp at q ⊢; grind)
    ·simp at q; omega
   have hg : w3.heap[w.heap.size]? = some (.cells #[cfg.ek xk, cfg.ev xv, .bool xd, .int .i64 0, .pointer pp, .pointer pq] 208) := by
    rw [hU3.block _ (by have := hU2.size; omega) hnw, hU2.block _ (by omega) (by simpa using hgm)]; exact HG.out
   have g0 : w3.cell? ⟨w.heap.size, 0, none⟩ = some (cfg.ek xk) := cell_blk hg 0
   have g1 : w3.cell? ⟨w.heap.size, 1, none⟩ = some (cfg.ev xv) := cell_blk hg 1
   have g2 : w3.cell? ⟨w.heap.size, 2, none⟩ = some (.bool xd) := cell_blk hg 2
   have hkk : ((l1 ++ l2 ++ [(⟨w4.heap.size, { k := k, v := v, d := d, p := 0 }⟩ : Nd Int Sl)]).map (·.it.k)).Nodup := by
    have h1 := HR.out.keys; have h2 := HK4.out
    rw [List.map_append, List.nodup_append]
    refine ⟨h1, by simp, ?_⟩
    intro q hq r hr
    obtain ⟨n, hn, rfl⟩ := List.mem_map.1 hq
    simp at hr; subst hr
    exact h2 n hn
   have hR := rep_new HB.out HP.out hkk hL3 hU3
   have hUU : Upd (foot c m (l1 ++ ⟨xa, { k := xk, v := xv, d := xd, p := 0 }⟩ :: l2)) w w3 := by
    refine (HU.out.next hU2 (by simp)).next hU3 (fun q hq hlt => ?_)
    rw [List.map_append, ← List.cons_append] at hq
    rcases List.mem_append.1 hq with hq | hq
    ·simp at hq ⊢; grind
    ·simp at hq; omega
   have HF := Lib.hid (And.intro hR hUU)
   clear hg hnw hkk hR hUU hL3 hU3 hL hnd
   simp only [] at g0 g1 g2
   go_wp2
   go_region
   go_wp2
   all_goals exact bodyPost_ret (v := .tuple #[cfg.ek xk, cfg.ev xv, .bool true, .bool xd, .int .i64 0]) (by simp [results, Tryz.results93, go_sem]; try rfl) rfl ⟨w4.heap.size, rfl, HF.out.1.alike cfg (alike_drew _), HF.out.2.drew, by omega⟩
  ·have hn := ((by have := HR.out; rw [hab, List.append_assoc, List.cons_append] at this; exact this : Rep cfg w0 c m most (a ++ n :: (b ++ ⟨xa, { k := xk, v := xv, d := xd, p := 0 }⟩ :: l2)))).node
   have hpn := HP.out n (by rw [hab]; simp)
   obtain ⟨na, nk, nv, nd, np⟩ := n
   obtain ⟨-, -, -, n3, -, n5, -⟩ := node_cells cfg hn
   simp only [hd_cons, pt_some, List.cons_append] at *
   have hq : decide (0 < (np : Int)) = true := by simpa using hpn
   have hq2 : 0 < np := by simpa using hpn
   have HA := Lib.hid hab
   clear hab hn hpn c0 c1 c2 c3 fc g0 g1 g2 g3 g4 g5 fg x0 x1 x2 x3 x4 x5 fx hlen hz
   go_wp2_with fail
   go_roundg b.length
   case measure => simp
   case rel => exact ⟨rfl, a ++ [⟨na, { k := nk, v := nv, d := nd, p := np }⟩], b, by rw [HA.out]; simp, rfl, rfl⟩
end Go.Proofs.YtgpefiacbipfpaaGreatDoor.Bc.C

namespace Go.Proofs.YtgpefiacbipfpaaGreatDoor.Bc.C
open Go.RowKit
theorem get_miss (w : World) {c m : Nat} {most : Int} {l : List (Nd Int Sl)} (h : Rep cfg w c m most l) (k : Int) (hk : ∀ n ∈ l, n.it.k ≠ k) :
  Calls Tryz.prog 91 #[.pointer (some ⟨c, 0, none⟩), cfg.ek k] w fun e w' => e = .returned (.tuple #[cfg.ev zv, .bool false]) ∧ w = w' := by
 have HK := Lib.hid hk
 clear hk
 go_enter Tryz.func91, Tryz.ntmps91
 go_wp2_with fail
 refine (find_miss w h k HK.out true).mono ?_
 rintro e w1 ⟨rfl, rfl⟩
 go_wp2_with fail
 go_ret2
 exact ⟨rfl, rfl⟩
def GetPost (w : World) (c m : Nat) (most : Int) (l l' : List (Nd Int Sl)) (v : Sl) (e : Ending) (w' : World) : Prop :=
 e = .returned (.tuple #[cfg.ev v, .bool true]) ∧ Rep cfg w' c m most l' ∧ Upd (foot c m l) w w'
theorem get_hit (w : World) {c m : Nat} {most : Int} {l1 l2 : List (Nd Int Sl)} {x : Nd Int Sl} (h : Rep cfg w c m most (l1 ++ x :: l2)) (k : Int) (hk : x.it.k = k) :
  Calls Tryz.prog 91 #[.pointer (some ⟨c, 0, none⟩), cfg.ek k] w (GetPost w c m most (l1 ++ x :: l2) (l1 ++ l2 ++ [x]) x.it.v) := by
 have HK := Lib.hid hk
 clear hk
 go_enter Tryz.func91, Tryz.ntmps91
 go_wp2_with fail
 refine (find_use w h k HK.out).mono ?_
 rintro e w1 ⟨rfl, hR, hU⟩
 obtain ⟨-, x1, -, -, -, -, fx⟩ := node_cells cfg hR.node
 have HR := Lib.hid hR
 have HU := Lib.hid hU
 clear hR hU
 simp only [] at x1
 go_wp2_with fail
 go_ret2
 exact ⟨rfl, HR.out, HU.out.mono (fun q hq _ => by simp at hq ⊢; grind)⟩
end Go.Proofs.YtgpefiacbipfpaaGreatDoor.Bc.C
