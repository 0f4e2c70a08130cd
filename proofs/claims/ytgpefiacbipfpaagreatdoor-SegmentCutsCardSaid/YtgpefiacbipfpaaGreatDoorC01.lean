/- The log in plain words: what its blocks say, what a commit and an opening write, and what a crash leaves of that. No program in sight. Runs of blocks in plain words: what they are together; which are free; what is taken. No program in sight. Lists in the order of their keys, as maps. No program in sight. Files in plain words: what lies where, what is free, what a directory says as bytes. No program in sight. -/
import Derived.WalkKit
import Derived.Test.YtgpefiacbipfpaaGreatDoorC00
namespace Go.Proofs.YtgpefiacbipfpaaGreatDoor
def zeroB : Bs := List.replicate 512 0
def pad512 (b : Bs) : Bs := b ++ List.replicate (512 - b.length) 0
theorem zeroB_len : zeroB.length = 512 := List.length_replicate ..
theorem pad512_len {b : Bs} (h : b.length ≤ 512) : (pad512 b).length = 512 := by simp [pad512]; omega
def magicJ : Bs := [99, 97, 114, 116, 117, 108, 97, 114, 121]
def doneB (k : Nat) : Bs := magicJ ++ putU k
def slotB (c : Nat) (d : Bs) : Bs := pad512 (putFrame 115 (putU c ++ d))
def slotOf (b : Bs) : Option (Nat × Bs) :=
 let f := getFrame b
 if f.2.2.2 ≠ 0 ∨ f.1 ≠ 115 then none
 else
  let u := getUint f.2.1
  if u.2.2 ≠ 0 then none else some (u.1, f.2.1.drop u.2.1)
theorem slotOf_slotB {c : Nat} {d : Bs} (hc : c < 2 ^ 64) (hd : d.length ≤ 400) : slotOf (slotB c d) = some (c, d) := by
 have h1 := putU_len64 hc
 unfold slotOf slotB pad512
 rw [getFrame_putFrame _ _ _ (by rw [List.length_append]; omega)]
 simp only [getUint_putU hc]
 rw [if_neg (by simp), if_neg (by simp)]
 simp
theorem slotOf_noughts : slotOf zeroB = none := by
 unfold slotOf zeroB
 simp only [getFrame_noughts]
 rw [if_pos (.inl (by decide))]
theorem slotB_len {c : Nat} {d : Bs} (hc : c < 2 ^ 64) (hd : d.length ≤ 400) : (slotB c d).length = 512 := by
 have h1 := putU_len64 hc
 have h2 : (putU (putU c ++ d).length).length ≤ 10 := putU_len64 (by simp; omega)
 refine pad512_len ?_
 simp only [putFrame, frameRest, put32, List.length_append, List.length_cons, List.length_nil] at *
 omega
theorem doneB_len {k : Nat} (hk : k < 2 ^ 64) : (doneB k).length ≤ 19 := by
 have := putU_len64 hk
 simp [doneB, magicJ]; omega
abbrev Wr := Nat × Bs
def headPre (n : Nat) (w : List Wr) : Bs := doneB n ++ putU w.length ++ w.flatMap fun x => putU x.1
def headBody (n : Nat) (w : List Wr) : Bs := headPre n w ++ put32 (sumB (put32 0 ++ (w.flatMap fun x => x.2) ++ headPre n w))
def headB (n : Nat) (w : List Wr) : Bs := pad512 (putFrame 106 (headBody n w))
structure WOk (w : List Wr) : Prop where
 many : w.length ≤ 16
 at_ : ∀ x ∈ w, x.1 < 512
 len : ∀ x ∈ w, x.2.length = 512
theorem flat_len {w : List Wr} (h : ∀ x ∈ w, x.1 < 512) : (w.flatMap fun x => putU x.1).length ≤ 2 * w.length := by
 induction w with
 | nil => simp
 | cons x w ih =>
  have h1 := putU_len 1 x.1 (Nat.lt_trans (h x (by simp)) (by decide))
  have h2 := ih fun y hy => h y (by simp [hy])
  simp only [List.flatMap_cons, List.length_append, List.length_cons] at *
  omega
theorem headPre_len {n : Nat} {w : List Wr} (hn : n < 2 ^ 64) (hw : WOk w) : (headPre n w).length ≤ 52 := by
 have h1 := doneB_len hn
 have h2 := flat_len hw.at_
 have h3 := hw.many
 have h4 : (putU w.length).length ≤ 1 := putU_len 0 _ (by omega)
 simp only [headPre, List.length_append]
 omega
theorem headBody_len {n : Nat} {w : List Wr} (hn : n < 2 ^ 64) (hw : WOk w) : (headBody n w).length ≤ 56 := by
 have := headPre_len hn hw
 simp [headBody, put32]; omega
theorem headFrame_len {n : Nat} {w : List Wr} (hn : n < 2 ^ 64) (hw : WOk w) : (putFrame 106 (headBody n w)).length ≤ 62 := by
 have h1 := headBody_len hn hw
 have h2 : (putU (headBody n w).length).length ≤ 1 := putU_len 0 _ (by omega)
 simp only [putFrame, frameRest, put32, List.length_append, List.length_cons, List.length_nil]
 omega
theorem headB_len {n : Nat} {w : List Wr} (hn : n < 2 ^ 64) (hw : WOk w) : (headB n w).length = 512 := pad512_len (by have := headFrame_len hn hw; omega)
theorem getFrame_headB {n : Nat} {w : List Wr} (hn : n < 2 ^ 64) (hw : WOk w) : ∃ k, getFrame (headB n w) = (106, headBody n w, k, 0) :=
 ⟨_, getFrame_putFrame _ _ _ (by have := headBody_len hn hw; omega)⟩
def partsT (w : List Wr) : Nat → List DOp
 | i => (List.range w.length).map fun j => .write (i + j) (w.getD j (0, [])).2
def homeT (w : List Wr) : List DOp := w.map fun x => .write (20 + x.1) x.2
def tailT (k s : Nat) : List DOp := [.flush, .write s (slotB k (doneB k)), .flush]
def commitT (k s : Nat) (w : List Wr) : List DOp := partsT w 3 ++ ([.flush, .write 2 (headB k w), .flush] ++ (homeT w ++ tailT k s))
def OldSlot (b : Bs) (k : Nat) : Prop := ∀ c d, slotOf b = some (c, d) → c < k
structure Slots (l : Nat → Cell) (k s : Nat) : Prop where
 two : s < 2
 new : l (1 - s) = ⟨slotB k (doneB k), []⟩
 pend : (l s).pend = []
 old : OldSlot (l s).safe k
def ListLe (b : Bs) (k : Nat) : Prop := b = zeroB ∨ ∃ m w, m ≤ k ∧ WOk w ∧ b = headB m w
theorem ListLe.mono {b : Bs} {k m : Nat} (h : ListLe b k) (hk : k ≤ m) : ListLe b m := by
 rcases h with h | ⟨a, w, h1, h2⟩
 ·exact .inl h
 ·exact .inr ⟨a, w, by omega, h2⟩
def Home (l : Nat → Cell) (f : Nat → Bs) : Prop := ∀ n, n < 16 → l (20 + n) = ⟨f n, []⟩
structure Quiet (l : Nat → Cell) (k s : Nat) (f : Nat → Bs) : Prop where
 slots : Slots l k s
 list : (l 2).pend = [] ∧ ListLe (l 2).safe k
 home : Home l f
structure Redo (l : Nat → Cell) (k s : Nat) (w : List Wr) (g : Nat → Bs) : Prop where
 slots : Slots l k s
 list : l 2 = ⟨headB (k + 1) w, []⟩
 parts : ∀ j (h : j < w.length), l (3 + j) = ⟨w[j].2, []⟩
 wok : WOk w
 low : ∀ x ∈ w, x.1 < 16
 is : ∀ x ∈ w, x.2 = g x.1
 home : ∀ n, n < 16 → n ∉ w.map (·.1) → l (20 + n) = ⟨g n, []⟩
def Recov (l : Nat → Cell) (k : Nat) (g : Nat → Bs) : Prop := ∃ s, Quiet l k s g ∨ ∃ w, Redo l k s w g
def CrashOf (l l' : Nat → Cell) : Prop := ∀ i, (l' i).pend = [] ∧ (l' i).safe ∈ (l i).poss
theorem CrashOf.sure {l l' : Nat → Cell} (h : CrashOf l l') {i : Nat} {b : Bs} (e : l i = ⟨b, []⟩) : l' i = ⟨b, []⟩ := by
 obtain ⟨h1, h2⟩ := h i
 rw [e] at h2
 simp [Cell.poss] at h2
 cases hc : l' i with
 | mk a p => rw [hc] at h1 h2; simp at h1 h2; rw [h1, h2]
theorem CrashOf.still {l l' : Nat → Cell} (h : CrashOf l l') {i : Nat} (e : (l i).pend = []) : l' i = l i := by
 have : l i = ⟨(l i).safe, []⟩ := by cases hc : l i with | mk a p => rw [hc] at e; simp at e; rw [e]
 rw [this]
 exact h.sure this
theorem Slots.crash {l l' : Nat → Cell} {k s : Nat} (h : Slots l k s) (c : CrashOf l l') : Slots l' k s :=
 ⟨h.two, c.sure h.new, by rw [c.still h.pend]; exact h.pend, by rw [c.still h.pend]; exact h.old⟩
theorem Home.crash {l l' : Nat → Cell} {f : Nat → Bs} (h : Home l f) (c : CrashOf l l') : Home l' f := fun n hn => c.sure (h n hn)
theorem Quiet.crash {l l' : Nat → Cell} {k s : Nat} {f : Nat → Bs} (h : Quiet l k s f) (c : CrashOf l l') : Quiet l' k s f :=
 ⟨h.slots.crash c, by rw [c.still h.list.1]; exact h.list, h.home.crash c⟩
theorem Redo.crash {l l' : Nat → Cell} {k s : Nat} {w : List Wr} {g : Nat → Bs} (h : Redo l k s w g) (c : CrashOf l l') : Redo l' k s w g :=
 ⟨h.slots.crash c, c.sure h.list, fun j hj => c.sure (h.parts j hj), h.wok, h.low, h.is, fun n hn hw => c.sure (h.home n hn hw)⟩
def Along (P : (Nat → Cell) → Prop) (t : List DOp) (l : Nat → Cell) : Prop := ∀ p q, t = p ++ q → P (exec p l)
theorem along_nil {P : (Nat → Cell) → Prop} {l : Nat → Cell} (h : P l) : Along P [] l := by
 intro p q e
 obtain ⟨rfl, rfl⟩ := List.append_eq_nil_iff.1 e.symm
 exact h
theorem along_cons {P : (Nat → Cell) → Prop} {o : DOp} {t : List DOp} {l : Nat → Cell} (h : P l) (g : Along P t (exec1 l o)) : Along P (o :: t) l := by
 intro p q e
 cases p with
 | nil => exact h
 | cons x p =>
  simp only [List.cons_append, List.cons.injEq] at e
  obtain ⟨rfl, e⟩ := e
  exact g p q e
theorem along_app {P : (Nat → Cell) → Prop} {a : List DOp} : ∀ {b : List DOp} {l : Nat → Cell}, Along P a l → Along P b (exec a l) → Along P (a ++ b) l := by
 induction a with
 | nil => intro b l _ h; exact h
 | cons o a ih =>
  intro b l h g
  exact along_cons (h [] _ rfl) (ih (fun p q e => h (o :: p) q (by rw [e]; rfl)) g)
theorem along_inv {I : (Nat → Cell) → Prop} {t : List DOp} : ∀ {l : Nat → Cell}, I l → (∀ o ∈ t, ∀ l, I l → I (exec1 l o)) → Along I t l ∧ I (exec t l) := by
 induction t with
 | nil => intro l h _; exact ⟨along_nil h, h⟩
 | cons o t ih =>
  intro l h g
  have := ih (g o (by simp) l h) fun x hx => g x (by simp [hx])
  exact ⟨along_cons h this.1, this.2⟩
theorem Along.mono {P Q : (Nat → Cell) → Prop} {t : List DOp} {l : Nat → Cell} (h : Along P t l) (g : ∀ l, P l → Q l) : Along Q t l := fun p q e => g _ (h p q e)
theorem exec1_write_ne {l : Nat → Cell} {n i : Nat} (b : Bs) (h : i ≠ n) : exec1 l (.write n b) i = l i := if_neg h
theorem exec1_write {l : Nat → Cell} {n : Nat} (b : Bs) : exec1 l (.write n b) n = (l n).push b := if_pos rfl
theorem exec1_flush {l : Nat → Cell} {i : Nat} {b : Bs} (h : l i = ⟨b, []⟩) : exec1 l .flush i = ⟨b, []⟩ := by show (l i).flush = _; rw [h]; rfl
theorem flush_still {l : Nat → Cell} {i : Nat} (h : (l i).pend = []) : exec1 l .flush i = l i := by
 have : l i = ⟨(l i).safe, []⟩ := by cases hc : l i with | mk a p => rw [hc] at h; simp at h; rw [h]
 rw [this]
 exact exec1_flush this
theorem Slots.congr {l l' : Nat → Cell} {k s : Nat} (h : Slots l k s) (e : ∀ i, i < 2 → l' i = l i) : Slots l' k s := by
 have hs := h.two
 exact ⟨hs, (e _ (by omega)).trans h.new, by rw [e _ hs]; exact h.pend, by rw [e _ hs]; exact h.old⟩
theorem Slots.flush {l : Nat → Cell} {k s : Nat} (h : Slots l k s) : Slots (exec1 l .flush) k s :=
 ⟨h.two, exec1_flush h.new, by rw [flush_still h.pend]; exact h.pend, by rw [flush_still h.pend]; exact h.old⟩
theorem Slots.write {l : Nat → Cell} {k s : Nat} (h : Slots l k s) {n : Nat} (b : Bs) (hn : 2 ≤ n) : Slots (exec1 l (.write n b)) k s :=
 h.congr fun i hi => exec1_write_ne _ (by omega)
theorem Quiet.write {l : Nat → Cell} {k s : Nat} {f : Nat → Bs} (h : Quiet l k s f) {n : Nat} (b : Bs) (h1 : 3 ≤ n) (h2 : n < 20 ∨ 36 ≤ n) : Quiet (exec1 l (.write n b)) k s f :=
 ⟨h.slots.write b (by omega), by rw [exec1_write_ne _ (by omega)]; exact h.list, fun i hi => by rw [exec1_write_ne _ (by omega)]; exact h.home i hi⟩
theorem Quiet.flush {l : Nat → Cell} {k s : Nat} {f : Nat → Bs} (h : Quiet l k s f) : Quiet (exec1 l .flush) k s f :=
 ⟨h.slots.flush, by rw [flush_still h.list.1]; exact h.list, fun i hi => exec1_flush (h.home i hi)⟩
theorem Redo.flush {l : Nat → Cell} {k s : Nat} {w : List Wr} {g : Nat → Bs} (h : Redo l k s w g) : Redo (exec1 l .flush) k s w g :=
 ⟨h.slots.flush, exec1_flush h.list, fun j hj => exec1_flush (h.parts j hj), h.wok, h.low, h.is, fun n hn hw => exec1_flush (h.home n hn hw)⟩
theorem Redo.write {l : Nat → Cell} {k s : Nat} {w : List Wr} {g : Nat → Bs} (h : Redo l k s w g) {x : Wr} (hx : x ∈ w) : Redo (exec1 l (.write (20 + x.1) x.2)) k s w g := by
 have hm := h.wok.many
 refine ⟨h.slots.write _ (by omega), by rw [exec1_write_ne _ (by omega)]; exact h.list, fun j hj => by rw [exec1_write_ne _ (by omega)]; exact h.parts j hj, h.wok, h.low, h.is, fun n hn hw => ?_⟩
 have : n ≠ x.1 := fun e => hw (e ▸ List.mem_map.2 ⟨x, hx, rfl⟩)
 rw [exec1_write_ne _ (by omega)]
 exact h.home n hn hw
def Opens (k : Nat) (g : Nat → Bs) (l : Nat → Cell) : Prop := ∀ l', CrashOf l l' → Recov l' k g ∨ Recov l' (k + 1) g
theorem Quiet.opens {l : Nat → Cell} {k s : Nat} {g : Nat → Bs} (h : Quiet l k s g) : Opens k g l := fun _ c => .inl ⟨s, .inl (h.crash c)⟩
theorem Quiet.opensLess {l : Nat → Cell} {k s : Nat} {g : Nat → Bs} (h : Quiet l (k + 1) s g) : Opens k g l := fun _ c => .inr ⟨s, .inl (h.crash c)⟩
theorem Redo.opens {l : Nat → Cell} {k s : Nat} {w : List Wr} {g : Nat → Bs} (h : Redo l k s w g) : Opens k g l := fun _ c => .inl ⟨s, .inr ⟨w, h.crash c⟩⟩
theorem oldSlot_done {k m : Nat} (hk : k < 2 ^ 62) (h : k < m) : OldSlot (slotB k (doneB k)) m := by
 intro c d e
 rw [slotOf_slotB (by omega) (by have := doneB_len (k := k) (by omega); omega)] at e
 cases e
 exact h
theorem Slots.turn {l : Nat → Cell} {k s : Nat} (h : Slots l k s) (hk : k < 2 ^ 62) : Slots (exec1 (exec1 l (.write s (slotB (k + 1) (doneB (k + 1))))) .flush) (k + 1) (1 - s) := by
 have hs := h.two
 have e1 : 1 - (1 - s) = s := by omega
 have h1 : exec1 (exec1 l (.write s (slotB (k + 1) (doneB (k + 1))))) .flush (1 - s) = ⟨slotB k (doneB k), []⟩ :=
  exec1_flush (by rw [exec1_write_ne _ (by omega)]; exact h.new)
 refine ⟨by omega, ?_, by rw [h1], by rw [h1]; exact oldSlot_done hk (Nat.lt_succ_self _)⟩
 rw [e1]
 show ((exec1 l _ s)).flush = _
 rw [exec1_write]
 simp [Cell.flush, Cell.view_push]
theorem tail_ok {l : Nat → Cell} {k s : Nat} {g : Nat → Bs} (hk : k < 2 ^ 62) (hs : Slots l k s) (hl : (l 2).pend = [] ∧ ListLe (l 2).safe (k + 1)) (hh : Home l g)
  (hO : ∀ l', Slots l' k s → (∀ i, 2 ≤ i → (l i).pend = [] → l' i = l i) → Recov l' k g) :
  Along (Opens k g) [.write s (slotB (k + 1) (doneB (k + 1))), .flush] l ∧ Quiet (exec [.write s (slotB (k + 1) (doneB (k + 1))), .flush] l) (k + 1) (1 - s) g := by
 have h2 := hs.two
 have hq : Quiet (exec1 (exec1 l (.write s (slotB (k + 1) (doneB (k + 1))))) .flush) (k + 1) (1 - s) g := by
  refine ⟨hs.turn hk, ?_, fun n hn => exec1_flush (by rw [exec1_write_ne _ (by omega)]; exact hh n hn)⟩
  rw [flush_still (by rw [exec1_write_ne _ (by omega)]; exact hl.1), exec1_write_ne _ (by omega)]
  exact hl
 refine ⟨along_cons ?_ (along_cons ?_ (along_nil hq.opensLess)), hq⟩
 ·intro l' c
  exact .inl (hO l' (hs.crash c) fun i hi hp => c.still hp)
 ·intro l' c
  have hi : ∀ i, i ≠ s → (l i).pend = [] → l' i = l i := fun i hi hp => by
   have := c.still (i := i) (by rw [exec1_write_ne _ hi]; exact hp)
   rw [this, exec1_write_ne _ hi]
  obtain ⟨c1, c2⟩ := c s
  rw [exec1_write] at c2
  simp only [Cell.poss, Cell.push, hs.pend, List.nil_append, List.mem_cons, List.not_mem_nil, or_false] at c2
  have hn : l' (1 - s) = ⟨slotB k (doneB k), []⟩ := by rw [hi _ (by omega) (by rw [hs.new])]; exact hs.new
  rcases c2 with c2 | c2
  ·exact .inl (hO l' ⟨h2, hn, c1, by rw [c2]; exact hs.old⟩ fun i hi2 hp => hi i (by omega) hp)
  ·refine .inr ⟨1 - s, .inl ⟨⟨by omega, ?_, by rw [hn], by rw [hn]; exact oldSlot_done hk (Nat.lt_succ_self _)⟩, ?_, fun n hn => by rw [hi _ (by omega) (by rw [hh n hn])]; exact hh n hn⟩⟩
   ·rw [show 1 - (1 - s) = s by omega]
    cases hc : l' s with
    | mk a p => rw [hc] at c1 c2; simp at c1 c2; rw [c1, c2]
   ·rw [hi 2 (by omega) hl.1]; exact hl
theorem Quiet.tail {l : Nat → Cell} {k s : Nat} {g : Nat → Bs} (h : Quiet l k s g) (hk : k < 2 ^ 62) :
  Along (Opens k g) (tailT (k + 1) s) l ∧ Quiet (exec (tailT (k + 1) s) l) (k + 1) (1 - s) g := by
 have hf := h.flush
 obtain ⟨h1, h2⟩ := tail_ok hk hf.slots ⟨hf.list.1, hf.list.2.mono (Nat.le_succ _)⟩ hf.home fun l' hs hi => ⟨s, .inl ⟨hs, by rw [hi 2 (by omega) hf.list.1]; exact hf.list, fun n hn => by rw [hi _ (by omega) (by rw [hf.home n hn])]; exact hf.home n hn⟩⟩
 exact ⟨along_cons h.opens h1, h2⟩
theorem exec_home_view {g : Nat → Bs} (w : List Wr) : ∀ (l : Nat → Cell) (n : Nat), (∀ x ∈ w, x.2 = g x.1) → (n ∈ w.map (·.1) ∨ (l (20 + n)).view = g n) → (exec (homeT w) l (20 + n)).view = g n := by
 induction w with
 | nil => intro l n _ h; rcases h with h | h; · simp at h
          exact h
 | cons x w ih =>
  intro l n hg h
  show (exec (homeT w) (exec1 l _) (20 + n)).view = _
  refine ih _ n (fun y hy => hg y (by simp [hy])) ?_
  by_cases hx : n = x.1
  ·subst hx
   right
   rw [exec1_write, Cell.view_push]
   exact hg x (by simp)
  ·rw [exec1_write_ne _ (by omega)]
   rcases h with h | h
   ·left
    simpa [hx] using h
   ·exact .inr h
theorem Redo.tail {l : Nat → Cell} {k s : Nat} {w : List Wr} {g : Nat → Bs} (h : Redo l k s w g) (hk : k < 2 ^ 62) :
  Along (Opens k g) (homeT w ++ tailT (k + 1) s) l ∧ Quiet (exec (homeT w ++ tailT (k + 1) s) l) (k + 1) (1 - s) g := by
 obtain ⟨h1, h2⟩ := along_inv (I := fun l => Redo l k s w g) (t := homeT w) h fun o ho l hl => by
  obtain ⟨x, hx, rfl⟩ := List.mem_map.1 ho
  exact hl.write hx
 have hf := h2.flush
 have hh : Home (exec1 (exec (homeT w) l) .flush) g := by
  intro n hn
  show (exec (homeT w) l (20 + n)).flush = _
  rw [Cell.flush, exec_home_view w l n h.is]
  by_cases hw : n ∈ w.map (·.1)
  ·exact .inl hw
  ·exact .inr (by rw [h.home n hn hw]; rfl)
 obtain ⟨h3, h4⟩ := tail_ok hk hf.slots ⟨by rw [hf.list], by rw [hf.list]; exact .inr ⟨k + 1, w, Nat.le_refl _, hf.wok, rfl⟩⟩ hh fun l' hs hi => by
  have hm := hf.wok.many
  exact ⟨s, .inr ⟨w, hs, by rw [hi 2 (by omega) (by rw [hf.list])]; exact hf.list, fun j hj => by rw [hi _ (by omega) (by rw [hf.parts j hj])]; exact hf.parts j hj, hf.wok, hf.low, hf.is, fun n hn hw => by rw [hi _ (by omega) (by rw [hf.home n hn hw])]; exact hf.home n hn hw⟩⟩
 refine ⟨along_app (h1.mono fun _ q => q.opens) (along_cons h2.opens h3), ?_⟩
 rw [exec_app]
 exact h4
structure Over (w : List Wr) (f g : Nat → Bs) : Prop where
 wok : WOk w
 low : ∀ x ∈ w, x.1 < 16
 is : ∀ x ∈ w, x.2 = g x.1
 rest : ∀ n, n < 16 → n ∉ w.map (·.1) → f n = g n
theorem mem_partsT {w : List Wr} {o : DOp} (h : o ∈ partsT w 3) (hw : WOk w) : ∃ n b, o = .write n b ∧ 3 ≤ n ∧ n < 20 ∧ b.length = 512 := by
 obtain ⟨j, hj, rfl⟩ := List.mem_map.1 h
 have hj := List.mem_range.1 hj
 have := hw.many
 refine ⟨_, _, rfl, by omega, by omega, hw.len _ ?_⟩
 rw [List.getD_eq_getElem?_getD, List.getElem?_eq_getElem hj]
 exact List.getElem_mem _
theorem exec_range (f : Nat → DOp) (b : Nat → Bs) (a : Nat) (hf : ∀ j, f j = .write (a + j) (b j)) : ∀ (m : Nat) (l : Nat → Cell) (j : Nat), j < m → (exec ((List.range m).map f) l (a + j)).view = b j := by
 intro m
 induction m with
 | zero => intro l j h; omega
 | succ m ih =>
  intro l j h
  rw [List.range_succ, List.map_append, exec_app]
  show (exec1 _ (f m) (a + j)).view = _
  rw [hf]
  by_cases e : j = m
  ·subst e; rw [exec1_write, Cell.view_push]
  ·rw [exec1_write_ne _ (by omega)]; exact ih l j (by omega)
def NoW (i : Nat) : DOp → Prop
 | .write n _ => n ≠ i
 | .flush => True
theorem still_exec {i : Nat} {b : Bs} (t : List DOp) : ∀ {l : Nat → Cell}, l i = ⟨b, []⟩ → (∀ o ∈ t, NoW i o) → exec t l i = ⟨b, []⟩ := by
 induction t with
 | nil => intro l h _; exact h
 | cons o t ih =>
  intro l h ho
  refine ih (l := exec1 l o) ?_ fun x hx => ho x (by simp [hx])
  cases o with
  | write n x => rw [exec1_write_ne x (Ne.symm (ho (.write n x) (by simp)))]; exact h
  | flush => exact exec1_flush h
theorem poss_exec {i : Nat} (t : List DOp) : ∀ {l : Nat → Cell}, (∀ o ∈ t, NoW i o) → (exec t l i).view = (l i).view ∧ ∀ b ∈ (exec t l i).poss, b ∈ (l i).poss := by
 induction t with
 | nil => intro l _; exact ⟨rfl, fun _ h => h⟩
 | cons o t ih =>
  intro l ho
  obtain ⟨h1, h2⟩ := ih (l := exec1 l o) fun x hx => ho x (by simp [hx])
  cases o with
  | write n x =>
   have e := exec1_write_ne (l := l) x (Ne.symm (ho (.write n x) (by simp)))
   rw [e] at h1 h2
   exact ⟨h1, h2⟩
  | flush =>
   refine ⟨h1, fun b hb => ?_⟩
   have := h2 b hb
   have e : exec1 l .flush i = (l i).flush := rfl
   rw [e] at this
   simp only [Cell.flush, Cell.poss, List.mem_cons, List.not_mem_nil, or_false] at this
   subst this
   exact (l i).view_mem
theorem along_still {i : Nat} {b : Bs} {t : List DOp} {l : Nat → Cell} (h : l i = ⟨b, []⟩) (ho : ∀ o ∈ t, NoW i o) : Along (fun l => l i = ⟨b, []⟩) t l := fun p q e => still_exec p h fun o hp => ho o (by rw [e]; simp [hp])
theorem not_parts {w : List Wr} {i : Nat} (hw : WOk w) (hi : 36 ≤ i) : ∀ o ∈ partsT w 3, NoW i o := by
 intro o ho
 obtain ⟨n, b, rfl, h1, h2, -⟩ := mem_partsT ho hw
 exact fun e => by omega
theorem not_home {w : List Wr} {i : Nat} (hw : ∀ x ∈ w, x.1 < 16) (hi : 36 ≤ i) : ∀ o ∈ homeT w, NoW i o := by
 intro o ho
 obtain ⟨x, hx, rfl⟩ := List.mem_map.1 ho
 exact fun e => by have := hw x hx; omega
theorem not_tail {k s i : Nat} (hs : s < 2) (hi : 36 ≤ i) : ∀ o ∈ tailT k s, NoW i o := by
 intro o ho
 simp only [tailT, List.mem_cons, List.not_mem_nil, or_false] at ho
 rcases ho with rfl | rfl | rfl
 ·trivial
 ·exact fun e => by omega
 ·trivial
theorem not_commit {k s : Nat} {w : List Wr} {i : Nat} (hw : WOk w) (hl : ∀ x ∈ w, x.1 < 16) (hs : s < 2) (hi : 36 ≤ i) : ∀ o ∈ commitT k s w, NoW i o := by
 intro o ho
 simp only [commitT, List.mem_append, List.mem_cons, List.not_mem_nil, or_false] at ho
 rcases ho with ho | (rfl | rfl | rfl) | ho | ho
 ·exact not_parts hw hi o ho
 ·trivial
 ·exact fun e => by omega
 ·trivial
 ·exact not_home hl hi o ho
 ·exact not_tail hs hi o ho
def Opens2 (k : Nat) (f g : Nat → Bs) (l0 l : Nat → Cell) : Prop := ∀ l', CrashOf l l' → Recov l' k f ∨ ((Recov l' k g ∨ Recov l' (k + 1) g) ∧ ∀ i, 36 ≤ i → l' i = ⟨(l0 i).view, []⟩)
theorem Quiet.commit {l : Nat → Cell} {k s : Nat} {w : List Wr} {f g : Nat → Bs} (h : Quiet l k s f) (ho : Over w f g) (hk : k < 2 ^ 62) :
  Along (Opens2 k f g l) (commitT (k + 1) s w) l ∧ Quiet (exec (commitT (k + 1) s w) l) (k + 1) (1 - s) g ∧ ∀ i, 36 ≤ i → exec (commitT (k + 1) s w) l i = ⟨(l i).view, []⟩ := by
 have hm := ho.wok.many
 have hs2 := h.slots.two
 obtain ⟨h1, h2⟩ := along_inv (I := fun l => Quiet l k s f) (t := partsT w 3) h fun o hop l hl => by
  obtain ⟨n, b, rfl, h1, h2, -⟩ := mem_partsT hop ho.wok
  exact hl.write b h1 (.inl h2)
 have hf := h2.flush
 have hst : ∀ i, 36 ≤ i → exec1 (exec (partsT w 3) l) .flush i = ⟨(l i).view, []⟩ := by
  intro i hi
  show (exec (partsT w 3) l i).flush = _
  rw [Cell.flush, (poss_exec _ (not_parts ho.wok hi)).1]
 have hO : ∀ {l1}, Quiet l1 k s f → Opens2 k f g l l1 := fun q l' c => .inl ⟨s, .inl (q.crash c)⟩
 have hparts : ∀ j (hj : j < w.length), exec1 (exec (partsT w 3) l) .flush (3 + j) = ⟨w[j].2, []⟩ := by
  intro j hj
  show (exec (partsT w 3) l (3 + j)).flush = _
  rw [Cell.flush]
  unfold partsT
  rw [exec_range (fun j => .write (3 + j) (w.getD j (0, [])).2) (fun j => (w.getD j (0, [])).2) 3 (fun _ => rfl) w.length l j hj, List.getD_eq_getElem?_getD, List.getElem?_eq_getElem hj]
  rfl
 have hlist : exec1 (exec1 (exec1 (exec (partsT w 3) l) .flush) (.write 2 (headB (k + 1) w))) .flush 2 = ⟨headB (k + 1) w, []⟩ := by
  show (exec1 _ _ 2).flush = _
  rw [exec1_write]
  simp [Cell.flush, Cell.view_push]
 have hR : Redo (exec1 (exec1 (exec1 (exec (partsT w 3) l) .flush) (.write 2 (headB (k + 1) w))) .flush) k s w g :=
  ⟨(hf.slots.write _ (by omega)).flush, hlist, fun j hj => exec1_flush (by rw [exec1_write_ne _ (by omega)]; exact hparts j hj), ho.wok, ho.low, ho.is,
   fun n hn hw => exec1_flush (by rw [exec1_write_ne _ (by omega), hf.home n hn, ho.rest n hn hw])⟩
 have hst2 : ∀ i, 36 ≤ i → exec1 (exec1 (exec1 (exec (partsT w 3) l) .flush) (.write 2 (headB (k + 1) w))) .flush i = ⟨(l i).view, []⟩ :=
  fun i hi => exec1_flush (by rw [exec1_write_ne _ (by omega)]; exact hst i hi)
 have hnt : ∀ i, 36 ≤ i → ∀ o ∈ homeT w ++ tailT (k + 1) s, NoW i o := fun i hi o ho' => by
  rcases List.mem_append.1 ho' with h | h
  ·exact not_home ho.low hi o h
  ·exact not_tail hs2 hi o h
 obtain ⟨h3, h4⟩ := hR.tail hk
 have h5 : Along (Opens2 k f g l) (homeT w ++ tailT (k + 1) s) (exec1 (exec1 (exec1 (exec (partsT w 3) l) .flush) (.write 2 (headB (k + 1) w))) .flush) := fun p q e l' c =>
  .inr ⟨h3 p q e l' c, fun i hi => c.sure (along_still (hst2 i hi) (hnt i hi) p q e)⟩
 refine ⟨along_app (h1.mono fun _ => hO) (along_cons (hO h2) (along_cons (hO hf) (along_cons ?_ h5))), ?_, ?_⟩
 ·intro l' c
  have hi : ∀ i, i ≠ 2 → (exec1 (exec (partsT w 3) l) .flush i).pend = [] → l' i = exec1 (exec (partsT w 3) l) .flush i := fun i hi hp => by
   have := c.still (i := i) (by rw [exec1_write_ne _ hi]; exact hp)
   rw [this, exec1_write_ne _ hi]
  have hsl : Slots l' k s := by
   have hp := hf.slots.pend
   exact ⟨hs2, by rw [hi _ (by omega) (by rw [hf.slots.new])]; exact hf.slots.new, by rw [hi _ (by omega) hp]; exact hp, by rw [hi _ (by omega) hp]; exact hf.slots.old⟩
  obtain ⟨c1, c2⟩ := c 2
  rw [exec1_write] at c2
  simp only [Cell.poss, Cell.push, hf.list.1, List.nil_append, List.mem_cons, List.not_mem_nil, or_false] at c2
  rcases c2 with c2 | c2
  ·exact .inl ⟨s, .inl ⟨hsl, ⟨c1, by rw [c2]; exact hf.list.2⟩, fun n hn => by rw [hi _ (by omega) (by rw [hf.home n hn])]; exact hf.home n hn⟩⟩
  ·refine .inr ⟨.inl ⟨s, .inr ⟨w, hsl, ?_, fun j hj => by rw [hi _ (by omega) (by rw [hparts j hj])]; exact hparts j hj, ho.wok, ho.low, ho.is, fun n hn hw => by rw [hi _ (by omega) (by rw [hf.home n hn]), hf.home n hn, ho.rest n hn hw]⟩⟩, fun i hi36 => by rw [hi i (by omega) (by rw [hst i hi36])]; exact hst i hi36⟩
   cases hc : l' 2 with
   | mk a p => rw [hc] at c1 c2; simp at c1 c2; rw [c1, c2]
 ·unfold commitT
  rw [exec_app, exec_app]
  exact h4
 ·intro i hi
  unfold commitT
  rw [exec_app, exec_app]
  exact still_exec _ (hst2 i hi) (hnt i hi)
def openT (k s : Nat) (w : List Wr) : List DOp := homeT w ++ tailT (k + 1) s
theorem quiet_open {l : Nat → Cell} {k s : Nat} {g : Nat → Bs} (h : Quiet l k s g) (hk : k < 2 ^ 62) : Along (Opens k g) (openT k s []) l ∧ Quiet (exec (openT k s []) l) (k + 1) (1 - s) g := h.tail hk
theorem redo_open {l : Nat → Cell} {k s : Nat} {w : List Wr} {g : Nat → Bs} (h : Redo l k s w g) (hk : k < 2 ^ 62) : Along (Opens k g) (openT k s w) l ∧ Quiet (exec (openT k s w) l) (k + 1) (1 - s) g := h.tail hk
theorem not_open {k s : Nat} {w : List Wr} {i : Nat} (hl : ∀ x ∈ w, x.1 < 16) (hs : s < 2) (hi : 36 ≤ i) : ∀ o ∈ openT k s w, NoW i o := by
 intro o ho
 rcases List.mem_append.1 ho with h | h
 ·exact not_home hl hi o h
 ·exact not_tail hs hi o h
theorem sized_commit {k s : Nat} {w : List Wr} (hk : k < 2 ^ 62) (hw : WOk w) : ∀ o ∈ commitT k s w, OpSized o := by
 intro o ho
 have h1 := slotB_len (c := k) (d := doneB k) (by omega) (by have := doneB_len (k := k) (by omega); omega)
 simp only [commitT, tailT, List.mem_append, List.mem_cons, List.not_mem_nil, or_false] at ho
 rcases ho with ho | (rfl | rfl | rfl) | ho | (rfl | rfl | rfl)
 ·obtain ⟨n, b, rfl, -, -, h⟩ := mem_partsT ho hw
  exact h
 ·trivial
 ·exact headB_len (by omega) hw
 ·trivial
 ·obtain ⟨x, hx, rfl⟩ := List.mem_map.1 ho
  exact hw.len x hx
 ·trivial
 ·exact h1
 ·trivial
theorem sized_open {k s : Nat} {w : List Wr} (hk : k < 2 ^ 62) (hw : WOk w) : ∀ o ∈ openT k s w, OpSized o := by
 intro o ho
 have h1 := slotB_len (c := k + 1) (d := doneB (k + 1)) (by omega) (by have := doneB_len (k := k + 1) (by omega); omega)
 simp only [openT, tailT, List.mem_append, List.mem_cons, List.not_mem_nil, or_false] at ho
 rcases ho with ho | (rfl | rfl | rfl)
 ·obtain ⟨x, hx, rfl⟩ := List.mem_map.1 ho
  exact hw.len x hx
 ·trivial
 ·exact h1
 ·trivial
end Go.Proofs.YtgpefiacbipfpaaGreatDoor

namespace Go.Proofs.YtgpefiacbipfpaaGreatDoor
abbrev Run := Nat × Nat
def expand (l : List Run) : List Nat := l.flatMap fun r => List.range' r.1 r.2
theorem expand_app (a b : List Run) : expand (a ++ b) = expand a ++ expand b := by simp [expand]
theorem expand_one (r : Run) : expand [r] = List.range' r.1 r.2 := by simp [expand]
theorem expand_cons (r : Run) (l : List Run) : expand (r :: l) = List.range' r.1 r.2 ++ expand l := rfl
def lenR (l : List Run) : Nat := (l.map (·.2)).sum
theorem expand_len (l : List Run) : (expand l).length = lenR l := by
 induction l with
 | nil => rfl
 | cons r l ih => rw [expand_cons, List.length_append, ih, List.length_range']; simp [lenR]
def putRun (l : List Run) (r : Run) : List Run :=
 match l.getLast? with
 | some x => if x.1 + x.2 = r.1 then l.dropLast ++ [(x.1, x.2 + r.2)] else l ++ [r]
 | none => [r]
theorem putRun_nil (r : Run) : putRun [] r = [r] := rfl
theorem putRun_snoc (l : List Run) (x r : Run) : putRun (l ++ [x]) r = if x.1 + x.2 = r.1 then l ++ [(x.1, x.2 + r.2)] else l ++ [x] ++ [r] := by
 simp [putRun]
theorem expand_putRun (l : List Run) (r : Run) : expand (putRun l r) = expand l ++ List.range' r.1 r.2 := by
 rcases List.eq_nil_or_concat l with rfl | ⟨l, x, rfl⟩
 ·simp [putRun_nil, expand]
 ·rw [List.concat_eq_append, putRun_snoc]
  split
  ·rename_i h
   rw [expand_app, expand_app, expand_one, expand_one, List.append_assoc]
   congr 1
   simp only
   rw [← List.range'_append_1 (s := x.1) (m := x.2) (n := r.2), h]
  ·rw [expand_app, expand_one]
theorem expand_foldl (rs : List Run) : ∀ l : List Run, expand (rs.foldl putRun l) = expand l ++ expand rs := by
 induction rs with
 | nil => intro l; simp [expand]
 | cons r rs ih => intro l; rw [List.foldl_cons, ih, expand_putRun, List.append_assoc, expand_cons]
def Canon : List Run → Prop
 | [] => True
 | [r] => 1 ≤ r.2
 | r :: q :: l => 1 ≤ r.2 ∧ r.1 + r.2 ≠ q.1 ∧ Canon (q :: l)
theorem canon_snoc : ∀ (l : List Run) (x : Run), Canon (l ++ [x]) ↔ Canon l ∧ 1 ≤ x.2 ∧ ∀ y, l.getLast? = some y → y.1 + y.2 ≠ x.1
 | [], x => by simp [Canon]
 | [r], x => by
  simp only [List.cons_append, List.nil_append, Canon, List.getLast?_singleton, Option.some.injEq, forall_eq']
  exact and_congr_right fun _ => and_comm
 | r :: q :: l, x => by
  have ih := canon_snoc (q :: l) x
  have e : (r :: q :: l).getLast? = (q :: l).getLast? := List.getLast?_cons_cons
  simp only [List.cons_append] at ih ⊢
  rw [e]
  simp only [Canon]
  rw [ih]
  constructor
  ·rintro ⟨a, b, c, d⟩; exact ⟨⟨a, b, c⟩, d⟩
  ·rintro ⟨⟨a, b, c⟩, d⟩; exact ⟨a, b, c, d⟩
theorem canon_putRun {l : List Run} {r : Run} (h : Canon l) (hr : 1 ≤ r.2) : Canon (putRun l r) := by
 rcases List.eq_nil_or_concat l with rfl | ⟨l, x, rfl⟩
 ·exact hr
 ·rw [List.concat_eq_append] at *
  rw [putRun_snoc]
  split
  ·rw [canon_snoc] at h ⊢
   exact ⟨h.1, by have := h.2.1; show 1 ≤ x.2 + r.2; omega, h.2.2⟩
  ·rename_i hne
   rw [canon_snoc]
   exact ⟨h, hr, fun y hy => by simp at hy; subst hy; exact hne⟩
theorem canon_foldl (rs : List Run) : ∀ l : List Run, Canon l → (∀ r ∈ rs, 1 ≤ r.2) → Canon (rs.foldl putRun l) := by
 induction rs with
 | nil => intro l h _; exact h
 | cons r rs ih => intro l h hr; exact ih _ (canon_putRun h (hr r (by simp))) fun x hx => hr x (by simp [hx])
theorem canon_pos : ∀ {l : List Run}, Canon l → ∀ r ∈ l, 1 ≤ r.2
 | [], _, r, hr => by simp at hr
 | [x], h, r, hr => by simp at hr; subst hr; exact h
 | x :: y :: l, h, r, hr => by
  rcases List.mem_cons.1 hr with rfl | hr
  ·exact h.1
  ·exact canon_pos h.2.2 r hr
theorem canon_left : ∀ (rs m : List Run), Canon (m ++ rs) → Canon m := by
 intro rs
 generalize hn : rs.length = n
 induction n generalizing rs with
 | zero => intro m h; obtain rfl := List.eq_nil_of_length_eq_zero hn; simpa using h
 | succ n ih =>
  intro m h
  rcases List.eq_nil_or_concat rs with rfl | ⟨rs, x, rfl⟩
  ·simp at hn
  ·rw [List.concat_eq_append, ← List.append_assoc, canon_snoc] at h
   exact ih rs (by simp at hn; exact hn) m h.1
theorem foldl_canon : ∀ (rs l : List Run), Canon (l ++ rs) → rs.foldl putRun l = l ++ rs := by
 intro rs
 induction rs with
 | nil => intro l _; simp
 | cons r rs ih =>
  intro l h
  have e : l ++ r :: rs = (l ++ [r]) ++ rs := by simp
  have hc : Canon (l ++ [r]) := by
   rw [e] at h
   exact canon_left rs _ h
  have hp : putRun l r = l ++ [r] := by
   rcases List.eq_nil_or_concat l with rfl | ⟨l, x, rfl⟩
   ·rfl
   ·rw [List.concat_eq_append] at *
    rw [canon_snoc] at hc
    rw [putRun_snoc, if_neg (hc.2.2 x (by simp))]
  rw [List.foldl_cons, hp, ih (l ++ [r]) (by rw [← e]; exact h), ← e]
def runLen (f : Nat → Bool) (n : Nat) (i : Nat) : Nat := if i < n then if f i then runLen f n (i + 1) + 1 else 0 else 0
 termination_by n - i
def frees (f : Nat → Bool) (n : Nat) (i : Nat) : List Run :=
 if i < n then if runLen f n i = 0 then frees f n (i + 1) else (i, runLen f n i) :: frees f n (i + runLen f n i + 1) else []
 termination_by n - i
 decreasing_by all_goals omega
theorem runLen_le (f : Nat → Bool) (n i : Nat) : i + runLen f n i ≤ n ∨ n ≤ i := by
 induction h : n - i generalizing i with
 | zero => right; omega
 | succ m ih =>
  left
  rw [runLen]
  split
  ·split
   ·rcases ih (i + 1) (by omega) with q | q
    ·omega
    ·have : runLen f n (i + 1) = 0 := by rw [runLen, if_neg (by omega)]
     omega
   ·omega
  ·omega
def freeList (f : Nat → Bool) (n i : Nat) : List Nat := (List.range' i (n - i)).filter f
theorem freeList_step (f : Nat → Bool) (n i : Nat) (h : i < n) : freeList f n i = if f i then i :: freeList f n (i + 1) else freeList f n (i + 1) := by
 unfold freeList
 rw [show n - i = (n - (i + 1)) + 1 by omega, List.range'_succ, List.filter_cons]
theorem freeList_run (f : Nat → Bool) (n i : Nat) (h : i < n) : freeList f n i = List.range' i (runLen f n i) ++ freeList f n (i + runLen f n i) := by
 induction hm : n - i generalizing i with
 | zero => omega
 | succ m ih =>
  rw [runLen, if_pos h]
  split
  ·rename_i hf
   rw [freeList_step f n i h, if_pos hf]
   by_cases h1 : i + 1 < n
   ·rw [ih (i + 1) h1 (by omega), Nat.add_comm (runLen f n (i + 1)) 1, Nat.add_comm 1 (runLen f n (i + 1)), List.range'_succ, List.cons_append]
    congr 3
    omega
   ·have e : runLen f n (i + 1) = 0 := by rw [runLen, if_neg (by omega)]
    rw [e]
    simp [List.range'_succ]
  ·simp
theorem runLen_end (f : Nat → Bool) (n i : Nat) (h : i + runLen f n i < n) : f (i + runLen f n i) = false := by
 induction hm : n - i generalizing i with
 | zero => rcases runLen_le f n i with q | q <;> omega
 | succ m ih =>
  rw [runLen, if_pos (by omega)] at h ⊢
  split
  ·rename_i hf
   rw [if_pos hf] at h
   have := ih (i + 1) (by omega) (by omega)
   rw [show i + (runLen f n (i + 1) + 1) = i + 1 + runLen f n (i + 1) by omega]
   exact this
  ·rename_i hf
   simpa using hf
theorem expand_frees (f : Nat → Bool) (n i : Nat) : expand (frees f n i) = freeList f n i := by
 induction hm : n - i using Nat.strongRecOn generalizing i with
 | _ m ih =>
  subst hm
  rw [frees]
  split
  ·rename_i h
   have hl := runLen_le f n i
   split
   ·rename_i h0
    rw [ih _ (by omega) (i + 1) rfl]
    have := freeList_step f n i h
    have hf : f i = false := by have := runLen_end f n i (by omega); rwa [h0] at this
    rw [this, hf]; rfl
   ·rw [expand_cons, ih _ (by omega) _ rfl, freeList_run f n i h]
    congr 1
    by_cases h1 : i + runLen f n i < n
    ·rw [freeList_step f n _ h1, runLen_end f n i h1]; rfl
    ·unfold freeList
     rw [show n - (i + runLen f n i) = 0 by omega, show n - (i + runLen f n i + 1) = 0 by omega]; rfl
  ·unfold freeList
   rw [show n - i = 0 by omega]; rfl
theorem frees_pos (f : Nat → Bool) (n i : Nat) : ∀ r ∈ frees f n i, 1 ≤ r.2 ∧ r.1 + r.2 ≤ n := by
 induction hm : n - i using Nat.strongRecOn generalizing i with
 | _ m ih =>
  subst hm
  intro r hr
  rw [frees] at hr
  split at hr
  ·rename_i h
   have hl := runLen_le f n i
   split at hr
   ·exact ih _ (by omega) (i + 1) rfl r hr
   ·rcases List.mem_cons.1 hr with rfl | hr
    ·exact ⟨by show 1 ≤ runLen f n i; omega, by show i + runLen f n i ≤ n; omega⟩
    ·exact ih _ (by omega) _ rfl r hr
  ·simp at hr
def takeR : List Run → Nat → List Run
 | [], _ => []
 | r :: l, n => if n = 0 then [] else (r.1, min r.2 n) :: takeR l (n - min r.2 n)
theorem expand_takeR : ∀ (l : List Run) (n : Nat), expand (takeR l n) = (expand l).take n
 | [], n => by simp [takeR, expand]
 | r :: l, n => by
  rw [takeR]
  split
  ·rename_i h; subst h; simp [expand]
  ·rw [expand_cons, expand_cons, expand_takeR l, List.take_append, List.length_range']
   congr 1
   ·apply List.ext_getElem?
    intro i
    simp only [List.getElem?_take]
    grind
   ·congr 1
    omega
theorem takeR_pos : ∀ (l : List Run) (n : Nat), (∀ r ∈ l, 1 ≤ r.2) → ∀ r ∈ takeR l n, 1 ≤ r.2
 | [], n, _, r, hr => by simp [takeR] at hr
 | x :: l, n, h, r, hr => by
  rw [takeR] at hr
  split at hr
  ·simp at hr
  ·rcases List.mem_cons.1 hr with rfl | hr
   ·have := h x (by simp); show 1 ≤ min x.2 n; omega
   ·exact takeR_pos l _ (fun y hy => h y (by simp [hy])) r hr
theorem takeR_le : ∀ (l : List Run) (n m : Nat), (∀ r ∈ l, r.1 + r.2 ≤ m) → ∀ r ∈ takeR l n, r.1 + r.2 ≤ m
 | [], n, _, _, r, hr => by simp [takeR] at hr
 | x :: l, n, m, h, r, hr => by
  rw [takeR] at hr
  split at hr
  ·simp at hr
  ·rcases List.mem_cons.1 hr with rfl | hr
   ·have := h x (by simp); show x.1 + min x.2 n ≤ m; omega
   ·exact takeR_le l _ m (fun y hy => h y (by simp [hy])) r hr
theorem lenR_takeR (l : List Run) (n : Nat) (h : n ≤ lenR l) : lenR (takeR l n) = n := by
 rw [← expand_len, expand_takeR, List.length_take, expand_len]; omega
theorem mem_expand {l : List Run} {b : Nat} : b ∈ expand l ↔ ∃ r ∈ l, r.1 ≤ b ∧ b < r.1 + r.2 := by
 simp only [expand, List.mem_flatMap, List.mem_range'_1]
theorem mem_freeList {f : Nat → Bool} {n b : Nat} : b ∈ freeList f n 0 ↔ b < n ∧ f b = true := by
 simp only [freeList, List.mem_filter, List.mem_range'_1]
 constructor
 ·rintro ⟨⟨-, h⟩, g⟩; exact ⟨by omega, g⟩
 ·rintro ⟨h, g⟩; exact ⟨⟨by omega, by omega⟩, g⟩
theorem nodup_freeList (f : Nat → Bool) (n : Nat) : (freeList f n 0).Nodup := (List.nodup_range' ..).filter _
end Go.Proofs.YtgpefiacbipfpaaGreatDoor

namespace Go.Proofs.YtgpefiacbipfpaaGreatDoor
structure Ord {κ : Type} (lt : κ → κ → Bool) : Prop where
 irrefl : ∀ a, lt a a = false
 trans : ∀ a b c, lt a b = true → lt b c = true → lt a c = true
 total : ∀ a b, a = b ∨ lt a b = true ∨ lt b a = true
section
variable {κ α β : Type} [DecidableEq κ] {lt : κ → κ → Bool}
def putA (lt : κ → κ → Bool) : List (κ × α) → κ → α → List (κ × α)
 | [], k, x => [(k, x)]
 | p :: l, k, x => if lt p.1 k then p :: putA lt l k x else if p.1 = k then (k, x) :: l else (k, x) :: p :: l
def delA (l : List (κ × α)) (k : κ) : List (κ × α) := l.filter fun p => !decide (p.1 = k)
def getA (l : List (κ × α)) (k : κ) : Option α := (l.find? fun p => decide (p.1 = k)).map (·.2)
def Srt (lt : κ → κ → Bool) (l : List (κ × α)) : Prop := l.Pairwise fun p q => lt p.1 q.1 = true
theorem getA_nil (k : κ) : getA ([] : List (κ × α)) k = none := rfl
theorem getA_cons (p : κ × α) (l : List (κ × α)) (k : κ) : getA (p :: l) k = if p.1 = k then some p.2 else getA l k := by
 unfold getA
 by_cases h : p.1 = k <;> simp [h]
end
section
variable {κ α β : Type} {lt : κ → κ → Bool}
theorem Srt.tail {p : κ × α} {l : List (κ × α)} (h : Srt lt (p :: l)) : Srt lt l := (List.pairwise_cons.1 h).2
end
section
variable {κ α β : Type} [DecidableEq κ] {lt : κ → κ → Bool}
end
section
variable {κ α β : Type} {lt : κ → κ → Bool}
theorem Srt.head {p : κ × α} {l : List (κ × α)} (h : Srt lt (p :: l)) : ∀ q ∈ l, lt p.1 q.1 = true := (List.pairwise_cons.1 h).1
end
section
variable {κ α β : Type} [DecidableEq κ] {lt : κ → κ → Bool}
theorem getA_mem {l : List (κ × α)} {k : κ} {x : α} (h : getA l k = some x) : (k, x) ∈ l := by
 induction l with
 | nil => cases h
 | cons p l ih =>
  rw [getA_cons] at h
  split at h
  ·rename_i e
   obtain ⟨a, b⟩ := p
   cases h; subst e; simp
  ·exact List.mem_cons_of_mem _ (ih h)
theorem getA_none {l : List (κ × α)} {k : κ} : getA l k = none ↔ ∀ p ∈ l, p.1 ≠ k := by
 induction l with
 | nil => simp [getA]
 | cons p l ih => rw [getA_cons]; split <;> simp_all
variable (O : Ord lt)
include O
end
section
variable {κ α β : Type} {lt : κ → κ → Bool}
variable (O : Ord lt)
include O
theorem Ord.ne {a b : κ} (h : lt a b = true) : a ≠ b := by
 rintro rfl
 rw [O.irrefl] at h; cases h
end
section
variable {κ α β : Type} [DecidableEq κ] {lt : κ → κ → Bool}
variable (O : Ord lt)
include O
end
section
variable {κ α β : Type} {lt : κ → κ → Bool}
variable (O : Ord lt)
include O
theorem Ord.asymm {a b : κ} (h : lt a b = true) : lt b a = false := by
 cases g : lt b a with
 | false => rfl
 | true => have := O.trans _ _ _ h g; rw [O.irrefl] at this; cases this
end
section
variable {κ α β : Type} [DecidableEq κ] {lt : κ → κ → Bool}
variable (O : Ord lt)
include O
theorem getA_of_mem {l : List (κ × α)} (h : Srt lt l) {p : κ × α} (hp : p ∈ l) : getA l p.1 = some p.2 := by
 induction l with
 | nil => simp at hp
 | cons q l ih =>
  rw [getA_cons]
  rcases List.mem_cons.1 hp with rfl | hp
  ·rw [if_pos rfl]
  ·rw [if_neg (O.ne (h.head p hp)), ih h.tail hp]
end
section
variable {κ α β : Type} [DecidableEq κ] {lt : κ → κ → Bool}
theorem mem_putA {l : List (κ × α)} {k : κ} {x : α} {p : κ × α} (h : p ∈ putA lt l k x) : p = (k, x) ∨ (p ∈ l) := by
 induction l with
 | nil => simpa [putA] using h
 | cons q l ih =>
  simp only [putA] at h
  split at h
  ·rcases List.mem_cons.1 h with rfl | h
   ·exact .inr (by simp)
   ·rcases ih h with h | h
    ·exact .inl h
    ·exact .inr (by simp [h])
  ·split at h
   ·rcases List.mem_cons.1 h with h | h
    ·exact .inl h
    ·exact .inr (by simp [h])
   ·rcases List.mem_cons.1 h with h | h
    ·exact .inl h
    ·exact .inr h
end
section
variable {κ α β : Type} [DecidableEq κ] {lt : κ → κ → Bool}
variable (O : Ord lt)
include O
theorem srt_putA {l : List (κ × α)} (h : Srt lt l) (k : κ) (x : α) : Srt lt (putA lt l k x) := by
 induction l with
 | nil => exact List.pairwise_singleton ..
 | cons q l ih =>
  simp only [putA]
  split
  ·rename_i hq
   refine List.pairwise_cons.2 ⟨fun p hp => ?_, ih h.tail⟩
   rcases mem_putA hp with rfl | hp
   ·exact hq
   ·exact h.head p hp
  ·rename_i hq
   split
   ·rename_i e
    subst e
    exact List.pairwise_cons.2 ⟨fun p hp => h.head p hp, h.tail⟩
   ·rename_i e
    have hk : lt k q.1 = true := by rcases O.total q.1 k with g | g | g
                                    ·exact absurd g e
                                    ·exact absurd g hq
                                    ·exact g
    refine List.pairwise_cons.2 ⟨fun p hp => ?_, h⟩
    rcases List.mem_cons.1 hp with rfl | hp
    ·exact hk
    ·exact O.trans _ _ _ hk (h.head p hp)
theorem getA_putA {l : List (κ × α)} (h : Srt lt l) (k : κ) (x : α) (j : κ) : getA (putA lt l k x) j = if k = j then some x else getA l j := by
 induction l with
 | nil => simp only [putA, getA_cons, getA_nil]
 | cons q l ih =>
  simp only [putA]
  split
  ·rename_i hq
   rw [getA_cons, ih h.tail, getA_cons]
   by_cases hj : k = j
   ·subst hj; rw [if_neg (O.ne hq), if_pos rfl, if_pos rfl]
   ·rw [if_neg hj, if_neg hj]
  ·split
   ·rename_i e
    rw [getA_cons, getA_cons]
    by_cases hj : k = j
    ·rw [if_pos hj, if_pos hj]
    ·rw [if_neg hj, if_neg hj, if_neg (by rw [e]; exact hj)]
   ·rw [getA_cons]
end
section
variable {κ α β : Type} [DecidableEq κ] {lt : κ → κ → Bool}
theorem srt_delA {l : List (κ × α)} (h : Srt lt l) (k : κ) : Srt lt (delA l k) := List.Pairwise.filter _ h
end
section
variable {κ α β : Type} [DecidableEq κ] {lt : κ → κ → Bool}
variable (O : Ord lt)
include O
end
section
variable {κ α β : Type} [DecidableEq κ] {lt : κ → κ → Bool}
theorem mem_delA {l : List (κ × α)} {k : κ} {p : κ × α} : p ∈ delA l k ↔ p ∈ l ∧ p.1 ≠ k := by simp [delA]
end
section
variable {κ α β : Type} [DecidableEq κ] {lt : κ → κ → Bool}
variable (O : Ord lt)
include O
end
section
variable {κ α β : Type} [DecidableEq κ] {lt : κ → κ → Bool}
theorem getA_delA (l : List (κ × α)) (k j : κ) : getA (delA l k) j = if k = j then none else getA l j := by
 induction l with
 | nil => simp [delA, getA]
 | cons p l ih =>
  unfold delA at ih ⊢
  rw [List.filter_cons]
  by_cases hp : p.1 = k
  ·simp only [hp, decide_true, Bool.not_true, Bool.false_eq_true, if_false]
   rw [ih, getA_cons]
   by_cases hj : k = j
   ·rw [if_pos hj, if_pos hj]
   ·rw [if_neg hj, if_neg hj, if_neg (by rw [hp]; exact hj)]
  ·simp only [hp, decide_false, Bool.not_false, if_true]
   rw [getA_cons, ih, getA_cons]
   by_cases hj : k = j
   ·rw [if_pos hj, if_pos hj, if_neg (by rw [← hj]; exact hp)]
   ·rw [if_neg hj, if_neg hj]
end
section
variable {κ α β : Type} [DecidableEq κ] {lt : κ → κ → Bool}
variable (O : Ord lt)
include O
theorem len_putA {l : List (κ × α)} (h : Srt lt l) (k : κ) (x : α) : (putA lt l k x).length = if (getA l k).isSome then l.length else l.length + 1 := by
 induction l with
 | nil => rfl
 | cons q l ih =>
  simp only [putA]
  rw [getA_cons]
  split
  ·rename_i hq
   rw [List.length_cons, ih h.tail, if_neg (O.ne hq)]
   split <;> simp
  ·rename_i hq
   split
   ·rfl
   ·rename_i e
    have hk : lt k q.1 = true := by rcases O.total q.1 k with g | g | g
                                    ·exact absurd g e
                                    ·exact absurd g hq
                                    ·exact g
    have : getA l k = none := getA_none.2 fun p hp => fun e2 => by
     have := O.trans _ _ _ hk (h.head p hp)
     rw [e2, O.irrefl] at this; cases this
    rw [this]; rfl
theorem srt_ext {l r : List (κ × α)} (h : Srt lt l) (g : Srt lt r) (e : ∀ k, getA l k = getA r k) : l = r := by
 induction l generalizing r with
 | nil =>
  cases r with
  | nil => rfl
  | cons q r => have := e q.1; rw [getA_nil, getA_cons, if_pos rfl] at this; cases this
 | cons p l ih =>
  cases r with
  | nil => have := e p.1; rw [getA_nil, getA_cons, if_pos rfl] at this; cases this
  | cons q r =>
   have hpq : p = q := by
    have h1 := getA_mem (by have := e p.1; rw [getA_cons, if_pos rfl] at this; exact this.symm)
    have h2 := getA_mem (by have := e q.1; rw [getA_cons (l := r), if_pos rfl] at this; exact this)
    rcases List.mem_cons.1 h1 with h1 | h1
    ·exact h1
    ·rcases List.mem_cons.1 h2 with h2 | h2
     ·exact h2.symm
     ·have a := g.head _ h1
      have b := h.head _ h2
      have := O.trans _ _ _ a b
      rw [O.irrefl] at this; cases this
   subst hpq
   congr 1
   refine ih h.tail g.tail fun k => ?_
   have := e k
   rw [getA_cons, getA_cons] at this
   by_cases hk : p.1 = k
   ·subst hk
    have a : ∀ {m : List (κ × α)}, (∀ q ∈ m, lt p.1 q.1 = true) → getA m p.1 = none := fun hm => getA_none.2 fun q hq => Ne.symm (O.ne (hm q hq))
    rw [a h.head, a g.head]
   ·rwa [if_neg hk, if_neg hk] at this
end
section
variable {κ α β : Type} [DecidableEq κ] {lt : κ → κ → Bool}
end
section
variable {κ α β : Type} [DecidableEq κ] {lt : κ → κ → Bool}
variable (O : Ord lt)
include O
end
section
variable {κ α β : Type} [DecidableEq κ] {lt : κ → κ → Bool}
end
section
variable {κ α β : Type} [DecidableEq κ] {lt : κ → κ → Bool}
variable (O : Ord lt)
include O
end
section
variable {κ α β : Type} [DecidableEq κ] {lt : κ → κ → Bool}
end
section
variable {κ α β : Type} [DecidableEq κ] {lt : κ → κ → Bool}
variable (O : Ord lt)
include O
theorem putA_perm {l : List (κ × α)} (h : Srt lt l) (k : κ) (x : α) : (putA lt l k x).Perm ((k, x) :: delA l k) := by
 induction l with
 | nil => exact .refl _
 | cons q l ih =>
  have hd : ∀ {m : List (κ × α)}, (∀ p ∈ m, p.1 ≠ k) → delA m k = m := fun hm => List.filter_eq_self.2 fun p hp => by simp [hm p hp]
  simp only [putA]
  split
  ·rename_i hq
   have hne := O.ne hq
   have : delA (q :: l) k = q :: delA l k := by simp [delA, hne]
   rw [this]
   exact (List.Perm.cons q (ih h.tail)).trans (List.Perm.swap ..)
  ·rename_i hq
   split
   ·rename_i e
    have : delA (q :: l) k = delA l k := by simp [delA, e]
    rw [this, hd fun p hp => by have := O.ne (h.head p hp); rw [e] at this; exact Ne.symm this]
   ·rename_i e
    have hk : lt k q.1 = true := by rcases O.total q.1 k with g | g | g
                                    ·exact absurd g e
                                    ·exact absurd g hq
                                    ·exact g
    rw [hd fun p hp => ?_]
    rcases List.mem_cons.1 hp with rfl | hp
    ·exact e
    ·exact Ne.symm (O.ne (O.trans _ _ _ hk (h.head p hp)))
end
end Go.Proofs.YtgpefiacbipfpaaGreatDoor

namespace Go.Proofs.YtgpefiacbipfpaaGreatDoor
structure Fil where
 runs : List Run
 data : Bs
def Fil.blks (f : Fil) : List Nat := expand f.runs
def blocksN (n : Nat) : Nat := (n + 511) / 512
structure FilOk (room : Nat) (f : Fil) : Prop where
 canon : Canon f.runs
 le : ∀ r ∈ f.runs, r.1 + r.2 ≤ room
 len : lenR f.runs = blocksN f.data.length
 most : f.data.length ≤ 32768
abbrev Files := List (Bs × Fil)
def ltN (a b : Bs) : Bool := Op.bytesLess a b
def allBlks (fs : Files) : List Nat := fs.flatMap fun p => p.2.blks
structure FilesOk (room : Nat) (fs : Files) : Prop where
 srt : Srt ltN fs
 few : fs.length ≤ 64
 name : ∀ p ∈ fs, 1 ≤ p.1.length ∧ p.1.length ≤ 40
 ok : ∀ p ∈ fs, FilOk room p.2
 nodup : (allBlks fs).Nodup
theorem FilOk.blks_len {room : Nat} {f : Fil} (h : FilOk room f) : f.blks.length = blocksN f.data.length := by rw [Fil.blks, expand_len, h.len]
theorem FilOk.blks_lt {room : Nat} {f : Fil} (h : FilOk room f) : ∀ b ∈ f.blks, b < room := by
 intro b hb
 obtain ⟨r, hr, h1, h2⟩ := mem_expand.1 hb
 have := h.le r hr
 omega
theorem FilesOk.lt {room : Nat} {fs : Files} (h : FilesOk room fs) : ∀ b ∈ allBlks fs, b < room := by
 intro b hb
 obtain ⟨p, hp, hb⟩ := List.mem_flatMap.1 hb
 exact (h.ok p hp).blks_lt b hb
theorem nodup_le : ∀ {n : Nat} {l : List Nat}, l.Nodup → (∀ b ∈ l, b < n) → l.length ≤ n := by
 intro n
 induction n with
 | zero =>
  intro l _ hn
  cases l with
  | nil => simp
  | cons b l => exact absurd (hn b (by simp)) (by omega)
 | succ n ih =>
  intro l h hn
  have h1 := ih (l := l.erase n) (h.erase n) fun b hb => by
   have hm := List.mem_of_mem_erase hb
   have := hn b hm
   have hne : b ≠ n := fun e => by subst e; exact (List.Nodup.not_mem_erase h) hb
   omega
  have h2 := List.length_erase (a := n) (l := l)
  split at h2 <;> omega
theorem FilesOk.many {room : Nat} {fs : Files} (h : FilesOk room fs) : (allBlks fs).length ≤ room := nodup_le h.nodup h.lt
theorem FilesOk.nil (room : Nat) : FilesOk room [] := ⟨List.Pairwise.nil, by simp, by simp, by simp, by simp [allBlks]⟩
def magicF : Bs := [102, 105, 108, 101, 115]
def runB (r : Run) : Bs := putU r.1 ++ putU r.2
def filB (f : Fil) : Bs := putU f.data.length ++ putU f.runs.length ++ f.runs.flatMap runB
def entB (p : Bs × Fil) : Bs := (putU p.1.length ++ p.1) ++ filB p.2
def dirRaw (fs : Files) : Bs := magicF ++ putU fs.length ++ fs.flatMap entB
def dirB (fs : Files) : Bs := dirRaw fs ++ List.replicate (8192 - (dirRaw fs).length) 0
theorem runs_len {room : Nat} {l : List Run} (hl : ∀ r ∈ l, r.1 + r.2 ≤ room) (hr : room ≤ 512) : (l.flatMap runB).length ≤ 4 * l.length := by
 induction l with
 | nil => simp
 | cons r l ih =>
  have h := hl r (by simp)
  have h1 : (putU r.1).length ≤ 2 := putU_len 1 _ (by omega)
  have h2 : (putU r.2).length ≤ 2 := putU_len 1 _ (by omega)
  have h3 := ih fun x hx => hl x (by simp [hx])
  simp only [List.flatMap_cons, List.length_append, List.length_cons, runB] at *
  omega
theorem runs_few {l : List Run} (h : ∀ r ∈ l, 1 ≤ r.2) : l.length ≤ lenR l := by
 induction l with
 | nil => simp
 | cons r l ih =>
  have := ih fun x hx => h x (by simp [hx])
  have := h r (by simp)
  simp only [lenR, List.map_cons, List.sum_cons, List.length_cons] at *
  omega
theorem entB_len {room : Nat} {p : Bs × Fil} (h : FilOk room p.2) (hn : p.1.length ≤ 40) (hr : room ≤ 512) : (entB p).length ≤ 46 + 4 * p.2.blks.length := by
 have h1 := runs_len h.le hr
 have h2 := runs_few (canon_pos h.canon)
 have h3 : (putU p.1.length).length ≤ 1 := putU_len 0 _ (by omega)
 have h4 : (putU p.2.data.length).length ≤ 3 := putU_len 2 _ (by have := h.most; omega)
 have h5 : lenR p.2.runs ≤ 64 := by rw [h.len]; have := h.most; unfold blocksN; omega
 have h6 : (putU p.2.runs.length).length ≤ 1 := putU_len 0 _ (by omega)
 rw [Fil.blks, expand_len]
 simp only [entB, filB, List.length_append]
 omega
theorem ents_len {room : Nat} (hr : room ≤ 512) : ∀ {fs : Files}, (∀ p ∈ fs, FilOk room p.2) → (∀ p ∈ fs, p.1.length ≤ 40) → (fs.flatMap entB).length ≤ 46 * fs.length + 4 * (allBlks fs).length
 | [], _, _ => by simp
 | p :: fs, h, g => by
  have h1 := ents_len hr (fs := fs) (fun x hx => h x (by simp [hx])) (fun x hx => g x (by simp [hx]))
  have h2 := entB_len (h p (by simp)) (g p (by simp)) hr
  simp only [allBlks, List.flatMap_cons, List.length_append, List.length_cons] at *
  omega
theorem FilesOk.raw_len {room : Nat} {fs : Files} (h : FilesOk room fs) (hr : room ≤ 512) : (dirRaw fs).length ≤ 8000 := by
 have h1 := ents_len hr h.ok fun p hp => (h.name p hp).2
 have h2 := h.many
 have h3 := h.few
 have h4 : (putU fs.length).length ≤ 1 := putU_len 0 _ (by omega)
 simp only [dirRaw, magicF, List.length_append, List.length_cons, List.length_nil]
 omega
theorem FilesOk.dir_len {room : Nat} {fs : Files} (h : FilesOk room fs) (hr : room ≤ 512) : (dirB fs).length = 8192 := by
 have := h.raw_len hr
 simp only [dirB, List.length_append, List.length_replicate]
 omega
def blkOf (b : Bs) (n : Nat) : Bs := (b.drop (n * 512)).take 512
theorem blkOf_len {b : Bs} (h : b.length = 8192) {n : Nat} (hn : n < 16) : (blkOf b n).length = 512 := by
 rw [blkOf, List.length_take, List.length_drop, h]; omega
def writesF (a b : Bs) : List Wr := (List.range 16).filterMap fun n => if blkOf a n = blkOf b n then none else some (n, blkOf b n)
theorem mem_writesF {a b : Bs} {x : Wr} : x ∈ writesF a b ↔ x.1 < 16 ∧ blkOf a x.1 ≠ blkOf b x.1 ∧ x.2 = blkOf b x.1 := by
 simp only [writesF, List.mem_filterMap, List.mem_range]
 constructor
 ·rintro ⟨n, hn, h⟩
  split at h
  ·cases h
  ·cases h; exact ⟨hn, by assumption, rfl⟩
 ·rintro ⟨h1, h2, h3⟩
  refine ⟨x.1, h1, ?_⟩
  rw [if_neg h2]
  cases x; simp_all
theorem over_writesF {a b : Bs} (hb : b.length = 8192) : Over (writesF a b) (blkOf a) (blkOf b) where
 wok := ⟨by
     have := List.length_filterMap_le (fun n => if blkOf a n = blkOf b n then none else some (n, blkOf b n)) (List.range 16)
     rwa [List.length_range] at this,
  fun x hx => by have := (mem_writesF.1 hx).1; omega, fun x hx => by obtain ⟨h1, -, h3⟩ := mem_writesF.1 hx; rw [h3]; exact blkOf_len hb h1⟩
 low := fun x hx => (mem_writesF.1 hx).1
 is := fun x hx => (mem_writesF.1 hx).2.2
 rest := fun n hn h => by
  by_cases e : blkOf a n = blkOf b n
  ·exact e
  ·exact absurd (List.mem_map.2 ⟨(n, blkOf b n), mem_writesF.2 ⟨hn, e, rfl⟩, rfl⟩) h
def HoldsB (c : Nat → Bs) (bl : List Nat) (X : Bs) : Prop := ∀ j b i, bl[j]? = some b → i < 512 → 512 * j + i < X.length → (c b)[i]? = X[512 * j + i]?
def Holds (c : Nat → Bs) (f : Fil) : Prop := HoldsB c f.blks f.data
def dataV (l : Nat → Cell) (b : Nat) : Bs := (l (36 + b)).view
def Sure (l : Nat → Cell) (f : Fil) : Prop := ∀ c : Nat → Bs, (∀ b, c b ∈ (l (36 + b)).poss) → Holds c f
theorem Sure.holds {l : Nat → Cell} {f : Fil} (h : Sure l f) : Holds (dataV l) f := h _ fun b => (l (36 + b)).view_mem
theorem Holds.congr {c c' : Nat → Bs} {f : Fil} (h : Holds c f) (e : ∀ b ∈ f.blks, c' b = c b) : Holds c' f := by
 intro j b i hj hi hx
 rw [e b (List.mem_of_getElem? hj)]
 exact h j b i hj hi hx
theorem sure_of_still {l : Nat → Cell} {f : Fil} (h : Holds (dataV l) f) (g : ∀ b ∈ f.blks, (l (36 + b)).pend = []) : Sure l f := by
 intro c hc
 refine h.congr fun b hb => ?_
 have := hc b
 rw [Cell.poss, g b hb, List.mem_singleton] at this
 rw [this, dataV, Cell.view, g b hb]
 rfl
def Kin (f g : Fil) : Prop := (∀ b ∈ f.blks, b ∉ g.blks) ∨ (g.blks <+: f.blks ∧ g.data <+: f.data)
structure FsInv (l : Nat → Cell) (room k s : Nat) (fs last : Files) : Prop where
 few : room ≤ 476
 quiet : Quiet l k s (blkOf (dirB last))
 sized : Sized l
 now : FilesOk room fs
 was : FilesOk room last
 holds : ∀ p ∈ fs, Holds (dataV l) p.2
 sure : ∀ p ∈ last, Sure l p.2
 kin : ∀ p ∈ fs, ∀ q ∈ last, Kin p.2 q.2
structure Rest (l : Nat → Cell) (room k : Nat) (fs : Files) : Prop where
 few : room ≤ 476
 recov : Recov l k (blkOf (dirB fs))
 sized : Sized l
 ok : FilesOk room fs
 pend : ∀ i, (l i).pend = []
 holds : ∀ p ∈ fs, Holds (dataV l) p.2
end Go.Proofs.YtgpefiacbipfpaaGreatDoor
