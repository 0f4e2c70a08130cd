/- Files in memory: a map of names with nodes. -/
import Derived.StringKeys
import Derived.RangeFuncNested
import Derived.RangeFuncKeeps
import Derived.RangeFuncLeaves
import Derived.RangeFuncBound
import Derived.RangeFuncCalls
import Derived.OrdersHeld
import Derived.OrdersIn
import Derived.Deep.RegionHeld3
import Derived.Shelf.Abstract
import Derived.OwnWalkIn
import Derived.TacticsInMore
import Derived.LoopNIn
import Derived.LoopIn
import Derived.Deep.DeepCutAuto
import Derived.Test.YtgpefiacbipfpaaGreatDoorC17
import Derived.Test.YtgpefiacbipfpaaGreatDoorC18
set_option maxRecDepth 100000
set_option maxHeartbeats 4000000
namespace Go.Proofs.YtgpefiacbipfpaaGreatDoor
open Go.RowKit Go.Maps
abbrev sE (a : Nat) : Value := .pointer (some ⟨a, 0, none⟩)
def dW (fs : aG) (A : Bs → Nat) : List (Bs × Value) := fs.map fun p => (p.1, sE (A p.1))
theorem qZ {fs : aG} (h : cP bQ fs) (A : Bs → Nat) : cP bQ (dW fs A) := by
 unfold dW
 exact List.Pairwise.map _ (fun _ _ h => h) h
theorem rA (fs : aG) (A : Bs → Nat) (nm : Bs) : bF (dW fs A) nm = (bF fs nm).map fun _ => sE (A nm) := by
 induction fs with
 | nil => rfl
 | cons p fs ih =>
  show bF ((p.1, sE (A p.1)) :: dW fs A) nm = _
  rw [gD, gD, ih]
  by_cases h : p.1 = nm
  ·simp [h]
  simp [h]
structure dL (w : World) (mf : Nat) (fs : aG) (A : Bs → Nat) (R : Bs → Value) (FM : List Nat) : Prop where
 map : fO w mf (dW fs A)
 node : ∀ p ∈ fs, iG w 0 (A p.1) p.2.data.length (R p.1) p.2.runs
 mem : mf ∈ FM
 memA : ∀ p ∈ fs, A p.1 ∈ FM
 memR : ∀ p ∈ fs, ∀ g, (R p.1).ownBlock = some g → g ∈ FM
 apA : ∀ p ∈ fs, ∀ q ∈ fs, p.1 ≠ q.1 → A p.1 ≠ A q.1
 apR : ∀ p ∈ fs, ∀ q ∈ fs, p.1 ≠ q.1 → ∀ g, (R p.1).ownBlock = some g → (R q.1).ownBlock ≠ some g
 lt : ∀ i ∈ FM, i < w.heap.size
theorem iG.upd {w w' : World} {base q size : Nat} {rv : Value} {runs : List aR} (h : iG w base q size rv runs) {F : List Nat} (u : aB F w w') (hq : q ∉ F) (hr : ∀ g, rv.ownBlock = some g → g ∉ F) : iG w' base q size rv runs :=
 ⟨(u.block q (aH h.1) hq).trans h.1, h.2.upd u fun j hj e => hr j e hj⟩
theorem dL.upd {w w' : World} {mf : Nat} {fs : aG} {A : Bs → Nat} {R : Bs → Value} {FM : List Nat} (h : dL w mf fs A R FM) {F : List Nat} (u : aB F w w') (hF : ∀ i ∈ FM, i ∉ F) : dL w' mf fs A R FM :=
 ⟨mJ h.map u (hF _ h.mem), fun p hp => (h.node p hp).upd u (hF _ (h.memA p hp)) fun g hg => hF _ (h.memR p hp g hg), h.mem, h.memA, h.memR, h.apA, h.apR, fun i hi => dN (h.lt i hi) u.size⟩
theorem fO.look {w : World} {mb : Nat} {L : List (Bs × Value)} (h : fO w mb L) {t e : TypeId} (ht : Tryz.prog.underlying t = some (.map 9 e)) {z : Value} (hz : (zeroValue e).run Tryz.prog w = .ok z w) (s : ByteArray) (hs : s.size ≤ maxLen) :
  (Instr.lookup t (.map (some mb)) (.string s) false).run Tryz.prog w = .ok ((bF L s.data.toList).getD z) w := by
 obtain ⟨v, ps, hrun, hv⟩ := World.ownsMap.lookup h xG ht hz (zd := .held z) (zp := []) rfl (kl := Lit.string s.data.toList) (WideMaps.keyOf_string_mk Tryz.underlying9 hs)
 rw [hrun]
 simp only [iN, fY, Prod.mk.injEq] at hv
 rw [BT xE] at hv
 cases hg : bF L s.data.toList with
 | none => rw [hg] at hv; cases hv.1; rfl
 | some u => rw [hg] at hv; cases hv.1; rfl
end Go.Proofs.YtgpefiacbipfpaaGreatDoor
namespace Go.Proofs.YtgpefiacbipfpaaGreatDoor
open Go.RowKit
theorem Ok {l n : Nat} {P : Program} {f : FuncId} {args : Array Value} {w : World} {R : Ending → World → Prop} (h : Calls P f args w R) : CallsIn (Fence.wide.inRound l) n P f args w R :=
 CallsIn.inRound l (jJ.2 h)
theorem Ol {l n : Nat} {P : Program} {row : String} {args : Array Value} {w : World} {R : Value → World → Prop} (h : Rows P row args w R) : RowsIn (Fence.wide.inRound l) n P row args w R :=
 fun c cs _ => let ⟨v, w', r, s⟩ := h c cs; ⟨v, w', r, stepsIn_wide.2 s⟩
theorem Hb {l n : Nat} {P : Program} {o : Oper} {a : Act} {w : World} {K : Act → World → Prop} {Q : Exit → Act → World → Prop} (hd : ∀ c, o.op ≠ .defer c) (h : o.wp P a w K Q) : o.wpIn (Fence.wide.inRound l) n P a w K Q := by
 refine ⟨fun _ _ => trivial, ?_⟩
 rw [Oper.semAt_plain _ _ _ hd]
 unfold Oper.wp at h
 generalize (execOp a.eval o).run P w = r at *
 cases r with
 | ok x w' =>
  cases x <;> simp only [Oper.upon, Oper.uponIn] at h ⊢ <;> first
   | exact h
   | exact h.elim
   | exact ⟨(fun h => by cases h), Ok (Calls.mono h fun e w'' he => by cases e <;> exact he)⟩
   | exact ⟨(fun h => by cases h), Ol h⟩
 | halt x w' => cases x <;> simp only [Oper.upon, Oper.uponIn] at h ⊢ <;> first | exact h | exact h.elim
def CJ (ops : Array Oper) : Bool := ops.toList.all fun o => match o.op with | .defer _ => false | _ => true
theorem Om {ops : Array Oper} (h : CJ ops = true) {i : Nat} {o : Oper} (hi : ops[i]? = some o) : ∀ c, o.op ≠ .defer c := by
 intro c hc
 have := List.all_eq_true.1 h o (by rw [Array.mem_toList_iff]; exact Array.mem_of_getElem? hi)
 rw [hc] at this
 cases this
theorem Ap {l n : Nat} {P : Program} {md : Region.Mode} {ops : Array Oper} {Q : Exit → Act → World → Prop} (hd : CJ ops = true) (hQ : ¬ LetsOut Q) : ∀ (fuel : Nat) (listed : Array Bool) (a : Act) (w : World), wpAny P md ops Q fuel listed a w → wpAnyIn (Fence.wide.inRound l) n P md ops Q fuel listed a w
 | 0, _, _, _, h => h
 | fuel + 1, listed, a, w, h => by
  refine ⟨h.1, fun i hi => ?_⟩
  have h2 := h.2 i hi
  unfold wpOp at h2
  unfold wpOpIn
  split at h2
  ·rename_i ho
   rw [ho]
   exact Ap hd hQ fuel _ a w h2
  rename_i o ho
  rw [ho]
  dsimp only
  split at h2
  ·rename_i hw
   rw [aF hw]
   rcases h2 with h2 | ⟨-, h2⟩
   ·exact Oper.wpIn_mono (fun a w h => Ap hd hQ fuel _ a w h) (Hb (Om hd ho) h2)
   exact absurd h2 hQ
  rename_i hw
  rw [aE hw]
  exact ⟨fun _ _ => trivial, Ap hd hQ fuel _ _ w h2⟩
theorem Hc {l n : Nat} {P : Program} {ops : Array Oper} {Q : Exit → Act → World → Prop} {S : World → Prop} {id : Nat} {a : Act} {w : World} (hm : P.follows .mixedOrders = true) (hd : CJ ops = true) (hQ : ¬ LetsOut Q) (hS : S w.drew)
  (h : S w.drew → wpAnyH P .any ops Q S ops.size (Array.replicate ops.size false) a w.drew) : (Code.region id ops true).wpIn (Fence.wide.inRound l) n P Q a w :=
 wpIn_region_any hm (Ap hd hQ _ _ _ _ (wpAny_of_held _ _ _ _ (h hS)))
theorem aB.of_grown {w w' : World} {row : Option Nat} (h : w.grownBy w' row) : aB row.toList w w' :=
 ⟨h.os, h.output, h.size, fun k hk hn => h.block k hk fun e => hn (by rw [← e]; simp)⟩
theorem aB.putObj {W : World} (l : Nat) (o : Obj) : aB [l] W (W.putObj l o) := aB.of_grown (grownBy_putObj' W l o)
def eC (B : Nat) (I : World → Prop) : Prop := ∀ X Y F, I X → aB F X Y → (∀ r ∈ F, B ≤ r ∧ ∃ o : Obj, X.heap[r]? = some o ∧ o.isCells = false) → I Y
theorem eC.put {B : Nat} {I : World → Prop} (h : eC B I) {W : World} {l : Nat} {o : Obj} (o' : Obj) (hi : I W) (hl : B ≤ l) (ho : W.heap[l]? = some o) (hc : o.isCells = false) : I (W.putObj l o') :=
 h W _ [l] hi (aB.putObj l o') fun r hr => by rw [aM] at hr; subst hr; exact ⟨hl, o, ho, hc⟩
theorem eC.and {B : Nat} {I J : World → Prop} (h : eC B I) (g : eC B J) : eC B fun W => I W ∧ J W := fun X Y F hx u hr => ⟨h X Y F hx.1 u hr, g X Y F hx.2 u hr⟩
def CK {α : Type} (n : Nat) (P : Program) (g : Nat) (lb : Array Value) (Enc : α → Array Value → Nat → World → Prop) (Kp : World → World → Prop) (full : List α) (w : World) : Prop :=
 ∀ (l : Nat) (J Jx : List α → World → Prop) (W : World), aB [] w W → (∀ s X Y, J s X → aB [] X Y → J s Y) → (∀ s X Y, Jx s X → aB [] X Y → Jx s Y) →
  (∀ pre x vs W0 W1, J pre W0 → aB [] W0 W1 → Enc x vs W0.heap.size W1 → pre ++ [x] <+: full → YieldAt Fence.wide (n - 1) P l vs W1 fun e W' =>
   (e = .returned (.bool true) ∧ J (pre ++ [x]) W' ∧ Kp W1 W') ∨ (e = .returned (.bool false) ∧ Jx (pre ++ [x]) W')) →
  J [] W →
  CallsIn Fence.wide n P g (#[.func (.yield l) #[] #[]] ++ lb) W fun e W' => (∃ v, e = .returned v) ∧ (J full W' ∨ ∃ pre, pre <+: full ∧ Jx pre W')
def Aq {α : Type} (n : Nat) (P : Program) (g : Nat) (lb : Array Value) (encs : α → Array Value) (Kp : World → World → Prop) (full : List α) (w : World) : Prop :=
 ∀ (l : Nat) (J Jx : List α → World → Prop) (W : World), aB [] w W → (∀ s X Y, J s X → aB [] X Y → J s Y) → (∀ s X Y, Jx s X → aB [] X Y → Jx s Y) →
  (∀ pre x W1, J pre W1 → pre ++ [x] <+: full → YieldAt Fence.wide (n - 1) P l (encs x) W1 fun e W' =>
   (e = .returned (.bool true) ∧ J (pre ++ [x]) W' ∧ Kp W1 W') ∨ (e = .returned (.bool false) ∧ Jx (pre ++ [x]) W')) →
  J [] W →
  CallsIn Fence.wide n P g (#[.func (.yield l) #[] #[]] ++ lb) W fun e W' => (∃ v, e = .returned v) ∧ (J full W' ∨ ∃ pre, pre <+: full ∧ Jx pre W')
theorem Aq.v {α : Type} {n : Nat} {P : Program} {g : Nat} {lb : Array Value} {encs : α → Array Value} {Kp : World → World → Prop} {full : List α} {w : World} (h : Aq n P g lb encs Kp full w) : CK n P g lb (fun x vs _ _ => vs = encs x) Kp full w :=
 fun l J Jx W a b c d e => h l J Jx W a b c (fun pre x W1 h1 h2 => d pre x _ W1 W1 h1 (aB.refl _ _) rfl h2) e
theorem CM {α : Type} {n : Nat} {P : Program} {g : Operand} {ps : Array Tmp} {assign body : Code} {Q : Exit → Act → World → Prop} {a : Act} {w : World}
  {gf : Nat} {lb : Array Value} (hg : a.eval g = .func (.func gf) #[] lb) (eg : ∀ args w, (callFunc gf args).run P w = .ok (.enter gf args) w)
  {Enc : α → Array Value → Nat → World → Prop} {Kp : World → World → Prop} {full : List α} {w0 : World} (hseq : CK (n - 1) P gf lb Enc Kp full w0)
  (hKt : ∀ {A B C : World}, Kp A B → Kp B C → Kp A C) (hKb : ∀ (W : World) (l : Nat) (o o' : Obj), w.heap.size ≤ l → W.heap[l]? = some o → o.isCells = false → Kp W (W.putObj l o')) (hb0 : aB [] w0 w) (hps : ∀ x vs b W, Enc x vs b W → vs.size = ps.size)
  (I : List α → World → Prop) (Ix : Code → List α → World → Prop) (hI : ∀ s, eC w.heap.size (I s)) (hIx : ∀ c s, eC w.heap.size (Ix c s)) (h0 : I [] w) (Ax : List α → α → Act → World → Prop) (hAx : ∀ s x a', eC w.heap.size (Ax s x a'))
  (hassign : ∀ (l : Nat) (pre : List α) (x : α) (vs : Array Value) (V W : World) (K : Act → World → Prop), I pre V → aB [] V W → Enc x vs V.heap.size W → (∀ a' W', KeepsOthers W W' → Kp W W' → I pre W' → Ax pre x a' W' → K a' W') →
   assign.wpIn (Fence.wide.inRound l) (n - 1 - 1) P (Exit.then K (fun _ _ _ => False)) { tmps := (ps.zip vs).foldl (fun t (p, v) => t.setIfInBounds p v) a.tmps, defers := [] } W)
  (hbody : ∀ (l : Nat) (pre : List α) (x : α) (a' : Act) (W : World), I pre W → Ax pre x a' W → pre ++ [x] <+: full → body.wpIn (Fence.wide.inRound l) (n - 1 - 1) P (ownPostK Kp I Ix (pre ++ [x]) W) a' W)
  (hdone : ∀ (D : Nat) (W : World), w.heap.size ≤ D → I full W → W.heap[D]? = some (.deferred (some [])) → Q .normal { a with defers := { target := .collected D, args := #[] } :: a.defers } W)
  (hstop : ∀ (D : Nat) (c : Code) (pre : List α) (W : World), w.heap.size ≤ D → pre <+: full → Ix c pre W → W.heap[D]? = some (.deferred (some [])) → c.wpIn Fence.wide n P Q { a with defers := { target := .collected D, args := #[] } :: a.defers } W) :
  (Code.rangeFunc g ps assign body).wpIn Fence.wide n P Q a w := by
 refine wpIn_rangeFunc fun fn hfn => ?_
 let rec_ : LoopState → Option Code → Loop := fun st pe => { state := st, pending := pe, fn, tmps := a.tmps, params := ps, assign, body, defers := w.heap.size }
 obtain ⟨rc, hrc⟩ : ∃ rc, rc = rec_ := ⟨_, rfl⟩
 let W1 : World := (w.alloc (.deferred (some []))).alloc (.loop (rc .ready none))
 have hL1 : W1.heap[w.heap.size + 1]? = some (.loop (rc .ready none)) := by
  show ((w.alloc _).alloc _).heap[_]? = _
  rw [heap_alloc, aF (by simp)]
 have hD1 : W1.heap[w.heap.size]? = some (.deferred (some [])) := by
  show ((w.alloc _).alloc _).heap[_]? = _
  rw [heap_alloc, aE (by simp), heap_alloc, aF rfl]
 have hU1 : aB [] w W1 := ((aB.refl [] w).alloc _).alloc _
 have hI1 : I [] W1 := hI [] w W1 [] h0 hU1 (by simp)
 refine ⟨w.heap.size + 1, [{ target := .collected w.heap.size, args := #[] }], W1, { target := .fn (.func gf) lb, args := #[.func (.yield (w.heap.size + 1)) #[] #[]] }, W1, gf,
  #[.func (.yield (w.heap.size + 1)) #[] #[]] ++ lb, W1, ?_, ?_, fun _ _ => trivial, ?_, (fun h => by cases h), ?_⟩
 ·show _ = Result.ok _ ((w.alloc (.deferred (some []))).alloc (.loop (rc .ready none)))
  rw [hrc]; exact run_enterLoop_outer _ _ _ _ _
 ·simp only [resolve, hg]
  simp [go_sem]
 ·simp [invoke, go_sem, eg]
 clear_value W1
 have keepL : ∀ {X Y : World} {k : Nat} {o : Obj}, X.heap[k]? = some o → aB [] X Y → Y.heap[k]? = some o := fun h u => (u.block _ (aH h) (by simp)).trans h
 refine (hseq (w.heap.size + 1)
  (fun pre W => I pre W ∧ W.heap[w.heap.size + 1]? = some (.loop (rc .ready none)) ∧ W.heap[w.heap.size]? = some (.deferred (some [])))
  (fun pre W => ∃ c, Ix c pre W ∧ W.heap[w.heap.size + 1]? = some (.loop (rc .done (some c))) ∧ W.heap[w.heap.size]? = some (.deferred (some [])))
  W1 (hb0.trans hU1)
  (fun s X Y h u => ⟨hI s X Y [] h.1 u (by simp), keepL h.2.1 u, keepL h.2.2 u⟩)
  (fun s X Y ⟨c, h, h1, h2⟩ u => ⟨c, hIx c s X Y [] h u (by simp), keepL h1 u, keepL h2 u⟩)
  ?_ ⟨hI1, hL1, hD1⟩).mono ?_
 ·rintro pre x vs V W ⟨hi, hl, hk⟩ hvw henc hpre
  have hl := keepL hl hvw
  have hk := keepL hk hvw
  have hy := run_yield (P := P) (args := vs) hl (by rw [hrc]; exact hps x vs _ W henc)
  rw [hrc] at hy
  refine ⟨fn, _, assign, body, hy, roundIn_of_wpIn trivial (hassign _ pre x vs V W _ hi hvw henc ?_)⟩
  clear hy
  intro a' Wa hka hpa hia hax
  have hla := hka.same _ _ hl rfl
  have hda := hka.same _ _ hk rfl
  refine ⟨_, run_beginRound hla (by rw [hrc]), ?_⟩
  obtain ⟨Wb, hWb⟩ : ∃ Wb, Wb = Wa.putObj (w.heap.size + 1) (.loop { rc .ready none with state := .busy }) := ⟨_, rfl⟩
  rw [← hWb]
  have hlb : Wb.heap[w.heap.size + 1]? = some (.loop { rc .ready none with state := .busy }) := by rw [hWb]; exact World.putObj_heap_same (aH hla)
  have hdb : Wb.heap[w.heap.size]? = some (.deferred (some [])) := by rw [hWb]; exact (World.putObj_heap_other (by omega)).trans hda
  have hpb : Kp W Wb := by rw [hWb]; exact hKt hpa (hKb _ _ _ _ (by omega) hla rfl)
  have hib : I pre Wb := by rw [hWb]; exact (hI pre).put _ hia (by omega) hla rfl
  have hab : Ax pre x a' Wb := by rw [hWb]; exact (hAx pre x a').put _ hax (by omega) hla rfl
  refine wpIn_mono (hbody (w.heap.size + 1) pre x a' Wb hib hab hpre) ?_
  have fin : ∀ (jump : Option Code) (W3 : World), KeepsOthers Wb W3 →
    W3.heap[w.heap.size + 1]? = some (.loop { rc .ready none with state := .busy }) ∧
    (Instr.endRound (w.heap.size + 1) jump).run P W3 = .ok (.bool jump.isNone) (W3.putObj (w.heap.size + 1) (.loop (rc (if jump.isNone then .ready else .done) jump))) ∧
    (W3.putObj (w.heap.size + 1) (.loop (rc (if jump.isNone then .ready else .done) jump))).heap[w.heap.size + 1]? = some (.loop (rc (if jump.isNone then .ready else .done) jump)) ∧
    (W3.putObj (w.heap.size + 1) (.loop (rc (if jump.isNone then .ready else .done) jump))).heap[w.heap.size]? = some (.deferred (some [])) := fun jump W3 h3 => by
   have hl3 := h3.same _ _ hlb rfl
   have hd3 := h3.same _ _ hdb rfl
   have hr := run_endRound (P := P) jump hl3
   refine ⟨hl3, ?_, World.putObj_heap_same (aH hl3), (World.putObj_heap_other (by omega)).trans hd3⟩
   rw [hrc] at hr ⊢
   exact hr
  rintro e a3 W3 hp
  cases e with
  | normal =>
   obtain ⟨h3, hp3, hi3⟩ := hp
   obtain ⟨hl3, hr, hl4, hd4⟩ := fin none W3 h3
   exact ⟨_, _, hr, .inl ⟨rfl, ⟨(hI _).put _ hi3 (by omega) hl3 rfl, hl4, hd4⟩, hKt (hKt hpb hp3) (hKb _ _ _ _ (by omega) hl3 rfl)⟩⟩
  | ret =>
   obtain ⟨h3, hi3⟩ := hp
   obtain ⟨hl3, hr, hl4, hd4⟩ := fin (some .ret) W3 h3
   exact ⟨_, _, hr, .inr ⟨rfl, .ret, (hIx _ _).put _ hi3 (by omega) hl3 rfl, hl4, hd4⟩⟩
  | exit id =>
   obtain ⟨h3, hi3⟩ := hp
   obtain ⟨hl3, hr, hl4, hd4⟩ := fin (some (.exit id)) W3 h3
   exact ⟨_, _, hr, .inr ⟨rfl, .exit id, (hIx _ _).put _ hi3 (by omega) hl3 rfl, hl4, hd4⟩⟩
  | goto t =>
   obtain ⟨h3, hi3⟩ := hp
   obtain ⟨hl3, hr, hl4, hd4⟩ := fin (some (.goto t)) W3 h3
   exact ⟨_, _, hr, .inr ⟨rfl, .goto t, (hIx _ _).put _ hi3 (by omega) hl3 rfl, hl4, hd4⟩⟩
  | panic ch => exact hp.elim
  | outgrown => exact hp.elim
 rintro e W2 ⟨⟨v, rfl⟩, (⟨hi, hl, hk⟩ | ⟨pre, hpre, c, hi, hl, hk⟩)⟩
 ·exact ⟨none, _, by have := run_endLoop (P := P) hl (by rw [hrc]; simp [rec_]); rw [hrc] at this; exact this, hdone _ _ (aQ _) ((hI _).put _ hi (by omega) hl rfl) ((World.putObj_heap_other (by omega)).trans hk)⟩
 exact ⟨some c, _, by have := run_endLoop (P := P) hl (by rw [hrc]; simp [rec_]); rw [hrc] at this; exact this, hstop _ c pre _ (aQ _) hpre ((hIx _ _).put _ hi (by omega) hl rfl) ((World.putObj_heap_other (by omega)).trans hk)⟩
theorem Hd {α : Type} {n : Nat} {P : Program} {g : Operand} {ps : Array Tmp} {assign body : Code} {Q : Exit → Act → World → Prop} {a : Act} {w : World}
  {gf : Nat} {lb : Array Value} (hg : a.eval g = .func (.func gf) #[] lb) (eg : ∀ args w, (callFunc gf args).run P w = .ok (.enter gf args) w)
  {encs : α → Array Value} {Kp : World → World → Prop} {full : List α} {w0 : World} (hseq : Aq (n - 1) P gf lb encs Kp full w0)
  (hKt : ∀ {A B C : World}, Kp A B → Kp B C → Kp A C) (hKb : ∀ (W : World) (l : Nat) (o o' : Obj), w.heap.size ≤ l → W.heap[l]? = some o → o.isCells = false → Kp W (W.putObj l o')) (hb0 : aB [] w0 w) (hps : ∀ x, (encs x).size = ps.size)
  (I : List α → World → Prop) (Ix : Code → List α → World → Prop) (hI : ∀ s, eC w.heap.size (I s)) (hIx : ∀ c s, eC w.heap.size (Ix c s)) (h0 : I [] w) (Ax : α → Act → World → Prop) (hAx : ∀ x a', eC w.heap.size (Ax x a'))
  (hassign : ∀ (l : Nat) (pre : List α) (x : α) (W : World) (K : Act → World → Prop), I pre W → (∀ a' W', KeepsOthers W W' → Kp W W' → I pre W' → Ax x a' W' → K a' W') →
   assign.wpIn (Fence.wide.inRound l) (n - 1 - 1) P (Exit.then K (fun _ _ _ => False)) { tmps := (ps.zip (encs x)).foldl (fun t (p, v) => t.setIfInBounds p v) a.tmps, defers := [] } W)
  (hbody : ∀ (l : Nat) (pre : List α) (x : α) (a' : Act) (W : World), I pre W → Ax x a' W → pre ++ [x] <+: full → body.wpIn (Fence.wide.inRound l) (n - 1 - 1) P (ownPostK Kp I Ix (pre ++ [x]) W) a' W)
  (hdone : ∀ (D : Nat) (W : World), w.heap.size ≤ D → I full W → W.heap[D]? = some (.deferred (some [])) → Q .normal { a with defers := { target := .collected D, args := #[] } :: a.defers } W)
  (hstop : ∀ (D : Nat) (c : Code) (pre : List α) (W : World), w.heap.size ≤ D → pre <+: full → Ix c pre W → W.heap[D]? = some (.deferred (some [])) → c.wpIn Fence.wide n P Q { a with defers := { target := .collected D, args := #[] } :: a.defers } W) :
  (Code.rangeFunc g ps assign body).wpIn Fence.wide n P Q a w :=
 CM hg eg hseq.v hKt hKb hb0 (fun x _ _ _ h => h ▸ hps x) I Ix hI hIx h0 (fun _ => Ax) (fun _ => hAx) (fun l pre x _ V W K hi hvw he hK => by subst he; exact hassign l pre x W K (hI pre V W [] hi hvw (by simp)) hK) hbody hdone hstop
open Go.Maps
def dG (now last : List Bool) (i : Nat) : Bool := !(now.getD i true) && !(last.getD i true)
theorem eA.bool {w : World} {a : Option Addr} {n c : Nat} {rs : List Bool} (h : eA cB 1 w (.slice a n c) rs) {i : Nat} {r : Bool} (hr : rs[i]? = some r) : ∃ b off, a = some ⟨b, off, none⟩ ∧ w.cell? ⟨b, off + i, none⟩ = some (.bool r) := by
 obtain ⟨⟨a', c', hv, -, -, hat⟩, -⟩ := h
 simp only [fG] at hv
 obtain ⟨rfl, -, rfl⟩ := hv
 obtain ⟨hi, rfl⟩ := eX.1 hr
 obtain ⟨b, off, rfl, hc⟩ := hat i hi
 have := hc 0 _ rfl
 rw [jI, kU] at this
 exact ⟨b, off, rfl, this⟩
theorem On (w : World) {B3 B4 : Nat} {v3 v4 : Value} {now last : List Bool} (c3 : w.cell? ⟨B3, 0, none⟩ = some v3) (c4 : w.cell? ⟨B4, 0, none⟩ = some v4) (h3 : eA cB 1 w v3 now) (h4 : eA cB 1 w v4 last) (hl : last.length = now.length) (hm : now.length ≤ 1000000) (i : Nat) (_hi : i ≤ 1000000) :
  Calls Tryz.prog 138 #[.int .i64 i, .pointer (some ⟨B3, 0, none⟩), .pointer (some ⟨B4, 0, none⟩)] w fun e w' => e = .returned (.bool (decide (i < now.length) && dG now last i)) ∧ w' = w := by
 obtain ⟨a3, k3, rfl, -, -, -⟩ := h3.slice
 obtain ⟨a4, k4, rfl, -, -, -⟩ := h4.slice
 by_cases hlt : i < now.length
 ·obtain ⟨x, hx⟩ : ∃ x, now[i]? = some x := ⟨_, bL hlt⟩
  obtain ⟨y, hy⟩ : ∃ y, last[i]? = some y := ⟨_, bL (by omega)⟩
  obtain ⟨b3, o3, rfl, d3⟩ := h3.bool hx
  obtain ⟨b4, o4, rfl, d4⟩ := h4.bool hy
  have hr : (decide (i < now.length) && dG now last i) = (!x && !y) := by
   unfold dG
   rw [dI, dI, hx, hy]
   simp [hlt]
  rw [hr]
  clear hr h3 h4 hx hy
  rw [hl] at c4
  generalize now.length = m at *
  have hlt' : (i : Int) < (m : Int) := by omega
  have hm' : (m : Int) ≤ 1000000 := by omega
  clear hl
  cases x
  ·cases y
   ·go_in
    go_wp2_with fail
    go_ret
    exact ⟨rfl, rfl⟩
   go_in
   go_wp2_with fail
   go_ret
   exact ⟨rfl, rfl⟩
  go_in
  go_wp2_with fail
  go_ret
  exact ⟨rfl, rfl⟩
 have hr : (decide (i < now.length) && dG now last i) = false := by simp [hlt]
 rw [hr]
 clear hr h3 h4 hl
 generalize now.length = m at *
 have hlt' : ¬ (i : Int) < (m : Int) := by omega
 have hm' : (m : Int) ≤ 1000000 := by omega
 go_in
 go_wp2_with fail
 go_ret
 exact ⟨rfl, rfl⟩
theorem He (w : World) (p : Option Addr) : Calls Tryz.prog 88 #[.pointer p] w fun e w' => e = .returned (.func (.func 137) #[] #[.pointer (some ⟨w.heap.size, 0, none⟩)]) ∧ w' = w.alloc (.cells #[.pointer p] 81 (0, 0)) := by
 go_in
 go_wp2_with fail
 go_ret
 exact ⟨rfl, rfl⟩
theorem gF {w w' : World} (u : aB [] w w') {b : Nat} {o : Obj} (h : w.heap[b]? = some o) : w'.heap[b]? = some o := (u.block b (aH h) (by simp)).trans h
theorem jG {w : World} {b : Nat} {o : Obj} (o' : Obj) (h : w.heap[b]? = some o) : (w.alloc o').heap[b]? = some o := gF ((aB.refl [] w).alloc o') h
theorem uN {w : World} {b : Nat} {v : Value} {t : TypeId} (h : w.heap[b]? = some (.cells #[v] t (0, 0))) : (w.cell? ⟨b, 0, none⟩ = some v ∧ w.frozen? ⟨b, 0, none⟩ = false) ∧ (∀ X, (w.alloc X).cell? ⟨b, 0, none⟩ = some v) ∧ (∀ X, (w.alloc X).frozen? ⟨b, 0, none⟩ = false) ∧ w.heap.size ≠ b ∧ b ≠ w.heap.size :=
 ⟨⟨aD h 0, aZ h 0⟩, fun X => aD (jG X h) 0, fun X => aZ (jG X h) 0, fun e => by have := aH h; omega, fun e => by have := aH h; omega⟩
theorem fJ.keepU {w w' : World} {base q : Nat} {nv lv : Value} {now last : List Bool} (h : fJ w base q nv lv now last) (u : aB [] w w') : fJ w' base q nv lv now last :=
 ⟨gF u h.box, h.now.upd u (by simp), h.last.upd u (by simp), h.ne1, h.ne2, bG h.fit u.size, h.sep⟩
structure uO (w : World) (N B3 B4 : Nat) (v3 v4 : Value) (now last : List Bool) : Prop where
 b3 : w.heap[B3]? = some (.cells #[v3] 149 (0, 0))
 b4 : w.heap[B4]? = some (.cells #[v4] 149 (0, 0))
 ge3 : N ≤ B3
 ge4 : N ≤ B4
 now : eV w N v3 now
 last : eV w N v4 last
theorem vW {Y : World} {B : Nat} {v0 : Value} {t : TypeId} (h : Y.heap[B]? = some (.cells #[v0] t (0, 0))) (v : Value) : (Y.setCell ⟨B, 0, none⟩ v).heap[B]? = some (.cells #[v] t (0, 0)) := by
 rw [bJ, aF rfl, h]; rfl
abbrev SA (W : World) (Bm q : Nat) (nv lv : Value) (X : World) : Prop := X.cell? ⟨Bm, 0, none⟩ = some (.pointer (some ⟨q, 0, none⟩)) ∧ X.cell? ⟨q, 0, none⟩ = some nv ∧ X.cell? ⟨q, 1, none⟩ = some lv ∧ aB [] W X
theorem SA.upd {W X Y : World} {Bm q : Nat} {nv lv : Value} (u : aB [] X Y) (h : SA W Bm q nv lv X) : SA W Bm q nv lv Y := ⟨eQ u h.1, eQ u h.2.1, eQ u h.2.2.1, h.2.2.2.trans u⟩
theorem SA.alloc {W X : World} {Bm q : Nat} {nv lv : Value} (o : Obj) (h : SA W Bm q nv lv X) : SA W Bm q nv lv (X.alloc o) := h.upd ((aB.refl [] X).alloc o)
theorem SA.drew {W X : World} {Bm q : Nat} {nv lv : Value} (h : SA W Bm q nv lv X) : SA W Bm q nv lv X.drew := h.upd (aB.refl [] X).drew
theorem SA.set {W X : World} {Bm q : Nat} {nv lv : Value} {B : Nat} (v : Value) (hB : W.heap.size ≤ B) (h0 : Bm < W.heap.size) (h1 : q < W.heap.size) (h : SA W Bm q nv lv X) : SA W Bm q nv lv (X.setCell ⟨B, 0, none⟩ v) := by
 refine ⟨?_, ?_, ?_, h.2.2.2.setCellNew hB _ _⟩
 ·rw [World.cell?_setCell_far _ _ _ _ (fun e => by dsimp only at e; omega)]; exact h.1
 ·rw [World.cell?_setCell_far _ _ _ _ (fun e => by dsimp only at e; omega)]; exact h.2.1
 rw [World.cell?_setCell_far _ _ _ _ (fun e => by dsimp only at e; omega)]; exact h.2.2.1
def uP (W : World) (l Bm q N : Nat) (nv lv : Value) (now last : List Bool) : Exit → Act → World → Prop
 | .normal, a, w' => ∃ B3 B4 v3 v4, a = { tmps := #[.func (.yield l) #[] #[], .pointer (some ⟨Bm, 0, none⟩), undef, .pointer (some ⟨B3, 0, none⟩), .pointer (some ⟨B4, 0, none⟩), undef, undef, undef, .pointer (some ⟨q, 0, none⟩), .bool false, .pointer (some ⟨q, 0, none⟩), .pointer (some ⟨q, 0, none⟩), .pointer (some ⟨q, 0, none⟩), nv, v3, .pointer (some ⟨q, 0, none⟩), .pointer (some ⟨q, 0, none⟩), .pointer (some ⟨q, 1, none⟩), lv, v4, undef, undef, undef, undef, undef, undef, undef, undef, undef, undef, undef, undef, undef, undef, undef, undef, undef, undef, undef, undef, undef, undef, undef, undef, undef, undef, undef], defers := [] } ∧ uO w' N B3 B4 v3 v4 now last ∧ aB [] W w'
 | _, _, _ => False
theorem uP.mk {W w' : World} {l Bm q N : Nat} {nv lv : Value} {now last : List Bool} {B3 B4 : Nat} {v3 v4 : Value} (h : uO w' N B3 B4 v3 v4 now last) (u : aB [] W w') :
  uP W l Bm q N nv lv now last .normal { tmps := #[.func (.yield l) #[] #[], .pointer (some ⟨Bm, 0, none⟩), undef, .pointer (some ⟨B3, 0, none⟩), .pointer (some ⟨B4, 0, none⟩), undef, undef, undef, .pointer (some ⟨q, 0, none⟩), .bool false, .pointer (some ⟨q, 0, none⟩), .pointer (some ⟨q, 0, none⟩), .pointer (some ⟨q, 0, none⟩), nv, v3, .pointer (some ⟨q, 0, none⟩), .pointer (some ⟨q, 0, none⟩), .pointer (some ⟨q, 1, none⟩), lv, v4, undef, undef, undef, undef, undef, undef, undef, undef, undef, undef, undef, undef, undef, undef, undef, undef, undef, undef, undef, undef, undef, undef, undef, undef, undef, undef, undef], defers := [] } w' := ⟨B3, B4, v3, v4, rfl, h, u⟩
theorem uP.mk2 {W w' w6 w7 : World} {l Bm q N z6 z7 : Nat} {nv lv : Value} {now last : List Bool} {B3 B4 : Nat} {v3 v4 : Value} (b3 : w'.heap[B3]? = some (.cells #[v3] 149 (0, 0))) (b4 : w'.heap[B4]? = some (.cells #[v4] 149 (0, 0))) (g3 : N ≤ B3) (g4 : N ≤ B4)
  (h6 : eV w6 z6 v3 now) (u6 : aB [B3, B4] w6 w') (n6 : ∀ j ∈ [B3, B4], v3.ownBlock ≠ some j) (k6 : N ≤ z6) (h7 : eV w7 z7 v4 last) (u7 : aB [B3, B4] w7 w') (n7 : ∀ j ∈ [B3, B4], v4.ownBlock ≠ some j) (k7 : N ≤ z7) (u : aB [] W w') :
  uP W l Bm q N nv lv now last .normal { tmps := #[.func (.yield l) #[] #[], .pointer (some ⟨Bm, 0, none⟩), undef, .pointer (some ⟨B3, 0, none⟩), .pointer (some ⟨B4, 0, none⟩), undef, undef, undef, .pointer (some ⟨q, 0, none⟩), .bool false, .pointer (some ⟨q, 0, none⟩), .pointer (some ⟨q, 0, none⟩), .pointer (some ⟨q, 0, none⟩), nv, v3, .pointer (some ⟨q, 0, none⟩), .pointer (some ⟨q, 0, none⟩), .pointer (some ⟨q, 1, none⟩), lv, v4, undef, undef, undef, undef, undef, undef, undef, undef, undef, undef, undef, undef, undef, undef, undef, undef, undef, undef, undef, undef, undef, undef, undef, undef, undef, undef, undef], defers := [] } w' :=
 uP.mk ⟨b3, b4, g3, g4, (h6.upd u6 n6).base k6, (h7.upd u7 n7).base k7⟩ u
theorem Oo {X : World} {B B' : Nat} {o : Obj} {v : Value} (hne : B ≠ B') (h : X.heap[B]? = some o) : (X.setCell ⟨B', 0, none⟩ v).heap[B]? = some o := by rw [bJ, aE hne]; exact h
theorem Oq {X : World} {B : Nat} {o : Obj} (h : X.heap[B]? = some o) : X.drew.heap[B]? = some o := h
def eM (N : Nat) (A B : World) : Prop := ∀ k vs ty fr, N ≤ k → A.heap[k]? = some (.cells vs ty fr) → (ty = 4 ∨ ty = 149) → B.heap[k]? = some (.cells vs ty fr)
theorem eM.t {N : Nat} {A B C : World} (h : eM N A B) (g : eM N B C) : eM N A C := fun k vs ty fr h1 h2 h3 => g k vs ty fr h1 (h k vs ty fr h1 h2 h3) h3
theorem eM.b {N : Nat} (W : World) (l : Nat) (o o' : Obj) (h : W.heap[l]? = some o) (hc : o.isCells = false) : eM N W (W.putObj l o') := fun k vs ty fr _ hk _ => by
 rw [World.putObj_heap_other (fun e => by subst e; rw [hk] at h; cases h; cases hc)]; exact hk
theorem eM.u {N : Nat} {A B : World} (u : aB [] A B) : eM N A B := fun _k _vs _ty _fr _ hk _ => gF u hk
theorem eV.kp {A B : World} {N : Nat} {v : Value} {l : List Bool} (h : eV A N v l) (k : eM N A B) : eV B N v l := by
 refine ⟨h.1, ?_⟩
 rcases h.2 with h | ⟨g, cap, cur, hv, hg, hb, h4⟩
 ·exact .inl h
 exact .inr ⟨g, cap, cur, hv, hg, k _ _ _ _ hg hb (.inl rfl), h4⟩
theorem uO.kp {A B : World} {N B3 B4 : Nat} {v3 v4 : Value} {now last : List Bool} (h : uO A N B3 B4 v3 v4 now last) (k : eM N A B) : uO B N B3 B4 v3 v4 now last :=
 ⟨k _ _ _ _ h.ge3 h.b3 (.inr rfl), k _ _ _ _ h.ge4 h.b4 (.inr rfl), h.ge3, h.ge4, eV.kp h.now k, eV.kp h.last k⟩
theorem Ot (f : Nat → Bool) (n : Nat) : ∀ (d i : Nat), d < fI f n i → i + d < n ∧ f (i + d) = true := by
 intro d
 induction d with
 | zero =>
  intro i h
  rw [fI] at h
  split at h
  ·split at h
   ·rename_i h1 h2; exact ⟨h1, h2⟩
   omega
  omega
 | succ d ih =>
  intro i h
  rw [fI] at h
  split at h
  ·split at h
   ·have := ih (i + 1) (by omega)
    rw [show i + (d + 1) = i + 1 + d by omega]
    exact this
   omega
  omega
theorem Ou (now last : List Bool) (i : Nat) : (decide (i + fI (dG now last) now.length i < now.length) && dG now last (i + fI (dG now last) now.length i)) = false := by
 by_cases h : i + fI (dG now last) now.length i < now.length
 ·rw [BC _ _ _ h, Bool.and_false]
 simp [h]
abbrev Hf (r : aR) : Array Value := #[.agg #[.int .i64 r.1, .int .i64 r.2]]
theorem Ov (n l Bm N q base : Nat) (nv lv : Value) (now last : List Bool) (hll : last.length = now.length) (hm : now.length ≤ 512) (J Jx : List aR → World → Prop)
  (hJ : ∀ s X Y, J s X → aB [] X Y → J s Y)
  (hY : ∀ pre x W1, J pre W1 → pre ++ [x] <+: dZ (dG now last) now.length 0 → YieldAt Fence.wide (n - 1) Tryz.prog l (Hf x) W1 fun e W' => (e = .returned (.bool true) ∧ J (pre ++ [x]) W' ∧ eM N W1 W') ∨ (e = .returned (.bool false) ∧ Jx (pre ++ [x]) W')) (W : World) (hN : N ≤ W.heap.size) (hcB : W.cell? ⟨Bm, 0, none⟩ = some (.pointer (some ⟨q, 0, none⟩))) (h : fJ W base q nv lv now last) (h0 : J [] W) :
  Calls Tryz.prog 137 #[.func (.yield l) #[] #[], .pointer (some ⟨Bm, 0, none⟩)] W fun e W' => (∃ v, e = .returned v) ∧ (J (dZ (dG now last) now.length 0) W' ∨ ∃ pre, pre <+: dZ (dG now last) now.length 0 ∧ Jx pre W') := by
 have HC : ∀ X, aB [] W X → Calls Tryz.prog 112 #[nv] X fun e X' => ∃ v', e = .returned v' ∧ eV X' X.heap.size v' now ∧ aB [] X X' ∧ X.heap.size ≤ X'.heap.size := fun X u =>
  (zL X (aK.rd TB (h.now.upd u (by simp))) (by omega)).mono fun e X' ⟨v', he, ho, hu⟩ => ⟨v', he, ho, hu, hu.size⟩
 have HD : ∀ X, aB [] W X → Calls Tryz.prog 112 #[lv] X fun e X' => ∃ v', e = .returned v' ∧ eV X' X.heap.size v' last ∧ aB [] X X' ∧ X.heap.size ≤ X'.heap.size := fun X u =>
  (zL X (aK.rd TB (h.last.upd u (by simp))) (by omega)).mono fun e X' ⟨v', he, ho, hu⟩ => ⟨v', he, ho, hu, hu.size⟩
 have c0 := aD h.box 0
 have c1 := aD h.box 1
 simp only [bA, bB, bS] at c0 c1
 have HC' := aA HC
 have HD' := aA HD
 have hBl : Bm < W.heap.size := kX _ _ hcB
 have hql := aH h.box
 clear HC HD
 go_in
 go_upto_region 1 with (fail)
 refine wp_mono (Q := uP W l Bm q N nv lv now last) ?reg ?rest
 case reg =>
  go_region_held3 (fun X => X.cell? ⟨Bm, 0, none⟩ = some (.pointer (some ⟨q, 0, none⟩)) ∧ X.cell? ⟨q, 0, none⟩ = some nv ∧ X.cell? ⟨q, 1, none⟩ = some lv ∧ aB [] W X)
   (first
    | (with_reducible exact SA.upd (aB.refl [] W).drew ⟨hcB, c0, c1, aB.refl [] W⟩)
    | (repeat (first
      | (with_reducible assumption)
      | (with_reducible exact ⟨hcB, c0, c1, aB.refl [] W⟩)
      | (with_reducible refine SA.drew ?_)
      | (with_reducible refine SA.alloc _ ?_)
      | (with_reducible refine SA.set _ ?_ hBl hql ?_)
      | omega
      | (simp; omega))))
   (first
    | (go_at_call 112; (with_reducible refine (HC'.out _ ?_).mono ?_); (exact ‹_ ∧ _ ∧ _ ∧ aB [] W _›.2.2.2); rintro e w6 ⟨v6, rfl, ho6, hu6, hz6⟩; obtain ⟨a6, c6, m6, hm6, rfl⟩ := ho6.sliceM; have HO6 := aA ho6; have hS6 : SA W Bm q nv lv w6 := SA.upd hu6 (by assumption); have hy6 := hS6.2.2.2.size; (try simp only [gW, oY] at hz6); (try (have hb6a := gF hu6 (aX _ _); (try simp only [gW] at hb6a); obtain ⟨⟨d6a, e6a⟩, D6a, E6a, n6a, m6a⟩ := uN hb6a)); (try (have hb6b := gF hu6 (jG _ (aX _ _)); (try simp only [gW, oY] at hb6b); obtain ⟨⟨d6b, e6b⟩, D6b, E6b, n6b, m6b⟩ := uN hb6b)); clear hm6 ho6)
    | (go_at_call 112; (with_reducible refine (HD'.out _ ?_).mono ?_); (exact ‹_ ∧ _ ∧ _ ∧ aB [] W _›.2.2.2); rintro e w7 ⟨v7, rfl, ho7, hu7, hz7⟩; obtain ⟨a7, c7, m7, hm7, rfl⟩ := ho7.sliceM; have HO7 := aA ho7; have hS7 : SA W Bm q nv lv w7 := SA.upd hu7 (by assumption); have hy7 := hS7.2.2.2.size; (try simp only [gW] at hz7); (try (have hb7a := gF hu7 (aX _ _); (try simp only [gW] at hb7a); obtain ⟨⟨d7a, e7a⟩, D7a, E7a, n7a, m7a⟩ := uN hb7a)); (try (have hb7b := gF hu7 (jG _ (aX _ _)); (try simp only [gW, oY] at hb7b); obtain ⟨⟨d7b, e7b⟩, D7b, E7b, n7b, m7b⟩ := uN hb7b)); (try (have hb7c := gF hu7 hb6a; (try simp only [gW, oY] at hb7c); obtain ⟨⟨d7c, e7c⟩, D7c, E7c, n7c, m7c⟩ := uN hb7c)); (try (have hb7d := gF hu7 hb6b; (try simp only [gW, oY] at hb7d); obtain ⟨⟨d7d, e7d⟩, D7d, E7d, n7d, m7d⟩ := uN hb7d)); (try (have hb7e := gF hu7 (jG _ hb6a); (try simp only [gW, oY] at hb7e); obtain ⟨⟨d7e, e7e⟩, D7e, E7e, n7e, m7e⟩ := uN hb7e)); clear hm7 ho7))
  all_goals
   refine uP.mk2 ?_ ?_ ?_ ?_ HO6.out ?_ ?_ ?_ HO7.out ?_ ?_ ?_ ?_
  all_goals first
   | (show _ ≤ _; first | omega | (simp only [gW, oY]; omega))
   | (show ∀ j ∈ _, _ ≠ some j; intro j hj e; first | (have := HO6.out.block j e; simp at hj this; omega) | (have := HO7.out.block j e; simp at hj this; omega))
   | skip
  all_goals try (repeat (first
   | assumption
   | (with_reducible exact aB.refl _ _)
   | (with_reducible exact hS7.2.2.2)
   | (with_reducible exact hS6.2.2.2)
   | (refine nC _ _ _ ?_; first | rfl | (simp; done))
   | (with_reducible refine jG _ ?_)
   | (with_reducible refine Oq ?_)
   | (with_reducible refine vW (v0 := .slice none 0 0) ?_ _)
   | (with_reducible refine Oo ?_ ?_)
   | (with_reducible refine gF hu7 ?_)
   | (with_reducible refine gF hu6 ?_)
   | (with_reducible refine aB.alloc ?_ _)
   | (with_reducible refine aB.drew ?_)
   | (with_reducible refine aB.setCell ?_ (sO ..) _ _)
   | (with_reducible refine aB.setCell ?_ (iZ _ (sO ..)) _ _)
   | (with_reducible refine aB.setCellNew ?_ ?_ _ _)
   | (with_reducible refine aB.trans ?_ (hu7.mono (fun _ h => absurd h cA)))
   | omega
   | (simp; omega)))
 case rest =>
  rename_i K hK
  rintro e a w1 h1
  cases e with
  | normal =>
   obtain ⟨B3, B4, v3, v4, rfl, hS, hU⟩ := h1
   refine hK _ _ ?_
   clear hK K
   have hJ1 := hJ _ _ _ h0 hU
   obtain ⟨a3, k3, m3, hm3, rfl⟩ := hS.now.sliceM
   obtain ⟨a4, k4, m4, hm4, rfl⟩ := hS.last.sliceM
   have HS := aA hS
   have HJ1 := aA hJ1
   have hm : m3 ≤ 512 := by omega
   have HM3 := aA hm3
   clear hJ1 hS h hU hcB c0 c1 HC' HD' hm3 hm4 h0
   refine (wpIn_wide (n := n)).1 ?_
   gi_wp2
   have HLL := aA hll
   clear hll
   gi_loopw [6] (fun i wr => ∃ (k : Nat) (pre : List aR), i = .int .i64 k ∧ k ≤ m3 + 1 ∧ Hid (dZ (dG now last) now.length 0 = pre ++ dZ (dG now last) now.length k ∧ J pre wr ∧ uO wr N B3 B4 (.slice a3 m3 k3) (.slice a4 m4 k4) now last)) (fun i _ => m3 + 1 - (intOf i).toNat)
   case atStart => exact ⟨0, [], rfl, by omega, aA ⟨by simp, HJ1.out, HS.out⟩⟩
   case round =>
    clear HJ1 HS
    obtain ⟨k, pre, rfl, hk, HR⟩ := hrel
    generalize wr = wo at *
    have c3 := aD HR.out.2.2.b3 0
    have c4 := aD HR.out.2.2.b4 0
    simp only [bA, bB] at c3 c4
    by_cases hkm : k < m3
    ·have hkm' : (k : Int) < (m3 : Int) := by omega
     have hm' : (m3 : Int) ≤ 512 := by omega
     gi_wp2
     obtain ⟨L, hL⟩ : ∃ L, L = fI (dG now last) now.length k := ⟨_, rfl⟩
     have hLk : k + L ≤ m3 := by have := zE (dG now last) now.length k; rw [← hL] at this; have := HM3.out; omega
     have HL := aA hL
     have HR1 := aA (aX wo (.cells #[.int .i64 k, .int .i64 0] 148))
     have HU1 := aA ((aB.refl [] wo).alloc (.cells #[.int .i64 k, .int .i64 0] 148))
     clear hL
     generalize hWW : wo.alloc (.cells #[.int .i64 k, .int .i64 0] 148) = W2 at *
     clear hWW
     gi_loopw [6] (fun i wi => ∃ d : Nat, i = .int .i64 ((k : Int) + (d : Int)) ∧ d ≤ L ∧ Hid (wi.heap[wo.heap.size]? = some (.cells #[.int .i64 k, .int .i64 d] 148 (0, 0)) ∧ aB [] wo wi)) (fun i _ => k + L + 1 - (intOf i).toNat)
     case atStart => exact ⟨0, by simp, dH _, aA ⟨HR1.out, HU1.out⟩⟩
     case round =>
      clear HR1 HU1
      obtain ⟨d, rfl, hd, HI⟩ := hrel
      have hAS : uO wr N B3 B4 (.slice a3 m3 k3) (.slice a4 m4 k4) now last := HR.out.2.2.kp (eM.u HI.out.2)
      have HAS := aA hAS
      have i3 := aD hAS.b3 0
      have i4 := aD hAS.b4 0
      have i1 := aD HI.out.1 1
      have i0 := aD HI.out.1 0
      have g1 := aZ HI.out.1 1
      simp only [bA, bB, bS] at i3 i4 i0 i1
      have HF := aA (On wr i3 i4 (aK.rd TB hAS.now) (aK.rd TB hAS.last) HLL.out (by have := HM3.out; omega) (k + d) (by omega))
      clear hAS
      rw [tS] at HF
      by_cases hdL : d < L
      ·have hfr := Ot (dG now last) now.length d k (by rw [← HL.out]; exact hdL)
       rw [hfr.2, decide_eq_true hfr.1, Bool.and_self] at HF
       clear hfr
       gi_wp2
       refine ⟨trivial, (fun h => by cases h), (jJ.2 HF.out).mono ?_⟩
       rintro e w' ⟨rfl, rfl⟩
       gi_wp2
       go_roundw
       case rel =>
        refine ⟨d + 1, by rw [tS, Int.natCast_one, Int.add_assoc], hdL, aA ⟨?_, HI.out.2.setCellNew (aQ _) _ _⟩⟩
        rw [bJ, aF rfl, HI.out.1]; rfl
       case measure => simp only [intOf]; omega
      obtain rfl : d = L := by omega
      have hfr := Ou now last k
      rw [← HL.out] at hfr
      rw [hfr] at HF
      clear hfr
      gi_wp2
      refine ⟨trivial, (fun h => by cases h), (jJ.2 HF.out).mono ?_⟩
      rintro e w' ⟨rfl, rfl⟩
      have hfk : dZ (dG now last) now.length k = if d = 0 then dZ (dG now last) now.length (k + 1) else (k, d) :: dZ (dG now last) now.length (k + d + 1) := by
       rw [dZ, aF (by rw [← HM3.out]; exact hkm), ← HL.out]
      have HFK := aA hfk
      have HJ := aA (hJ _ _ _ HR.out.2.1 HI.out.2)
      clear hfk
      by_cases hd0 : 0 < d
      ·have hd0' : (0 : Int) < (d : Int) := by omega
       have hfull : dZ (dG now last) now.length 0 = (pre ++ [(k, d)]) ++ dZ (dG now last) now.length (k + d + 1) := by
        rw [HR.out.1, HFK.out, aE (by omega)]; simp
       have HFU := aA hfull
       obtain ⟨fn, tmps, assign, body, hy, hR⟩ := hY pre (k, d) w' HJ.out ⟨_, hfull.symm⟩
       clear hfull
       change Sem.run Tryz.prog (Instr.yield l #[.agg #[.int .i64 (k : Int), .int .i64 (d : Int)]]) w' = _ at hy
       gi_wp2
       refine ⟨(fun h => by cases h), hR.mono ?_⟩
       rintro e W3 (⟨rfl, hJ3, hk3⟩ | ⟨rfl, hJx3⟩)
       ·have HS3 := aA (HAS.out.kp hk3)
        have HJ3 := aA hJ3
        clear hJ3 hk3 hy hR
        gi_wp2
        go_roundw
        case rel => exact ⟨k + d + 1, pre ++ [(k, d)], by simp, by omega, aA ⟨HFU.out, HJ3.out, HS3.out⟩⟩
        case measure => simp only [intOf]; omega
       clear hy hR
       gi_wp2
       refine rO (results_none rfl _ _ _) rfl ?_
       exact ⟨⟨_, rfl⟩, .inr ⟨_, ⟨_, HFU.out.symm⟩, hJx3⟩⟩
      obtain rfl : d = 0 := by omega
      have HFK' := HFK.out
      rw [aF rfl] at HFK'
      have HF2 := aA HFK'
      clear HFK'
      gi_wp2
      refine ⟨fun _ h => (by cases h), ?_⟩
      gi_wp2
      go_roundw
      case rel => exact ⟨k + 1, pre, by simp, by omega, aA ⟨by rw [HR.out.1, HF2.out], HJ.out, HAS.out⟩⟩
      case measure => simp only [intOf]; omega
    have hkm' : ¬ (k : Int) < (m3 : Int) := by omega
    gi_wp2
    go_end0
    have hf : dZ (dG now last) now.length k = [] := by rw [dZ, aE (by rw [← HM3.out]; exact hkm)]
    exact ⟨⟨_, rfl⟩, .inl (by rw [HR.out.1, hf, sN]; exact HR.out.2.1)⟩
  | _ => exact h1.elim
theorem Hg (n : Nat) {w0 : World} {Bm N q base : Nat} {nv lv : Value} {now last : List Bool} (hN : N ≤ w0.heap.size) (hcB : w0.cell? ⟨Bm, 0, none⟩ = some (.pointer (some ⟨q, 0, none⟩))) (h : fJ w0 base q nv lv now last) (hll : last.length = now.length) (hm : now.length ≤ 512) :
  Aq n Tryz.prog 137 #[.pointer (some ⟨Bm, 0, none⟩)] Hf (eM N) (dZ (dG now last) now.length 0) w0 :=
 fun l J Jx W hW hJ _ hY h0 => jJ.2 (Ov n l Bm N q base nv lv now last hll hm J Jx hJ hY W (bG hN hW.size) (eQ hW hcB) (h.keepU hW) h0)
end Go.Proofs.YtgpefiacbipfpaaGreatDoor
