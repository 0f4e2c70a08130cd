/- A copy into a block of bytes. -/
import Derived.Laws.CopyRow
import Derived.Maps.RangeWalk
import Derived.Test.YtgpefiacbipfpaaGreatDoorC25
set_option maxRecDepth 100000
set_option maxHeartbeats 4000000
namespace Go.Proofs.YtgpefiacbipfpaaGreatDoor
open Go.RowKit Go.Maps
theorem lC.of {w : World} {base g c : Nat} {ty : TypeId} {cur : Array Value} {d : Bs} (hd : d.length = 512) (h1 : 512 ≤ c) (h2 : c ≤ maxLen) (hb : base ≤ g) (hg : w.heap[g]? = some (.cells cur ty (0, 0))) (hs : 512 ≤ cur.size) (hc : ∀ i : Nat, i < 512 → cur[i]? = (d.map fun b => Value.int .u8 b.toNat)[i]?) : lC w base (.slice (some ⟨g, 0, none⟩) 512 c) d := by
 refine ⟨⟨⟨some ⟨g, 0, none⟩, c, by rw [hd], by rw [hd]; exact h1, h2, fun i hi => ⟨g, 0, rfl, fun j u hu => ?_⟩⟩, fun n c e => by cases e⟩, g, c, ty, cur, rfl, h1, h2, hb, hg, hs, hc⟩
 obtain rfl : j = 0 := by
  cases j with
  | zero => rfl
  | succ j => simp [c8] at hu
 have hu' : u = .int .u8 d[i].toNat := by simpa [c8] using hu.symm
 subst hu'
 have hi5 : i < 512 := by omega
 have : w.cell? ⟨g, i, none⟩ = some (.int .u8 d[i].toNat) := by
  rw [aD hg, hc i hi5, lL, bL hi]; rfl
 simpa using this
def sH (d : Bs) (o : Nat) (l : Bs) : Bs := d.take o ++ (l.take (512 - o) ++ d.drop (o + (l.take (512 - o)).length))
theorem CY {d l : Bs} {o : Nat} (hd : d.length = 512) (ho : o ≤ 512) : (sH d o l).length = 512 := by
 unfold sH
 simp only [bD, bX, eD]
 omega
theorem Pr {d l : Bs} {o i : Nat} (hi : i < o) (ho : o ≤ d.length) : (sH d o l)[i]? = d[i]? := by
 unfold sH
 rw [kQ (by rw [bX]; omega), qE hi]
theorem Ps {d l : Bs} {o i : Nat} (hi : o ≤ i) (ho : o ≤ d.length) (hl : i - o < l.length) (h5 : i < 512) : (sH d o l)[i]? = l[i - o]? := by
 unfold sH
 have ht : (d.take o).length = o := by rw [bX]; omega
 rw [oN (by omega), ht, kQ (by rw [bX]; omega), qE (by omega)]
theorem Pt {A B X Y : List Value} {i : Nat} (h : ∀ k, A.length + B.length + k = i → X[k]? = Y[k]?) : (A ++ (B ++ X))[i]? = (A ++ (B ++ Y))[i]? := by
 simp only [List.getElem?_append]
 split
 ·rfl
 split
 ·rfl
 exact h _ (by omega)
theorem Pu {w : World} {g : Nat} (cs : Array Value) : aB [g] w (w.setRow g cs) :=
 ⟨rfl, rfl, by rw [size_setRow]; exact aQ _, fun k _ hn => setRow_other w g k cs (fun e => hn (by rw [e]; simp))⟩
theorem Pv {w : World} {ops : Array Oper} {rest : List Oper} {o : Oper} {a : Act} {Q : Exit → Act → World → Prop} (hg : o.guard = none) (x y : Operand)
  (hop : o.op = Op.call { callee := Callee.builtin Builtin.copy, args := #[x, y], argTypes := #[23, 23] }) {base : Nat} {d l : Bs} {B c off dc m : Nat} (hrow : lC w base (.slice (some ⟨B, 0, none⟩) 512 c) d) (hoff : off ≤ 512)
  {v : Value} (hv : Rd w v l) (hl : l ≠ []) (hdl : d.length = 512) (hx : a.eval x = .slice (some ⟨B, off, none⟩) m dc) (hm : m = 512 - off) (hy : a.eval y = v)
  (h : ∀ w', lC w' base (.slice (some ⟨B, 0, none⟩) 512 c) (sH d off l) → aB [B] w w' → wpList Tryz.prog ops Q rest (a.put o.dst (.int .i64 ((l.take (512 - off)).length : Nat))) w') : wpList Tryz.prog ops Q (o :: rest) a w := by
 subst hm
 obtain ⟨-, g, c', ty, cur, e, h1, h2, h3, h4, h5, h6⟩ := hrow
 cases e
 obtain ⟨aS, cS, rfl, hc1, hc2, hc3⟩ := hv.slice
 cases aS with
 | none => exact absurd (nT (hc3 rfl).1) hl
 | some ad =>
  have hsrc : ∀ (j : Nat) (u : Value), ((l.take (512 - off)).map fun b => Value.int .u8 b.toNat)[j]? = some u → w.cell? (ad.add j) = some u := by
   intro j u hu
   obtain ⟨-, -, -, hcell⟩ := hv.cell
   have hpos : 0 < l.length := oO.2 hl
   obtain ⟨b, o2, e2, hcl⟩ := hcell hpos
   cases e2
   rw [lL] at hu
   have hj : j < (l.take (512 - off)).length := by
    by_cases q : j < (l.take (512 - off)).length
    ·exact q
    rw [gG (by omega)] at hu; cases hu
   have hjl : j < l.length := by rw [bX] at hj; omega
   rw [qE (by rw [bX] at hj; omega), bL hjl] at hu
   cases hu
   have := hcl j hjl
   have e3 : (⟨b, o2, none⟩ : Addr).add j = ⟨b, o2 + j, none⟩ := by unfold Addr.add; split <;> simp_all
   rw [e3]; exact this
  have hlen : ((l.take (512 - off)).map fun b => Value.int .u8 b.toNat).length = Nat.min l.length (512 - off) := by
   rw [dF, bX]; exact Nat.min_comm ..
  have hsz1 : (Tryz.prog.info? 5).map (·.size) = some 1 := by
   obtain ⟨i, h0, h1, h2, h3⟩ := kD (show (Tryz.prog.info? 5).map (fun i => (i.zero, i.size, i.bytes)) = some (some (.int .u8 0), 1, 1) by kernel_rfl)
   rw [h0, Option.map, h2]
  have hle : ((l.take (512 - off)).map fun b => Value.int .u8 b.toNat).length ≤ 512 - off := by rw [dF, bX]; omega
  have hone : ∀ u ∈ (l.take (512 - off)).map fun b => Value.int .u8 b.toNat, u.oneCell' = true := by
   intro u hu
   obtain ⟨b, -, rfl⟩ := cV.1 hu
   rfl
  have hrun := run_copy_row Tryz.prog w 23 23 o.type 5 B off (512 - off) dc ad l.length cS cur ty _ T8.und hsz1 h4 hlen hsrc (by omega) hone
  refine sP hg fun K hK => ?_
  unfold Oper.wp execOp
  simp only [hop, resolve, invoke, builtin, qF, vB, qG, DK, dR, kT, hx, hy, hrun]
  rw [dF]
  refine hK _ _ (h _ (lC.of (CY hdl hoff) h1 h2 h3 (Bh w B cur _ ty _ h4) ?_ fun i hi => ?_) (Pu _))
  ·simp only [lI, bD, bX, eD, dF, yR]; omega
  have hcl : cur.toList.take off = (d.take off).map fun b => Value.int .u8 b.toNat := by
   apply wK
   intro k
   rw [wL, DP, wL]
   by_cases hk : k < off
   ·rw [aF hk, aF hk, AZ, h6 k (by omega)]
   rw [aE hk, aE hk]
  rw [bA, hcl, eJ]
  unfold sH
  rw [eZ, eZ]
  refine Pt fun k hk => ?_
  rw [dF, dF, bX] at hk
  rw [DX, AZ, h6 _ (by omega), List.map_drop, DX]
theorem Pw {H : Type} {P : Program} {k : TypeId} {R : Value → Option (DataW H × List MemPlace)} {w w' : World} {b r n : Nat} {D : DataW H} {left : Lit → Bool} {cnt : Nat} (h : w.ranges P k R b r n D left cnt) {F : List Nat} (u : aB F w w') (hb : b ∉ F) (hr : r ∉ F) : w'.ranges P k R b r n D left cnt := by
 have h1 := h.owns.lt
 have h2 := h.lt
 obtain ⟨es, clock, since, seen, c0, hb', F', hs, hD, hr', rest⟩ := h
 exact ⟨es, clock, since, seen, c0, (u.block b h1 hb).trans hb', F', hs, hD, (u.block r h2 hr).trans hr', rest⟩
theorem Iq {key : Value} {kl : Lit} (h : keyOf Tryz.prog 9 key = some kl) : ∃ x : ByteArray, key = .string x ∧ kl = .string x.data.toList ∧ x.size ≤ maxLen := by
 rw [keyOf_string Tryz.underlying9] at h
 have hu := Tryz.underlying9
 cases key <;> simp [mapKey, hu] at h
 obtain ⟨h1, rfl⟩ := h
 exact ⟨_, rfl, rfl, by simpa using h1⟩
theorem Px {fs : aG} {A : Bs → Nat} {s : Bs} {v : Value} (hat : ∀ zd, (gL Lit.string (dW fs A)).atKey (.string s) zd = .held v) : ∃ f, bF fs s = some f ∧ v = sE (A s) := by
 have h := hat (.map [])
 rw [BT xE, rA] at h
 cases hg : bF fs s with
 | none => rw [hg] at h; cases h
 | some f => rw [hg] at h; cases h; exact ⟨f, rfl, rfl⟩
def nM (fs : aG) (left : Lit → Bool) : aG := fs.filter fun p => !left (.string p.1)
theorem Py {fs : aG} (h : cP bQ fs) (P : Bs × bO → Bool) : cP bQ (fs.filter P) := List.Pairwise.filter _ h
theorem xU {fs : aG} (h : cP bQ fs) (left : Lit → Bool) : cP bQ (nM fs left) := Py h _
theorem Ir {fs : aG} (left : Lit → Bool) (k : Bs) : bF (nM fs left) k = if left (.string k) = true then none else bF fs k := by
 induction fs with
 | nil => simp [nM, bF]
 | cons p fs ih =>
  unfold nM at ih ⊢
  rw [AV]
  by_cases hp : left (.string p.1) = true
  ·rw [aE (by simp [hp]), ih, gD]
   by_cases e : p.1 = k
   ·rw [e] at hp; simp [hp]
   simp [e]
  rw [aF (by simpa using hp), gD, gD, ih]
  by_cases e : p.1 = k
  ·rw [e] at hp; simp [hp, e]
  simp [e]
theorem Pz (fs : aG) (A : Bs → Nat) : nM fs (Maps.has (gL Lit.string (dW fs A))) = [] := by
 unfold nM
 rw [List.filter_eq_nil_iff]
 intro p hp
 have hm : (bF fs p.1).isSome = true := by
  cases hg : bF fs p.1 with
  | some f => rfl
  | none => exact absurd rfl (uA.1 hg p hp)
 rw [Fj xE, rA]
 simp [hm]
theorem PA (fs : aG) {left : Lit → Bool} (h : ∀ kl, left kl = false) : nM fs left = fs := by
 unfold nM
 rw [wN]
 intro p _
 simp [h]
theorem PB {fs : aG} (h : cP bQ fs) {left : Lit → Bool} {s : Bs} {f : bO} (hf : bF fs s = some f) : nM fs (fun z => left z && !z.sameKey (.string s)) = cQ bQ (nM fs left) s f := by
 refine wW dD (xU h _) (sT dD (xU h _) s f) fun k => ?_
 rw [Ir, pS dD (xU h _), Ir]
 have hk : (Lit.string k).sameKey (.string s) = decide (k = s) := by
  rw [Bool.eq_iff_iff]
  simp [Lit.sameKey]
 rw [hk]
 by_cases e : s = k
 ·subst e
  simp [hf]
 have e' : ¬ k = s := fun q => e q.symm
 simp [e, e']
abbrev boxG (j c q mf : Nat) (lm : Value) (va : Value) (dead : Bool) : Obj := .cells #[.pointer (some ⟨j, 0, none⟩), .pointer (some ⟨c, 0, none⟩), .pointer (some ⟨q, 0, none⟩), .map (some mf), lm, va, .bool dead] 84 (0, 0)
def PC (w : World) (v j c q mf : Nat) (va : Value) (dead : Bool) (fs : aG) (r : Ending) (w' : World) : Prop :=
 r = .returned (.tuple #[]) ∧ ∃ mn A2 R2 FL2, w'.heap[v]? = some (eW j c q mf mn va dead) ∧ dL w' mn fs A2 R2 FL2 ∧ aB [v] w w' ∧ ∀ i ∈ FL2, w.heap.size ≤ i
theorem dL.none {w : World} {mn : Nat} (h : fO w mn []) (A : Bs → Nat) (R : Bs → Value) : dL w mn [] A R [mn] :=
 ⟨h, fun p hp => by simp at hp, by simp, fun p hp => by simp at hp, fun p hp => by simp at hp, fun p hp => by simp at hp, fun p hp => by simp at hp, fun i hi => by rw [aM.1 hi]; exact h.lt⟩
theorem Is (w : World) {v j c q mf : Nat} {lm va : Value} {dead : Bool} (h : w.heap[v]? = some (boxG j c q mf lm va dead)) {room : Nat} {fs : aG} {A : Bs → Nat} {R : Bs → Value} {FM : List Nat} (hf : dL w mf fs A R FM) (hok : dC room fs) (hvM : v ∉ FM) :
  Calls Tryz.prog 53 #[.pointer (some ⟨v, 0, none⟩)] w (PC w v j c q mf va dead fs) := by
 have c2 := aD h 3
 have f3 := aZ h 4
 have c3 := aD h 4
 simp only [bA, bB, bS] at c2 c3
 have HB := aA h
 have HF := aA hf
 have hvl := aH h
 have hmm := @run_makeMap Tryz.prog
 have hmade := World.ownsMap_made (H := Value) w Tryz.prog 9 iN
 have hu0 : aB [v] w ((w.setCell ⟨v, 4, none⟩ (.map (some w.heap.size))).alloc (.map #[] 0)) := ((aB.refl [v] w).setCell (by simp) _ _).alloc _
 have hb0 : ((w.setCell ⟨v, 4, none⟩ (.map (some w.heap.size))).alloc (.map #[] 0)).heap[v]? = some (eW j c q mf w.heap.size va dead) := by
  rw [heap_alloc, aE (by simp; omega), bJ, aF rfl, h]; rfl
 have hf0 : dL ((w.setCell ⟨v, 4, none⟩ (.map (some w.heap.size))).alloc (.map #[] 0)) mf fs A R FM := hf.upd hu0 fun i hi q => hvM (by rw [aM.1 q] at hi; exact hi)
 have hm0 : fO ((w.setCell ⟨v, 4, none⟩ (.map (some w.heap.size))).alloc (.map #[] 0)) w.heap.size [] := by
  have := World.ownsMap_made (H := Value) (w.setCell ⟨v, 4, none⟩ (.map (some w.heap.size))) Tryz.prog 9 iN
  simp only [Eb] at this
  exact this
 have hsz0 : ((w.setCell ⟨v, 4, none⟩ (.map (some w.heap.size))).alloc (.map #[] 0)).heap.size = w.heap.size + 1 := by simp
 generalize hW1 : (w.setCell ⟨v, 4, none⟩ (.map (some w.heap.size))).alloc (.map #[] 0) = W1 at *
 have H0 := aA (aC hu0 (aC hb0 (aC hf0 hm0)))
 have hmap := hf0.map
 have d3 := aD hb0 3
 simp only [bA, bB, bS] at d3
 have hvm : v ≠ mf := fun e => hvM (by rw [e]; exact hf0.mem)
 clear h hf hu0 hb0 hf0 hm0
 go_in
 go_wp2_with (first
  | (at_range; refine wpList_range_own _ rfl _ 82 rfl 9 76 xG Tryz.underlying82 iN mf _ _ rfl hmap ?_; intro w0 hrg0 hg0 hs0)
  | fail)
 clear hW1 c2 c3 f3 d3
 rw [hsz0] at hrg0 hs0 ⊢
 go_frame
 go_loopw [2, 3] (fun _ _ wr => ∃ (left : Lit → Bool) (cnt : Nat) (A2 : Bs → Nat) (R2 : Bs → Value) (FL2 : List Nat), wr.ranges (H := Value) Tryz.prog 9 iN mf (w.heap.size + 1) fs.length (gL Lit.string (dW fs A)) left cnt ∧ Hid (wr.heap[v]? = some (eW j c q mf w.heap.size va dead) ∧ aB [v] w wr) ∧ Hid (dL wr w.heap.size (nM fs left) A2 R2 FL2 ∧ ∀ i ∈ FL2, w.heap.size ≤ i ∧ i ≠ (w.heap.size + 1)))
  (fun _ _ wr => wr.rangeLeft mf (w.heap.size + 1))
 case atStart =>
  have hg0u : aB [] W1 w0 := ⟨hg0.os, hg0.output, hg0.size, fun k hk _ => hg0.block k hk (by simp)⟩
  have hrg0' : w0.ranges (H := Value) Tryz.prog 9 iN mf (w.heap.size + 1) fs.length (gL Lit.string (dW fs A)) _ _ := (show (dW fs A).length = fs.length by simp [dW]) ▸ hrg0
  refine ⟨_, _, A, R, [w.heap.size], hrg0', aA ⟨gF hg0u H0.out.2.1, H0.out.1.trans (hg0u.mono (by simp))⟩, aA ⟨?_, fun i hi => ⟨by rw [aM.1 hi]; exact aQ _, by rw [aM.1 hi]; omega⟩⟩⟩
  rw [Pz]
  exact (dL.none H0.out.2.2.2 A R).upd hg0u (by simp)
 case round =>
  obtain ⟨left, cnt, A2, R2, FL2, hrg, HS, HN⟩ := hrel
  go_wp2_with (first
   | (at_next; refine wpList_next_ranges _ rfl _ rfl 9 xG iN Value.string (fun v : Value => v) (fun key kl hk => by obtain ⟨x, hx, -⟩ := Iq hk; exact ⟨x, hx⟩) (fun v y hv => ⟨v, rfl⟩) mf (w.heap.size + 1) fs.length _ _ _ rfl hrg ?_ ?_)
   | fail)
  ·intro hc0 hl0
   go_wp2_with fail
   go_end0
   have hr := HN.out
   rw [PA fs hl0] at hr
   exact ⟨rfl, w.heap.size, A2, R2, FL2, HS.out.1, hr.1, HS.out.2, fun i hi => (hr.2 i hi).1⟩
  intro x vx kl y1 y2 w1 cnt1 hkey hlk hv hat hrg1 hlt hg1 hs1 hen
  obtain ⟨x', hx', rfl, hxs⟩ := Iq hkey
  simp only [Value.string.injEq] at hx'
  subst hx'
  simp only [iN, fY, Prod.mk.injEq] at hv
  obtain ⟨rfl, rfl⟩ := hv
  obtain ⟨f, hf, rfl⟩ := Px hat
  have hFw : dL wr mf fs A R FM := HF.out.upd HS.out.2 fun i hi q => hvM (by rw [aM.1 q] at hi; exact hi)
  have hm0 : wr.rangeLeft mf (w.heap.size + 1) = cnt := hrg.left_eq
  have hu1 : aB [(w.heap.size + 1)] wr w1 := ⟨hg1.os, hg1.output, hg1.size, fun k hk hn => hg1.block k hk (fun e => hn (by rw [← mQ e]; simp))⟩
  have hml := HF.out.lt
  have hF1 : dL w1 mf fs A R FM := hFw.upd hu1 fun i hi q => by have := hml i hi; have := aM.1 q; omega
  have hG1 : dL w1 w.heap.size (nM fs left) A2 R2 FL2 := HN.out.1.upd hu1 fun i hi q => (HN.out.2 i hi).2 (aM.1 q)
  have hb1 : w1.heap[v]? = some (eW j c q mf w.heap.size va dead) := (hu1.block v (aH HS.out.1) (by simp; omega)).trans HS.out.1
  have d4 := aD hb1 4
  simp only [bA, bB, bS] at d4
  have hnd := hF1.node _ (eU hf)
  have hfo := hok.ok _ (eU hf)
  have hrl : f.runs.length ≤ 1000000 := by
   have h64 : aY f.runs ≤ 64 := by rw [hfo.len]; have := hfo.most; unfold bP; omega
   have := sU (oT hfo.canon)
   simp only at this h64
   omega
  have hgl : (dW (nM fs left) A2).length < 1000000 := by
   have : (nM fs left).length ≤ fs.length := AY ..
   have := hok.few
   simp [dW]; omega
  have HCO := aA fun (X : World) (u : aB [] w1 X) => Mz X (hnd.upd u (by simp) (by simp)) hrl
  have HPU := aA fun (X : World) (u : aB [] w1 X) (a : Nat) => fO.put (hG1.upd u (by simp)).map (qZ (xU hok.srt left) A2) hgl Tryz.underlying82 x hxs (.pointer (some ⟨a, 0, none⟩))
  have H1 := aA (aC hu1 (aC hb1 (aC hF1 hG1)))
  have hgf := aA hf
  have hsz1 : (w.heap.size + 1) < w1.heap.size := hrg1.lt
  clear hnd hfo hrl hgl hF1 hG1 hu1 hb1 hFw hg1 hf hkey hat hlk hrg
  go_wp2_with fail
  have hvB : v < w.heap.size := hvl
  go_region_held3 (fun X => X.cell? ⟨v, 4, none⟩ = some (.map (some w.heap.size)))
   (first
    | (with_reducible exact cN (aB.refl [] w1).drew d4)
    | (with_reducible exact cN hv6 d4)
    | (exact (iD (hgr.block v (by have := hv6.size; omega) (fun e => by have e2 := mQ e; omega))).trans (cN hv6 d4)))
   (first
    | (go_at_call 113; (with_reducible refine (HCO.out _ ?_).mono ?_); (exact (aB.refl [] w1).drew); rintro e w6 ⟨q6, rv6, rfl, hnd6, hq6, hu6⟩; have hv6 : aB [] w1 w6 := (aB.refl [] w1).drew.trans hu6; obtain ⟨w7, hput, hms, hgr⟩ := HPU.out w6 hv6 q6))
  go_wp2_with fail
  have hd : w1.drew.heap.size = w1.heap.size := rfl
  have hs6 := hv6.size
  have hu7 : aB [w.heap.size] w6 w7 := by have := aB.of_grown hgr; simpa using this
  have hu27 : aB [w.heap.size] w1 w7 := (hv6.mono (by simp)).trans hu7
  obtain ⟨hu1, hb1, hF1, hG1⟩ := H1.out
  have hrlow : ∀ g, rv6.ownBlock = some g → w1.heap.size ≤ g := fun g hg => (hnd6.2.block g hg).1
  have hn7 : iG w7 0 q6 f.data.length rv6 f.runs := ⟨(hu7.block _ (aH hnd6.1) (by simp; omega)).trans hnd6.1, (hnd6.2.upd hu7 fun jj hjj e => by have := hrlow jj e; have := aM.1 hjj; omega).base (dH _)⟩
  have hput7 := hG1.put (nm := x.data.toList) (f := f) (a := q6) (rv := rv6) (xU hok.srt left) hms hu27 hn7 (by omega) hrlow
  have hrg7 := Pw hrg1 hu27 (by simp; intro e; have := hml mf HF.out.mem; omega) (by simp)
  go_roundw
  case rel =>
   refine ⟨_, cnt1, _, _, _, hrg7, aA ⟨(hu27.block v (aH hb1) (by simp; omega)).trans hb1, (HS.out.2.next hu1 fun k hk hlt => by have := aM.1 hk; omega).next hu27 fun k hk hlt => by have := aM.1 hk; omega⟩, aA ⟨by rw [PB hok.srt hgf.out]; exact hput7, fun i hi => ?_⟩⟩
   simp only [aJ, bK, mR] at hi
   rcases hi with rfl | hi | hi
   ·omega
   ·have := hrlow i hi; omega
   exact HN.out.2 i hi
  case measure => rw [hrg7.left_eq, hm0]; exact hlt
theorem AA {w w' : World} {v : Nat} {X : fV} {G : List Nat} (u : aB G w w') (hG : ∀ i ∈ G, i ∈ X.fp v) : aB (X.fp v) w w' := u.mono fun k hk _ => hG k hk
theorem Iu {k s : Nat} {w : List Wr} (h : gA w) : (jK k s w).length ≤ 64 := by
 have := h.many
 unfold jK gI eL fR
 simp
 omega
theorem PD {l : Nat → aL} {room k s : Nat} {fs last : aG} (h : eY l room k s fs last) (hk : k < 2 ^ 61) (b : Nat) : (exec (rX k s fs last) l (36 + b)).view = (l (36 + b)).view := by
 have ho := uB (a := dT last) (h.now.dir_len (by have := h.few; omega))
 obtain ⟨-, -, h3⟩ := h.quiet.commit ho (by omega : k < 2 ^ 62)
 unfold rX
 rw [h3 _ (by omega)]; rfl
def AB (w : World) (v p : Nat) (X : fV) (D : aI) (w' : World) : Prop := ∃ F, Pp w' v p D F ∧ aB (X.fp v) w w' ∧ ∀ i ∈ F, i ∈ X.fp v ∨ w.heap.size ≤ i
def PE (w : World) (v p : Nat) (D : aI) (room k s : Nat) (fs last : aG) (X : fV) (r : Ending) (w' : World) : Prop :=
 ∃ (e : Nat) (D' : aI), r = .returned (.int .i64 e) ∧ iO D e D' 64 ∧ (e = 0 → lD w v p room X D' (k + 1) (1 - s) fs fs w') ∧
  (e ≠ 0 → AB w v p X D' w' ∧ ∀ l', iM D'.blk l' → ∃ k', k' ≤ k + 1 ∧ (jB l' room k' last ∨ jB l' room k' fs))
theorem PF (w : World) {v p : Nat} {D : aI} {room k s : Nat} {fs last : aG} {X : fV} (h : dM w v p D room k s fs last X) (hk : k < 2 ^ 61) (hwr : D.wr ≤ 137438950000) :
  Calls Tryz.prog 14 #[.pointer (some ⟨v, 0, none⟩)] w (PE w v p D room k s fs last X) := by
 have hvl := aH h.box
 obtain ⟨o1, o2, o3, o4, o5, o6, o7, o8, o9, o10, o11, o12, o13, o14, o15⟩ := h.off
 have hfew := h.inv.few
 have hU := CV w h.box h.log.log h.log.dev (by omega) o1
 rw [h.up] at hU
 have HU := aA hU
 have H := aA h
 clear h hU
 go_in
 go_wp2_with fail
 refine HU.out.mono ?_
 rintro r w1 ⟨rfl, hb1, hl1, hu1⟩
 simp only [Bool.false_or, Bool.false_eq_true, if_false] at hb1 hl1 ⊢
 have hv1 : ∀ {i x : Nat}, X.T i = x → x ≠ 1 → x ≠ 2 → i ∉ [v, X.j] := fun h1 h2 h3 hi => by
  simp only [aJ, cA, cG] at hi
  rcases hi with hi | hi
  ·exact eI h1 H.out.sep.v h2 hi
  exact eI h1 H.out.sep.j h3 hi
 have hlog1 : jE w1 X.j p (room + 16) k X.c X.m false D X.F X.l X.V X.FC :=
  ⟨hl1, H.out.log.dev.upd hu1 fun i hi => hv1 (H.out.sep.F i hi) (by decide) (by decide), H.out.log.ca.upd hu1 fun i hi => hv1 (H.out.sep.FC i hi) (by decide) (by decide), H.out.log.jF, H.out.log.jC, H.out.log.ap, H.out.log.nD, fun i hi => dN (H.out.log.lt i hi) hu1.size⟩
 have h1 : dM w1 v p D room k s fs last X :=
  ⟨hb1, hlog1, H.out.fil.upd hu1 fun i hi => hv1 (H.out.sep.FM i hi) (by decide) (by decide), H.out.las.upd hu1 fun i hi => hv1 (H.out.sep.FL i hi) (by decide) (by decide),
   H.out.map.upd hu1 (hv1 H.out.sep.q (by decide) (by decide)) (fun i hi e => hv1 (H.out.sep.nv _ e) (by decide) (by decide) hi) (fun i hi e => hv1 (H.out.sep.lv _ e) (by decide) (by decide) hi), H.out.dir.upd hu1 (fun i hi e => hv1 (H.out.sep.va _ e) (by decide) (by decide) hi), H.out.up, H.out.inv, H.out.see, H.out.sep⟩
 have hLd := If w1 h1.fil h1.inv.now (by omega)
 have c3 := aD hb1 3
 simp only [bA, bB, bS] at c3
 have HLd := aA hLd
 have H1 := aA h1
 have HU1 := aA hu1
 clear hb1 hl1 hu1 hlog1 h1 hLd hv1 HU
 go_wp2_with fail
 refine HLd.out.mono ?_
 rintro r w2 ⟨vd, rfl, hod, hu2⟩
 have h2 : dM w2 v p D room k s fs last X := H1.out.keep hu2 (by simp)
 have hfpl : ∀ i ∈ X.fp v, i < w1.heap.size := H1.out.lt
 have hd8 := H.out.inv.now.dir_len (by omega)
 have hl8 := H.out.inv.was.dir_len (by omega)
 have hover := uB (a := dT last) hd8
 have hWR := fun (Y : World) (u : aB [] w2 Y) => GU Y ((Ow.rd h2.dir).keep u) ((Ow.rd hod).keep u) hl8 hd8 (X.j :: X.F) (fun g hg => ⟨fun q => by
   have h1 := (hod.block g hg).1
   have h2 := hfpl g (aV.2 (by rcases aJ.1 q with q | q <;> simp [q]))
   omega, by have := (hod.block g hg).2; have := u.size; omega⟩) (fun i hi => by
   have h2 := hfpl i (aV.2 (by rcases aJ.1 hi with q | q <;> simp [q]))
   have := u.size; have := hu2.size
   omega)
 have hCM := fun (Y : World) (u : aB [] w2 Y) (vw : Value) (hw : eR Y (X.j :: X.F) vw (oV (dT last) (dT fs))) => GN Y (h2.log.dev.upd u (by simp)) h2.up hwr (h2.log.log.upd u (by simp)) h2.log.jF h2.log.nD hk h2.inv.quiet.slots hw hover.wok (fun x hx => by have := hover.low x hx; omega)
 obtain ⟨da, dc, dm, hdm, hvd⟩ := hod.sliceM
 obtain ⟨la, lc, lm, hlm, hva⟩ := h2.dir.sliceM
 have d0 := aD h2.box 0
 have d5 := aD h2.box 5
 have f5 := aZ h2.box 5
 simp only [bA, bB, bS] at d0 d5
 rw [hva] at d5
 subst hvd
 have HWR := aA hWR
 rw [hva] at HWR
 have HCM := aA hCM
 have H2 := aA (aC hod (aC hu2 (aC h2 hover)))
 have hvl2 := aH h2.box
 clear hod hu2 h2 hover hWR hCM hdm hlm HLd c3
 go_wp2_with fail
 go_region_held3 (fun Y => Y.cell? ⟨v, 0, none⟩ = some (.pointer (some ⟨X.j, 0, none⟩)) ∧ Y.cell? ⟨v, 5, none⟩ = some (.slice la lm lc))
  (first
   | (with_reducible exact iT (aB.refl [] w2).drew ⟨d0, d5⟩)
   | (with_reducible exact iT hv6 ⟨d0, d5⟩)
   | (have hb7 := hu7.block v (by have := hv6.size; omega) (by simp; exact ⟨o1, o2⟩); exact ⟨(iD hb7).trans (cN hv6 d0), (iD hb7).trans (cN hv6 d5)⟩))
  (first
   | (go_at_call 51; (with_reducible refine (HWR.out _ ?_).mono ?_); (exact (aB.refl [] w2).drew); rintro e w6 ⟨vw, rfl, hw6, hu6⟩; have hv6 : aB [] w2 w6 := (aB.refl [] w2).drew.trans hu6; have HW6 := aA hw6)
   | (go_at_call 50; (with_reducible refine (HCM.out _ hv6 _ HW6.out).mono ?_); rintro r w7 ⟨e, D7, F7, rfl, hE7, hD7, hL7, hu7, hF7⟩))
 have hs6 := hv6.size
 have hb7 : w7.heap[v]? = some (eW X.j X.c X.q X.mf X.ml X.va false) := (hu7.block v (by omega) (by simp; exact ⟨o1, o2⟩)).trans (gF hv6 H2.out.2.2.1.box)
 have hEr := hE7.err
 have hRan := hE7.ran (Iu (k := k + 1) (s := s) H2.out.2.2.2.wok)
 have hu17 : aB (X.fp v) w w7 := by
  refine AA ((((HU1.out.mono (G := v :: X.j :: X.F) ?_).trans (H2.out.2.1.mono (by simp))).trans (hv6.mono (by simp))).trans (hu7.mono ?_)) ?_
  ·intro i hi _; simp at hi ⊢; rcases hi with q | q <;> simp [q]
  ·intro i hi _; simp at hi ⊢; rcases hi with q | q <;> simp [q]
  intro i hi
  simp only [aJ] at hi
  rcases hi with q | q | q <;> exact aV.2 (by simp [q])
 have hF7' : ∀ i ∈ F7, i ∈ X.F ∨ w6.heap.size ≤ i := hF7
 have hs0 : w.heap.size ≤ w6.heap.size := by have := HU1.out.size; have := H2.out.2.1.size; omega
 have H7 := aA (aC hE7 (aC hD7 (aC hu7 (aC hF7 (aC hb7 (aC hu17 hRan))))))
 have HL7 := aA hL7
 clear hE7 hD7 hL7 hu7 hF7 hu17 hRan hF7'
 rcases hEr with rfl | rfl
 ·have f7 := aZ hb7 5
  have e5 := aD hb7 5
  have e2 := aD hb7 2
  simp only [bA, bB, bS] at e5 e2
  have hu8 : aB [v] w7 (w7.setCell ⟨v, 5, none⟩ (.slice da dm dc)) := (aB.refl [v] w7).setCell (by simp) _ _
  have hb8 : (w7.setCell ⟨v, 5, none⟩ (.slice da dm dc)).heap[v]? = some (eW X.j X.c X.q X.mf X.ml (.slice da dm dc) false) := by
   rw [bJ, aF rfl, hb7]; rfl
  have hmap6 := H2.out.2.2.1.keep hv6 (by simp)
  have hoffF : ∀ {i x : Nat}, X.T i = x → x ≠ 1 → x ≠ 2 → x ≠ 3 → i ∉ v :: X.j :: X.F := fun h1 h2 h3 h4 hi => by
   simp only [aJ] at hi
   rcases hi with hi | hi | hi
   ·exact eI h1 H.out.sep.v h2 hi
   ·exact eI h1 H.out.sep.j h3 hi
   exact eI h1 (H.out.sep.F _ hi) h4 rfl
  have hu68 : aB (v :: X.j :: X.F) w6 (w7.setCell ⟨v, 5, none⟩ (.slice da dm dc)) := (H7.out.2.2.1.mono (fun i hi _ => by simp at hi ⊢; rcases hi with q | q <;> simp [q])).trans (hu8.mono (by simp))
  have hsep := H.out.sep
  have hm8 := hmap6.map.upd hu68 (hoffF hsep.q (by decide) (by decide) (by decide)) (fun i hi e => hoffF (hsep.nv _ e) (by decide) (by decide) (by decide) hi) (fun i hi e => hoffF (hsep.lv _ e) (by decide) (by decide) (by decide) hi)
  have hf8 := hmap6.fil.upd hu68 (fun i hi => hoffF (hsep.FM i hi) (by decide) (by decide) (by decide))
  have HAC := aA (FZ _ hm8 (by rw [gO]; omega))
  have H8 := aA (aC hb8 (aC hu8 (aC hm8 (aC hf8 hu68))))
  have e2' := aD hb8 2
  simp only [bA, bB, bS] at e2'
  have hs8 : (w7.setCell ⟨v, 5, none⟩ (.slice da dm dc)).heap.size = w7.heap.size := by simp
  generalize hW8 : w7.setCell ⟨v, 5, none⟩ (.slice da dm dc) = w8 at *
  clear hb7 hb8 hu8 hmap6 hm8 hf8 hu68 e2
  go_wp2_with fail
  refine HAC.out.mono ?_
  rintro r w9 ⟨rfl, lv9, hm9, hu9, hn9⟩
  have hb9 : w9.heap[v]? = some (eW X.j X.c X.q X.mf X.ml (.slice da dm dc) false) := (hu9.block v (aH H8.out.1) (by simp; exact o6)).trans H8.out.1
  have hf9 := H8.out.2.2.2.1.upd hu9 (fun i hi q => o14 (by rw [aM.1 q] at hi; exact hi))
  have HK := aA (Is w9 hb9 hf9 H.out.inv.now o4)
  have H9 := aA (aC hm9 (aC hu9 (aC hn9 (aC hb9 hf9))))
  clear hm9 hu9 hn9 hb9 hf9 HAC
  go_wp2_with fail
  refine HK.out.mono ?_
  rintro r w10 ⟨rfl, mn, A2, R2, FL2, hb10, hf10, hu10, hn10⟩
  go_wp2_with fail
  go_ret
  obtain ⟨hE7, hD7, hu7, hF7, -, hu17, hRan⟩ := H7.out
  obtain ⟨hb8, hu8, -, -, hu68⟩ := H8.out
  obtain ⟨hm9, hu9, hn9, hb9, hf9⟩ := H9.out
  have hl7 : bZ w7 X.j p (room + 16) (k + 1) false := by simpa using HL7.out
  have u710 : aB [v, X.q] w7 w10 := ((hu8.mono (by simp)).trans (hu9.mono (by simp))).trans (hu10.mono (by simp))
  have u610 : aB (v :: X.q :: X.j :: X.F) w6 w10 := (hu7.mono (fun i hi _ => by simp at hi ⊢; rcases hi with q | q <;> simp [q])).trans (u710.mono (fun i hi _ => by simp at hi ⊢; rcases hi with q | q <;> simp [q]))
  have hlt := H.out.lt
  have hlv := fun i (hi : i ∈ X.fp v) => dN (hlt i hi) hs0
  have hFn : ∀ {a : Nat}, a ∈ X.fp v → a ∉ X.F → a ∉ F7 := fun ha hn q => by
   rcases hF7 _ q with q | q
   ·exact hn q
   have := hlv _ ha; omega
  have hoff : ∀ {i x : Nat}, X.T i = x → x ≠ 1 → x ≠ 2 → x ≠ 3 → x ≠ 7 → i ∉ v :: X.q :: X.j :: X.F := fun h1 h2 h3 h4 h5 hi => by
   simp only [aJ] at hi
   rcases hi with hi | hi | hi | hi
   ·exact eI h1 hsep.v h2 hi
   ·exact eI h1 hsep.q h5 hi
   ·exact eI h1 hsep.j h3 hi
   exact eI h1 (hsep.F _ hi) h4 rfl
  have h6 := H2.out.2.2.1.keep hv6 (by simp)
  have hsy := H.out.inv.sync hk
  have hblk := hE7.up.2.2.2
  have hdlow : ∀ g, (Value.slice da dm dc).ownBlock = some g → w.heap.size ≤ g ∧ g < w6.heap.size ∧ g ∉ v :: X.q :: X.j :: X.F := fun g hg => by
   have h1 := H2.out.1.block g hg
   have h2 := HU1.out.size
   refine ⟨by omega, by omega, fun q => ?_⟩
   have := hlt g (aV.2 (by simp only [aJ] at q; rcases q with q | q | q | q <;> simp [q]))
   omega
  have hs10 := hu10.size
  have hs9 := hu9.size
  have hsz7 := hu7.size
  have hlv9 : ∀ g, lv9.ownBlock = some g → w7.heap.size ≤ g ∧ g < w9.heap.size := fun g hg => ⟨by have := hn9 g hg; omega, (hm9.last.block g hg).2⟩
  have hF7lt := hD7.lt
  have hdir : Ow w10 0 (.slice da dm dc) (dT fs) := (((H2.out.1.upd hv6 (by simp)).upd u610 (fun i hi e => (hdlow i e).2.2 hi)).base (dH _))
  refine ⟨0, D7, rfl, hRan, fun _ => ⟨{ X with F := F7, va := .slice da dm dc, lv := lv9, ml := mn, FL := FL2, A' := A2, R' := R2, T := fun i => if w.heap.size ≤ i then (if (Value.slice da dm dc).ownBlock = some i then 10 else if i ∈ F7 then 3 else if lv9.ownBlock = some i then 9 else 6) else X.T i }, ⟨hb10, ⟨hl7.upd u710 (by simp; exact ⟨fun e => o1 e.symm, o11⟩), hD7.upd u710 (fun i hi q => ?_), h6.log.ca.upd u610 (fun i hi => hoff (hsep.FC i hi) (by decide) (by decide) (by decide) (by decide)), hFn (aV.2 (by simp)) o7, o8, fun i hi => hFn (aV.2 (by simp [hi])) (H.out.log.ap i hi), by rw [hE7.n]; exact H.out.log.nD, fun i hi => dN (h6.log.lt i hi) u610.size⟩,
   hf9.upd hu10 (fun i hi q => o4 (by rw [aM.1 q] at hi; exact hi)), hf10, hm9.upd hu10 (by simp; exact fun e => o6 e.symm) (fun i hi e => ?_) (fun i hi e => ?_), hdir, hE7.up.2.1, by rw [hblk]; exact hsy.2, fun b hb => ?_, ?_⟩, hu17.trans (u710.mono fun i hi _ => ?_), ?_⟩, fun h => absurd rfl h⟩
  ·simp only [aJ, cA, cG] at q
   rcases q with q | q
   ·subst q; exact hFn (aV.2 (by simp)) o2 hi
   subst q; exact hFn (aV.2 (by simp)) o12 hi
  ·rw [aM.1 hi] at e; exact eI (hsep.nv _ e) hsep.v (by decide) rfl
  ·rw [aM.1 hi] at e; have := hlv9 _ e; have := hlv v (aV.2 (by simp)); omega
  ·rw [H.out.see b hb, hblk]; exact (PD H.out.inv hk b).symm
  ·have old : ∀ {i x : Nat}, i ∈ X.fp v → X.T i = x → (if w.heap.size ≤ i then (if (Value.slice da dm dc).ownBlock = some i then 10 else if i ∈ F7 then 3 else if lv9.ownBlock = some i then 9 else 6) else X.T i) = x := fun h1 h2 => by
    rw [aE (by have := hlt _ h1; omega), h2]
   exact {
    v := old (aV.2 (by simp)) hsep.v
    j := old (aV.2 (by simp)) hsep.j
    F := fun i hi => by
     show (if _ then _ else _) = _
     rcases hF7 i hi with q | q
     ·exact old (aV.2 (by simp [q])) (hsep.F i q)
     rw [aF (by omega), aE (fun e => by have := hdlow i e; omega), aF hi]
    FC := fun i hi => old (aV.2 (by simp [hi])) (hsep.FC i hi)
    FM := fun i hi => old (aV.2 (by simp [hi])) (hsep.FM i hi)
    FL := fun i hi => by
     show (if _ then _ else _) = _
     have h1 := hn10 i hi
     rw [aF (by omega), aE (fun e => by have := hdlow i e; omega), aE (fun q => by have := hF7lt i q; omega), aE (fun e => by have := hlv9 i e; omega)]
    q := old (aV.2 (by simp)) hsep.q
    nv := fun g hg => old (aV.2 (by simp [hg])) (hsep.nv g hg)
    lv := fun g hg => by
     show (if _ then _ else _) = _
     have h1 := hlv9 g hg
     rw [aF (by omega), aE (fun e => by have := hdlow g e; omega), aE (fun q => by have := hF7lt g q; omega), aF hg]
    va := fun g hg => by
     show (if _ then _ else _) = _
     have h1 := hdlow g hg
     rw [aF h1.1, aF hg] }
  ·simp only [aJ, cA, cG] at hi
   rcases hi with rfl | rfl <;> exact aV.2 (by simp)
  intro i hi
  rcases aV.1 hi with q | q | q | q | q | q | q | q | q | q
  ·exact .inl (aV.2 (by simp [q]))
  ·exact .inl (aV.2 (by simp at q; simp [q]))
  ·exact .inl (aV.2 (by simp at q; simp [q]))
  ·rcases hF7 i q with q | q
   ·exact .inl (aV.2 (by simp [q]))
   exact .inr (by omega)
  ·exact .inl (aV.2 (by simp at q; simp [q]))
  ·exact .inl (aV.2 (by simp at q; simp [q]))
  ·exact .inr (by have := hn10 i q; omega)
  ·exact .inl (aV.2 (by simp at q; simp [q]))
  ·exact .inr (by have := hlv9 i q; omega)
  exact .inr (hdlow i q).1
 have HEN := aA (Aw w7 hb7 2)
 clear hb7
 go_wp2_with fail
 refine HEN.out.mono ?_
 rintro r w8 ⟨rfl, hb8, hu8⟩
 go_wp2_with fail
 go_ret
 obtain ⟨hE7, hD7, hu7, hF7, -, hu17, hRan⟩ := H7.out
 have hL7 := HL7.out
 refine ⟨2, D7, rfl, hRan, fun h => absurd h (by omega), fun _ => ⟨⟨v :: X.j :: F7, ⟨⟨X.j, X.c, X.q, X.mf, X.ml, X.va, _, room + 16, _, _, hb8, hL7.upd hu8 (by simp; exact fun e => o1 e.symm), ⟨F7, hD7.upd hu8 (fun i hi q => ?_), fun i hi => by simp [hi], fun q => ?_, fun q => ?_⟩, by omega, o1, by simp, by simp⟩, (hE7.dn (by omega)).2.2.1⟩, hu17.trans (hu8.mono fun i hi _ => by rw [aM.1 hi]; exact aV.2 (by simp)), ?_⟩, ?_⟩⟩
 ·rw [aM.1 q] at hi
  rcases hF7 _ hi with q | q
  ·exact o2 q
  omega
 ·rcases hF7 _ q with q | q
  ·exact o2 q
  omega
 ·rcases hF7 _ q with q | q
  ·exact o7 q
  have := H.out.lt X.j (aV.2 (by simp)); omega
 ·intro i hi
  simp only [aJ] at hi
  rcases hi with q | q | q
  ·exact .inl (aV.2 (by simp [q]))
  ·exact .inl (aV.2 (by simp [q]))
  rcases hF7 i q with q | q
  ·exact .inl (aV.2 (by simp [q]))
  exact .inr (by omega)
 intro l' hc
 obtain ⟨-, -, -, p1, q1, he, hbk⟩ := hE7.dn (by omega)
 rw [hbk] at hc
 exact (H.out.inv.sync hk).1 p1 q1 he l' hc
end Go.Proofs.YtgpefiacbipfpaaGreatDoor
