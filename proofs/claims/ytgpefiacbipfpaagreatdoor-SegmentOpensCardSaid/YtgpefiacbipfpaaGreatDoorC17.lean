/- The log's Open. -/
import Derived.Deep.DeepCutAuto
import Derived.BigQuiet
import Derived.Test.YtgpefiacbipfpaaGreatDoorC16
import Derived.Test.YtgpefiacbipfpaaGreatDoorC14
set_option maxRecDepth 100000
set_option maxHeartbeats 4000000
namespace Go.Proofs.YtgpefiacbipfpaaGreatDoor
open Go.RowKit Go.Maps
theorem eR.nil (w : World) (G : List Nat) : eR w G (.slice none 0 0) [] :=
 ⟨⟨[], ⟨⟨none, 0, rfl, aQ _, by unfold maxLen; omega, fun i hi => absurd hi (by simp)⟩, fun n c e => by cases e; rfl⟩, rfl, fun i x y hx => by simp at hx⟩, fun g hg => (nomatch hg), by simp, by simp⟩
def Am (w : World) (p k : Nat) (D : aI) (F : List Nat) (T : List cE) (r : Ending) (w' : World) : Prop :=
 ∃ (e : Nat) (D' : aI) (F' : List Nat) (v : Value), r = .returned (.tuple #[v, .int .i64 e]) ∧ bV T D e D' ∧ bN w' p D' F' ∧ aB F w w' ∧ (∀ i ∈ F', i ∈ F ∨ w.heap.size ≤ i) ∧ (e ≠ 0 → v = .pointer none) ∧
  (e = 0 → ∃ j, v = .pointer (some ⟨j, 0, none⟩) ∧ bZ w' j p (D.n - 20) (k + 1) false ∧ w.heap.size ≤ j ∧ j ∉ F')
theorem GP (w : World) {p : Nat} {D : aI} {F : List Nat} (h : bN w p D F) (_hdn : D.down = false) (hwr : D.wr ≤ 137438950000) {k s : Nat} (hk : k < 2 ^ 61) (hs : eO D.blk k s) {ws : List Wr} (hok : gA ws) (hhi : ∀ x ∈ ws, x.1 + 20 < D.n)
  (HWait : ∀ (W : World) (D1 : aI) (j : Nat), bN W p D1 F → D1.n = D.n → D1.blk = D.blk → D1.wr ≤ 137438951000 → bZ W j p (D.n - 20) k false → j ∉ F → Calls Tryz.prog 131 #[.pointer (some ⟨j, 0, none⟩)] W (Al W p D1 F fun w' v => (v = .slice none 0 0 ∧ ws = []) ∨ (eR w' F v ws ∧ ∃ g c, v = .slice (some g) ws.length c))) :
  Calls Tryz.prog 80 #[.pointer (some ⟨p, 0, none⟩)] w (Am w p k D F (eL ws ++ fR (k + 1) s)) := by
 obtain ⟨hf, hi, ho, he⟩ := hs.slots hk
 have HLd := aA (Mo w h (by omega) hf)
 have HD := aA h
 have hbn := h.bounds
 have HS := aA hs
 have HOK := aA hok
 have HH := aA hhi
 have HWt := aA HWait
 have hcv := fun W : World => Go.Lib.run_convert_bytes_const W 23 5 #[.int .u8 99, .int .u8 97, .int .u8 114, .int .u8 116, .int .u8 117, .int .u8 108, .int .u8 97, .int .u8 114, .int .u8 121] 9 9 T8.und Tryz.underlying5
 have HI := aA (aC hi ho)
 clear h hs hok hhi HWait hi ho hf
 go_in
 go_wp2_with fail
 refine HLd.out.mono ?_
 rintro r w1 ⟨e, D1, v, x, rfl, hD1, hU1, hcase⟩
 have hcv1 := hcv w1
 have HMg : Hid (∀ X : Obj, X = .cells #[.int .u8 99, .int .u8 97, .int .u8 114, .int .u8 116, .int .u8 117, .int .u8 108, .int .u8 97, .int .u8 114, .int .u8 121] 5 (9, 10) → Rd (w1.alloc X) (.slice (some ⟨w1.heap.size, 0, none⟩) 9 9) jW) := aA fun X hX => by subst hX; exact tC (l := jW) (aX _ _) (by decide)
 have H1 := aA (aC hD1 hU1)
 have hpF : p ∈ F := HD.out.p_mem
 clear hD1 hU1 HLd hcv
 rcases hcase with ⟨rfl, hE, rfl⟩ | ⟨rfl, hE, hno, -⟩ | ⟨rfl, hE, i, c, d, hnew, rfl, hr⟩
 ·go_wp2_with fail
  generalize hX4 : Obj.cells _ _ _ = X4
  have hmg4 := HMg.out X4 hX4.symm
  have hu4 : aB [] w1 (w1.alloc X4) := (aB.refl [] w1).alloc X4
  generalize w1.alloc X4 = w4 at *
  have H4 := aA hu4
  clear hX4 HMg hu4
  refine (Fe w4 (Rd.nil _) hmg4 (by simp [jW])).mono ?_
  rintro r w5 ⟨rfl, rfl⟩
  clear hmg4
  go_wp2_with fail
  go_ret2
  exact ⟨2, D1, F, _, rfl, bV.stop (eL ws ++ fR (k + 1) s) hE (by omega), H1.out.1.upd H4.out (by simp), (H1.out.2.mono (by simp; exact fun _ => hpF)).trans (H4.out.mono (by simp)), fun i hi => .inl hi, fun _ => rfl, fun q => by omega⟩
 ·exfalso
  have h1 := HI.out.1.is
  have h2 := HI.out.1.two
  have h3 : 1 - s = 0 ∨ 1 - s = 1 := by omega
  rcases h3 with q | q
  ·rw [q] at h1; rw [hno.1] at h1; cases h1
  rw [q] at h1; rw [hno.2] at h1; cases h1
 obtain ⟨rfl, rfl, rfl⟩ := HI.out.1.one HI.out.2 hnew
 obtain ⟨av, cv, mv, -, -, -, rfl⟩ := hr.sliceM
 go_wp2_with fail
 generalize hX4 : Obj.cells _ _ _ = X4
 have hmg4 := HMg.out X4 hX4.symm
 have hu4 : aB [] w1 (w1.alloc X4) := (aB.refl [] w1).alloc X4
 have hr4 := hr.keep hu4
 generalize w1.alloc X4 = w4 at *
 have H4 := aA hu4
 clear hX4 HMg hu4 hr hcv1 hnew
 refine (zM w4 hr4 hmg4 (yU _ _) (by have := sQ c; simp [dS, jW]; omega)).mono ?_
 rintro r w5 ⟨v5, rfl, hr5, rfl, -⟩
 unfold dS at hr5
 rw [kV] at hr5
 have hu5 := pC w5 hr5
 have hgu := pR (n := c) (by omega) []
 rw [sN] at hgu
 rw [hgu] at hu5
 dsimp only at hu5
 obtain ⟨a5, k5, m5, -, -, -, rfl⟩ := hr5.sliceM
 have HU5 := aA hu5
 have hD5 : bN w5 p D1 F := H1.out.1.upd H4.out (by simp)
 have HB5 := aA (BS w5 hD5)
 have HE := aA hE
 have hnn := hE.n
 have hblk : D1.blk = D.blk := hE.up.2.2.2
 have hw1 := hE.wr
 have hN : ((D1.n : Nat) : Int) - 20 = ((D.n - 20 : Nat) : Int) := by rw [hnn]; omega
 have HN := aA hN
 have hb1 : 64 ≤ D1.n := by omega
 have hb2 : D1.n ≤ 512 := by omega
 have HWd := aA fun (W : World) (j : Nat) (u : aB [] w5 W) => HWt.out W D1 j (hD5.upd u (by simp)) hnn hblk (by simp at hw1; omega)
 clear hr4 hmg4 hr5 hgu hD5 hnn hblk hw1 hN hu5 hE
 go_wp2_with fail
 refine HU5.out.mono ?_
 rintro r w6 ⟨rfl, rfl⟩
 go_wp2_with fail
 refine HB5.out.mono ?_
 rintro r w7 ⟨rfl, rfl⟩
 go_wp2_with fail
 have hX8 := aX w7 (.cells #[.pointer (some ⟨p, 0, none⟩), .int .i64 ((D1.n : Int) - 20), .int .u64 c, .bool false] 173)
 have hu8 : aB [] w7 (w7.alloc (.cells #[.pointer (some ⟨p, 0, none⟩), .int .i64 ((D1.n : Int) - 20), .int .u64 c, .bool false] 173)) := (aB.refl [] w7).alloc _
 generalize w7.alloc _ = w8 at *
 have hl8 : bZ w8 w7.heap.size p (D.n - 20) c false := by
  unfold bZ
  rw [hX8, HN.out]
 have hFl : ∀ q ∈ F, q < w7.heap.size := fun q hq => by have := (H1.out.1.upd H4.out (by simp)).lt q hq; exact this
 have hjF : w7.heap.size ∉ F := fun q => Be _ (hFl _ q)
 have hU8 : aB F w w8 := ((H1.out.2.mono (by simp; exact fun _ => hpF)).trans (H4.out.mono (by simp))).trans (hu8.mono (by simp))
 have hs7 : w.heap.size ≤ w7.heap.size := bG H1.out.2.size H4.out.size
 have HWx := aA (HWd.out w8 w7.heap.size hu8 hl8 hjF)
 have HL8 := aA hl8
 have HU8 := aA hU8
 clear hX8 hl8 hU8 hu8 HB5 HU5 HWd
 refine HWx.out.mono ?_
 rintro r w9 ⟨e9, D9, v9, rfl, hE9, hD9, hU9, hR9, hn9⟩
 have H9 := aA (aC (bV.next HE.out hE9) (aC hD9 (HU8.out.trans (hU9.mono (by simp; exact fun _ => hpF)))))
 have hl9 := HL8.out.upd hU9 (fun q => hjF (by obtain rfl := aM.1 q; assumption))
 have HL9 := aA hl9
 by_cases he9 : e9 = 0
 ·subst he9
  have hup := (bV.next HE.out hE9).up
  have hs9 : eO D9.blk c s := by rw [hup.2.2.2]; exact HS.out
  have hn99 := (bV.next HE.out hE9).n
  have hw99 := (bV.next HE.out hE9).wr
  have HApp := aA fun (v : Value) (hw : eR w9 F v ws) => GJ w9 hD9 hup.2.1 (by simp at hw99; omega) hl9 hjF hk hs9 hw HOK.out (fun x hx => by rw [hn99]; exact HH.out x hx)
  have hws9 : ∃ a m c, v9 = .slice a m c ∧ (a = none → m = 0 ∧ c = 0) ∧ eR w9 F (.slice a m c) ws := by
   rcases hR9 rfl with ⟨rfl, hn⟩ | ⟨hw, g, c, rfl⟩
   ·rw [hn]; exact ⟨none, 0, 0, rfl, fun _ => ⟨rfl, rfl⟩, eR.nil _ _⟩
   exact ⟨some g, _, c, rfl, fun q => (nomatch q), hw⟩
  obtain ⟨a9, m9, c9, rfl, hz9, hw9⟩ := hws9
  have HA := aA (HApp.out _ hw9)
  clear hup hs9 hn99 hw99 HApp hR9 hn9 hw9 hE9 hD9 hU9 hl9 HWx
  have key : ∀ {r w10}, CC w9 w7.heap.size p (D.n - 20) c false D9 F (eL ws ++ fR (c + 1) s) r w10 → ∃ e10 : Nat, r = .returned (.int .i64 e10) ∧ (e10 = 0 → Am w p c D F (eL ws ++ fR (c + 1) s) (.returned (.tuple #[.pointer (some ⟨w7.heap.size, 0, none⟩), .int .i64 (0 : Nat)])) w10) ∧ (e10 ≠ 0 → Am w p c D F (eL ws ++ fR (c + 1) s) (.returned (.tuple #[.pointer none, .int .i64 e10])) w10) := by
   rintro r w10 ⟨e10, D10, F10, rfl, hE10, hD10, hl10, hU10, hF10⟩
   have hEE : bV (eL ws ++ fR (c + 1) s) D e10 D10 := bV.next (a := []) H9.out.1 hE10
   have hUU : aB F w w10 := H9.out.2.2.next hU10 (fun q hq hlt => by
    rcases aJ.1 hq with rfl | hq
    ·omega
    exact hq)
   have hs9 := H9.out.2.2.size
   have hFF : ∀ i ∈ F10, i ∈ F ∨ w.heap.size ≤ i := fun i hi => (hF10 i hi).imp id (fun q => bG hs9 q)
   refine ⟨e10, rfl, fun q => ?_, fun q => ⟨e10, D10, F10, _, rfl, hEE, hD10, hUU, hFF, fun _ => rfl, fun q2 => absurd q2 q⟩⟩
   subst q
   rw [aF rfl] at hl10
   refine ⟨0, D10, F10, _, rfl, hEE, hD10, hUU, hFF, fun q => absurd rfl q, fun _ => ⟨_, rfl, hl10, hs7, fun q => ?_⟩⟩
   rcases hF10 _ q with q | q
   ·exact hjF q
   have := aH HL9.out; omega
  have HK := aA fun r w10 (h : CC w9 w7.heap.size p (D.n - 20) c false D9 F (eL ws ++ fR (c + 1) s) r w10) => key h
  clear key
  rcases a9 with _ | a9
  ·obtain ⟨rfl, rfl⟩ := hz9 rfl
   go_wp2_with fail
   refine HA.out.mono ?_
   intro r w10 h10
   obtain ⟨e10, rfl, h1, h2⟩ := HK.out r w10 h10
   have H10 := aA (aC h1 h2)
   clear h1 h2 h10 HA
   by_cases he10 : e10 = 0
   ·subst he10
    go_wp2_with fail
    go_ret2
    exact H10.out.1 (by trivial)
   have he10' : ¬ (e10 : Int) = 0 := by omega
   go_wp2_with fail
   go_ret2
   exact H10.out.2 he10
  clear hz9
  go_wp2_with fail
  refine HA.out.mono ?_
  intro r w10 h10
  obtain ⟨e10, rfl, h1, h2⟩ := HK.out r w10 h10
  have H10 := aA (aC h1 h2)
  clear h1 h2 h10 HA
  by_cases he10 : e10 = 0
  ·subst he10
   go_wp2_with fail
   go_ret2
   exact H10.out.1 (by trivial)
  have he10' : ¬ (e10 : Int) = 0 := by omega
  go_wp2_with fail
  go_ret2
  exact H10.out.2 he10
 obtain rfl := hn9 he9
 have he9' : ¬ (e9 : Int) = 0 := by omega
 clear hR9 hn9 hE9 hD9 hU9 hl9 HWx
 go_wp2_with fail
 go_ret2
 exact ⟨e9, D9, F, _, rfl, bV.stop (a := []) (eL ws ++ fR (c + 1) s) H9.out.1 he9, H9.out.2.1, H9.out.2.2, fun i hi => .inl hi, fun _ => rfl, fun q => absurd q he9⟩
theorem GQ (w : World) {p : Nat} {D : aI} {F : List Nat} (h : bN w p D F) (hdn : D.down = false) (hwr : D.wr ≤ 137438950000) {k s : Nat} (hk : k < 2 ^ 61) {ws : List Wr} {g : Nat → Bs} (hq : (ws = [] ∧ eP D.blk k s g) ∨ jX D.blk k s ws g) (_hn : 100 ≤ D.n ∨ 56 ≤ D.n) :
  Calls Tryz.prog 80 #[.pointer (some ⟨p, 0, none⟩)] w (Am w p k D F (gZ k s ws)) := by
 have hbn := h.bounds
 rcases hq with ⟨rfl, hq⟩ | hr
 ·refine GP w h hdn hwr hk hq.slots ⟨by simp, by simp, by simp⟩ (by simp) ?_
  intro W D1 j hD1 hn1 hb1 hw1 hl hjF
  have hX : GO (D1.blk 2).view k := by
   rw [hb1]
   obtain ⟨hp, hl⟩ := hq.list
   have hv : (D.blk 2).view = (D.blk 2).safe := by rw [aL.view, hp]; rfl
   rw [hv]
   rcases hl with hl | ⟨m, w', hm, hok, hl⟩
   ·exact .inl hl
   exact .inr ⟨m, w', by omega, by omega, hok, hl⟩
  exact (NX W hD1 (by omega) hl hjF hk hX).mono fun r w' ⟨e, D', v, q1, q2, q3, q4, q5, q6⟩ => ⟨e, D', v, q1, q2, q3, q4, fun he => .inl ⟨q5 he, rfl⟩, q6⟩
 refine GP w h hdn hwr hk hr.slots hr.wok (fun x hx => by have := hr.low x hx; omega) ?_
 intro W D1 j hD1 hn1 hb1 hw1 hl hjF
 have hX : (D1.blk 2).view = gY (k + 1) ws := by rw [hb1, hr.list]; rfl
 have hP : ∀ (i : Nat) (y : Wr), ws[i]? = some y → (D1.blk (3 + i)).view = y.2 := fun i y hy => by
  obtain ⟨hi, rfl⟩ := eX.1 hy
  rw [hb1, hr.parts i hi]; rfl
 exact (NZ W hD1 (by omega) hl hjF hk hr.wok hX hP (by omega)).mono fun r w' ⟨e, D', v, q1, q2, q3, q4, q5, q6⟩ => ⟨e, D', v, q1, q2, q3, q4, fun he => .inr (q5 he), q6⟩
end Go.Proofs.YtgpefiacbipfpaaGreatDoor
namespace Go.Proofs.YtgpefiacbipfpaaGreatDoor
open Go.RowKit
structure lC (w : World) (base : Nat) (v : Value) (d : Bs) : Prop where
 rd : Rd w v d
 row : ∃ g c ty cur, v = .slice (some ⟨g, 0, none⟩) 512 c ∧ 512 ≤ c ∧ c ≤ maxLen ∧ base ≤ g ∧ w.heap[g]? = some (.cells cur ty (0, 0)) ∧ 512 ≤ cur.size ∧ (∀ i : Nat, i < 512 → cur[i]? = (d.map fun b => Value.int .u8 b.toNat)[i]?)
theorem lC.lt {w : World} {base : Nat} {v : Value} {d : Bs} (h : lC w base v d) : ∀ g, v.ownBlock = some g → base ≤ g ∧ g < w.heap.size := by
 obtain ⟨-, g, c, ty, cur, rfl, -, -, h1, h2, -⟩ := h
 intro g' e
 simp only [Value.ownBlock, fY] at e
 subst e
 exact ⟨h1, aH h2⟩
theorem nB.row8 {w : World} {base : Nat} {v : Value} {d : Bs} (h : nB w base v d) (hd : d.length = 512) : lC w base v d := by
 have hr := (h.rd hd).1
 obtain ⟨B, rfl, h1, h2⟩ := h
 refine ⟨hr, B, 512, _, _, rfl, aQ _, by unfold maxLen; omega, h1, h2, by rw [lI, iU]; exact aQ _, fun i hi => ?_⟩
 rw [zO hd, bA]
theorem Ow.row8 {w : World} {base : Nat} {v : Value} {d : Bs} (h : Ow w base v d) (hd : d.length = 512) : lC w base v d := by
 have hr : Rd w v d := (aK.rd T8 h).b
 rcases h.2 with ⟨-, h2⟩ | ⟨g, cap, cur, rfl, hg, hb, r1, r2, r3, r4⟩
 ·rw [hd] at h2; omega
 rw [hd] at r1 r4 hr ⊢
 refine ⟨hr, g, cap, _, cur, rfl, r1, r2, hg, hb, by omega, fun i hi => ?_⟩
 rw [← uF, ← r4, qE (by omega), AZ]
theorem lC.base {w : World} {base base' : Nat} {v : Value} {d : Bs} (h : lC w base v d) (hb : base' ≤ base) : lC w base' v d := by
 obtain ⟨hr, g, c, ty, cur, hv, h0, h00, h1, h2⟩ := h
 exact ⟨hr, g, c, ty, cur, hv, h0, h00, by omega, h2⟩
theorem lC.upd {w w' : World} {base : Nat} {v : Value} {d : Bs} (h : lC w base v d) {F : List Nat} (u : aB F w w') (hF : ∀ g, v.ownBlock = some g → g ∉ F) : lC w' base v d := by
 obtain ⟨hr, g, c, ty, cur, rfl, h0, h00, h1, h2, h3⟩ := h
 have hg := hF g rfl
 exact ⟨(hr.g.upd T8 u hF).b, g, c, ty, cur, rfl, h0, h00, h1, (u.block g (aH h2) hg).trans h2, h3⟩
structure jE (w : World) (j p n k c m : Nat) (dead : Bool) (D : aI) (F : List Nat) (l : List (Bc.Nd Int fE)) (V : Nat → Bs) (FC : List Nat) : Prop where
 log : bZ w j p n k dead
 dev : bN w p D F
 ca : kH w c m l V FC
 jF : j ∉ F
 jC : j ∉ FC
 ap : ∀ i ∈ FC, i ∉ F
 nD : n + 20 = D.n
 lt : ∀ i ∈ FC, i < w.heap.size
theorem jE.same {w w' : World} {j p n k c m : Nat} {dead : Bool} {D : aI} {F : List Nat} {l l' : List (Bc.Nd Int fE)} {V V' : Nat → Bs} {FC G : List Nat} (h : jE w j p n k c m dead D F l V FC) (u : aB G w w') (hG : ∀ i ∈ G, i ∈ FC) (hc : kH w' c m l' V' FC) : jE w' j p n k c m dead D F l' V' FC :=
 ⟨h.log.upd u fun q => h.jC (hG _ q), h.dev.upd u fun i hi q => h.ap i (hG _ q) hi, hc, h.jF, h.jC, h.ap, h.nD, fun i hi => dN (h.lt i hi) u.size⟩
def Cx (w : World) (j p n k c m : Nat) (D : aI) (F : List Nat) (V : Nat → Bs) (FC : List Nat) (x : Nat) (r : Ending) (w' : World) : Prop :=
 ∃ (e : Nat) (D' : aI) (l' : List (Bc.Nd Int fE)) (FC' : List Nat) (v : Value), r = .returned (.tuple #[v, .int .i64 e]) ∧ bV [] D e D' ∧ jE w' j p n k c m (decide (e = 2)) D' F l' V FC' ∧ aB (j :: (F ++ FC)) w w' ∧ (∀ i ∈ FC', i ∈ FC ∨ w.heap.size ≤ i) ∧
  (e = 0 → lC w' w.heap.size v (V x) ∧ ∀ g, v.ownBlock = some g → g ∉ FC') ∧ (e ≠ 0 → v = .slice none 0 0)
theorem GR (w : World) {j p n k c m : Nat} {D : aI} {F : List Nat} {l : List (Bc.Nd Int fE)} {V : Nat → Bs} {FC : List Nat} (h : jE w j p n k c m false D F l V FC) (hdn : D.down = false) (hwr : D.wr ≤ 137438953000) (x : Nat) (hx : x < n) (hV : V x = (D.blk (20 + x)).view) (hV5 : (V x).length = 512) :
  Calls Tryz.prog 46 #[.agg #[.pointer (some ⟨j, 0, none⟩), .pointer (some ⟨c, 0, none⟩)], .int .i64 x] w (Cx w j p n k c m D F V FC x) := by
 have H := aA h
 have hjl := aH h.log
 have hu0 : ∀ o, aB [] w (w.alloc o) := fun o => (aB.refl [] w).alloc o
 have HG := aA fun o => NI (w.alloc o) (h.ca.upd (hu0 o) (by simp)) x
 clear h
 go_in
 go_wp2_with fail
 refine (HG.out _).mono ?_
 have hU0 := hu0 (.cells #[.pointer (some ⟨j, 0, none⟩), .pointer (some ⟨c, 0, none⟩)] 80)
 have hB0 := aX w (.cells #[.pointer (some ⟨j, 0, none⟩), .pointer (some ⟨c, 0, none⟩)] 80)
 clear hu0 HG
 generalize w.alloc (.cells #[.pointer (some ⟨j, 0, none⟩), .pointer (some ⟨c, 0, none⟩)] 80) = W0 at *
 rintro r w1 (⟨⟨va, vn, vc⟩, l1, rfl, ho, hc1, hu1⟩ | ⟨rfl, rfl⟩)
 ·have HC := aA (uG w1 (aK.rd T8 ho) (by rw [hV5]; omega))
  have H1 := aA (aC ho (aC hc1 hu1))
  clear ho hc1 hu1
  go_wp2_with fail
  refine HC.out.mono ?_
  rintro r w2 ⟨v2, rfl, ho2, hu2⟩
  go_wp2_with fail
  go_ret2
  have hU : aB FC w w2 := ((hU0.mono (by simp)).trans H1.out.2.2).trans (hu2.mono (by simp))
  have hlt := H1.out.2.2.size
  have hl0 := hU0.size
  obtain ⟨av, cv, mv, hmv, rfl⟩ := ho2.sliceM
  refine ⟨0, D, l1, FC, _, rfl, bV.refl hdn, H.out.same hU (fun i hi => hi) (H1.out.2.1.upd hu2 (by simp)), hU.mono (fun k hk _ => by simp [hk]), fun i hi => .inl hi, fun _ => ⟨(Ow.row8 ho2 hV5).base (by omega), fun g hg hgc => ?_⟩, fun h => absurd rfl h⟩
  have h1 := (ho2.block g hg).1
  have h2 := H.out.lt g hgc
  omega
 have hlog := H.out.log.upd hU0 (by simp)
 have hdev := H.out.dev.upd hU0 (by simp)
 have HR := aA (FT w1 hlog hdev hdn H.out.nD hwr H.out.jF x hx)
 have k0 := aD hB0 0
 have k1 := aD hB0 1
 simp only [bA, bB, bS] at k0 k1
 clear hlog hdev
 go_wp2_with fail
 refine HR.out.mono ?_
 rintro r w2 ⟨e, D', v, rfl, hE, hD', hL', hu2, hok, hbad⟩
 have hpF := H.out.dev.p_mem
 have hwlt : w.heap.size < w1.heap.size := aH hB0
 have hpl := H.out.dev.lt p hpF
 have hb2 : w2.heap[w.heap.size]? = _ := (hu2.block _ hwlt (by simp; omega)).trans hB0
 have m1 := aD hb2 1
 simp only [bA, bB, bS] at m1
 have H2 := aA (aC hE (aC hD' (aC hL' hu2)))
 by_cases he0 : e = 0
 ·subst he0
  have hnb := hok rfl
  obtain ⟨hrd, hbk⟩ := hnb.rd (by rw [← hV]; exact hV5)
  obtain ⟨B, rfl, hB1, hB2⟩ := hnb
  have HK := aA fun (X : World) (u : aB [] w2 X) => uG X (hrd.g.keep T8 u) (by rw [← hV, hV5]; omega)
  have HRD := aA hrd
  have hca : kH w2 c m l V FC := (H.out.ca.upd hU0 (by simp)).upd hu2 fun k hk q => by
   simp only [aJ, cA, cG] at q
   rcases q with rfl | rfl
   ·exact H.out.ap _ hk hpF
   exact H.out.jC hk
  have hwF : w.heap.size ∉ FC := fun q => by have := H.out.lt _ q; omega
  have HCA := aA fun (X : World) (u : aB [] w2 X) (v : fE) (ho : Ow X 0 (lB v) (D.blk (20 + x)).view) => Gy X (hca.upd u (by simp)) x v ho
  clear hE hD' hL' hu2 hok hbad k0 k1 hrd hbk
  go_wp2_with fail
  go_region_held3 (fun X => X.cell? ⟨w.heap.size, 1, none⟩ = some (.pointer (some ⟨c, 0, none⟩)))
   (first
    | (with_reducible exact cN (aB.refl [] w2).drew m1)
    | (with_reducible exact cN hv6 m1)
    | (exact (iD ((hu7.block w.heap.size (by have := aH hb2; have := hv6.size; omega) hwF))).trans (cN hv6 m1)))
   (first
    | (go_at_call 92; (with_reducible refine (HK.out _ ?_).mono ?_); (exact (aB.refl [] w2).drew); rintro e w6 ⟨v6, rfl, ho6, hu6⟩; obtain ⟨a6, c6, m6, hm6, rfl⟩ := ho6.sliceM; have hv6 : aB [] w2 w6 := (aB.refl [] w2).drew.trans hu6; have HO6 := aA ho6; clear hm6)
    | (go_at_call 93; (with_reducible refine (HCA.out _ hv6 ⟨a6, m6, c6⟩ (HO6.out.base (dH _))).mono ?_); rintro e w7 ⟨k', v', b1, b2, l', FC', rfl, hc7, hu7, hf7⟩))
  go_wp2_with fail
  go_ret2
  have hV' : ∀ kk, V kk = pE V x (D.blk (20 + x)).view kk := fun kk => by
   unfold pE; split
   ·rename_i e; rw [e, hV]
   rfl
  obtain ⟨hE, hD', hL', hu2⟩ := H2.out
  have hU6 : aB [p, j] w w6 := ((hU0.mono (by simp)).trans hu2).trans (hv6.mono (by simp))
  have hU7 : aB (j :: (F ++ FC)) w w7 := (hU6.mono (fun k hk _ => by simp only [aJ, cA, cG] at hk; rcases hk with rfl | rfl <;> simp [hpF])).next hu7 (fun k hk _ => by simp [hk])
  have hs6 := hU6.size
  have h6 := ho6.block
  refine ⟨0, D', l', FC', .slice (some ⟨B, 0, none⟩) 512 512, rfl, hE, ⟨(hL'.upd hv6 (by simp)).upd hu7 H.out.jC, (hD'.upd hv6 (by simp)).upd hu7 (fun i hi q => H.out.ap i q hi), hc7.congr hV', H.out.jF, ?_, ?_, by rw [hE.n]; exact H.out.nD, ?_⟩, hU7, ?_, fun _ => ⟨?_, ?_⟩, fun h => absurd rfl h⟩
  ·intro q
   rcases hf7 _ q with q | q | q
   ·exact H.out.jC q
   ·omega
   have := (h6 _ q).1; have : w2.drew.heap.size = w2.heap.size := rfl; have := hu2.size; omega
  ·intro i hi q
   have hlt := H.out.dev.lt i q
   rcases hf7 _ hi with q2 | q2 | q2
   ·exact H.out.ap i q2 q
   ·omega
   have := (h6 _ q2).1; have : w2.drew.heap.size = w2.heap.size := rfl; have := hu2.size; omega
  ·intro i hi
   have := hu7.size
   rcases hf7 _ hi with q2 | q2 | q2
   ·have := H.out.lt i q2; omega
   ·exact q2.2
   have := (h6 _ q2).2; omega
  ·intro i hi
   rcases hf7 _ hi with q2 | q2 | q2
   ·exact .inl q2
   ·exact .inr (by omega)
   have := (h6 _ q2).1; have : w2.drew.heap.size = w2.heap.size := rfl; have := hu2.size; exact .inr (by omega)
  ·rw [hV]
   refine ((((nB.row8 (⟨B, rfl, hB1, hB2⟩ : nB w2 w1.heap.size _ _) (by rw [← hV]; exact hV5)).upd hv6 (by simp)).upd hu7 fun g hg q => ?_).base (by omega))
   simp only [Value.ownBlock, fY] at hg
   subst hg
   have := H.out.lt _ q
   omega
  intro g hg q
  simp only [Value.ownBlock, fY] at hg
  subst hg
  have h8 := aH hB2
  have h9 := hv6.size
  rcases hf7 _ q with q2 | q2 | q2
  ·have := H.out.lt _ q2; omega
  ·omega
  have := (h6 _ q2).1; have : w2.drew.heap.size = w2.heap.size := rfl; omega
 obtain rfl := hbad he0
 have he0' : ¬ (e : Int) = 0 := by omega
 clear hE hD' hL' hu2 hok hbad k0 k1
 go_wp2_with fail
 go_ret2
 obtain ⟨hE, hD', hL', hu2⟩ := H2.out
 have hU2 : aB [p, j] w w2 := (hU0.mono (by simp)).trans hu2
 refine ⟨e, D', l, FC, _, rfl, hE, ⟨hL', hD', (H.out.ca.upd hU0 (by simp)).upd hu2 fun k hk q => ?_, H.out.jF, H.out.jC, H.out.ap, by rw [hE.n]; exact H.out.nD, fun i hi => dN (H.out.lt i hi) hU2.size⟩, hU2.mono fun k hk _ => ?_, fun i hi => .inl hi, fun h => absurd h he0, fun _ => rfl⟩
 ·simp only [aJ, cA, cG] at q
  rcases q with rfl | rfl
  ·exact H.out.ap _ hk hpF
  exact H.out.jC hk
 simp only [aJ, cA, cG] at hk
 rcases hk with rfl | rfl <;> simp [hpF]
def Oa (w : World) (j p n k c m : Nat) (D : aI) (F : List Nat) (V : Nat → Bs) (FC : List Nat) (x : Nat) (d : Bs) (r : Ending) (w' : World) : Prop :=
 ∃ (e : Nat) (D' : aI) (F' : List Nat) (l' : List (Bc.Nd Int fE)) (FC' : List Nat), r = .returned (.int .i64 e) ∧ bV [.write (20 + x) d] D e D' ∧ jE w' j p n k c m (decide (e = 2)) D' F' l' (if e = 0 then pE V x d else V) FC' ∧ aB (j :: (F ++ FC)) w w' ∧
  (∀ i ∈ F', i ∈ F ∨ w.heap.size ≤ i) ∧ (∀ i ∈ FC', i ∈ FC ∨ w.heap.size ≤ i)
theorem Ob (w : World) {j p n k c m : Nat} {D : aI} {F : List Nat} {l : List (Bc.Nd Int fE)} {V : Nat → Bs} {FC : List Nat} (h : jE w j p n k c m false D F l V FC) (hdn : D.down = false) (hwr : D.wr ≤ 137438953000) (x : Nat) (hx : x < n)
  {b off cc : Nat} {d : Bs} (hv : Rd w (.slice (some ⟨b, off, none⟩) 512 cc) d) (hd5 : d.length = 512) (hbF : b ∉ F) (hbj : b ≠ j) (_hbC : b ∉ FC) (_hbl : b < w.heap.size) :
  Calls Tryz.prog 48 #[.agg #[.pointer (some ⟨j, 0, none⟩), .pointer (some ⟨c, 0, none⟩)], .int .i64 x, .slice (some ⟨b, off, none⟩) 512 cc] w (Oa w j p n k c m D F V FC x d) := by
 have H := aA h
 have hjl := aH h.log
 have hu0 : ∀ o, aB [] w (w.alloc o) := fun o => (aB.refl [] w).alloc o
 have HP := aA fun o => Mx (w.alloc o) (h.log.upd (hu0 o) (by simp)) (h.dev.upd (hu0 o) (by simp)) hdn h.nD hwr h.jF x hx (hv.keep (hu0 o)) hd5 hbF hbj
 have HV := aA hv
 clear h hv
 go_in
 go_wp2_with fail
 refine (HP.out _).mono ?_
 have hU0 := hu0 (.cells #[.pointer (some ⟨j, 0, none⟩), .pointer (some ⟨c, 0, none⟩)] 80)
 have hB0 := aX w (.cells #[.pointer (some ⟨j, 0, none⟩), .pointer (some ⟨c, 0, none⟩)] 80)
 clear hu0 HP
 generalize w.alloc (.cells #[.pointer (some ⟨j, 0, none⟩), .pointer (some ⟨c, 0, none⟩)] 80) = w1 at *
 rintro r w2 ⟨e, D', F', rfl, hE, hD', hL', hu2, hF'⟩
 have hwlt : w.heap.size < w1.heap.size := aH hB0
 have hb2 : w2.heap[w.heap.size]? = _ := (hu2.block _ hwlt (fun q => by
  rcases aJ.1 q with q | q
  ·omega
  have := H.out.dev.lt _ q; omega)).trans hB0
 have m1 := aD hb2 1
 simp only [bA, bB, bS] at m1
 have hca : kH w2 c m l V FC := (H.out.ca.upd hU0 (by simp)).upd hu2 fun k hk q => by
  rcases aJ.1 q with q | q
  ·subst q; exact H.out.jC hk
  exact H.out.ap _ hk q
 have hrd : Rd w2 (.slice (some ⟨b, off, none⟩) 512 cc) d := ((HV.out.keep hU0).g.upd T8 hu2 (fun g hg q => by
  simp only [Value.ownBlock, fY] at hg
  subst hg
  rcases aJ.1 q with q | q
  ·exact hbj q
  exact hbF q)).b
 have hU2 : aB (j :: (F ++ FC)) w w2 := (hU0.mono (by simp)).trans (hu2.mono fun k hk _ => by
  rcases aJ.1 hk with q | q
  ·simp [q]
  simp [q])
 have hF2 : ∀ i ∈ F', i ∈ F ∨ w.heap.size ≤ i := fun i hi => (hF' i hi).imp id fun q => by omega
 have hdl := hD'.lt
 have H2 := aA (aC hE (aC hD' (aC hL' (aC hU2 (aC hF2 hca)))))
 have hs2 := hU2.size
 by_cases he0 : e = 0
 ·subst he0
  have HK := aA fun (X : World) (u : aB [] w2 X) => uG X (hrd.g.keep T8 u) (by rw [hd5]; omega)
  have hwF : w.heap.size ∉ FC := fun q => by have := H.out.lt _ q; omega
  have HCA := aA fun (X : World) (u : aB [] w2 X) (v : fE) (ho : Ow X 0 (lB v) d) => Gy X (hca.upd u (by simp)) x v ho
  clear hE hD' hL' hu2 hca hrd hU2 hF2
  go_wp2_with fail
  go_region_held3 (fun X => X.cell? ⟨w.heap.size, 1, none⟩ = some (.pointer (some ⟨c, 0, none⟩)))
   (first
    | (with_reducible exact cN (aB.refl [] w2).drew m1)
    | (with_reducible exact cN hv6 m1)
    | (exact (iD ((hu7.block w.heap.size (by have := aH hb2; have := hv6.size; omega) hwF))).trans (cN hv6 m1)))
   (first
    | (go_at_call 92; (with_reducible refine (HK.out _ ?_).mono ?_); (exact (aB.refl [] w2).drew); rintro e w6 ⟨v6, rfl, ho6, hu6⟩; obtain ⟨a6, c6, m6, hm6, rfl⟩ := ho6.sliceM; have hv6 : aB [] w2 w6 := (aB.refl [] w2).drew.trans hu6; have HO6 := aA ho6; clear hm6)
    | (go_at_call 93; (with_reducible refine (HCA.out _ hv6 ⟨a6, m6, c6⟩ (HO6.out.base (dH _))).mono ?_); rintro e w7 ⟨k', v', b1, b2, l', FC', rfl, hc7, hu7, hf7⟩))
  go_wp2_with fail
  go_ret
  obtain ⟨hE, hD', hL', hU2, hF2, -⟩ := H2.out
  have hU6 := hU2.trans (hv6.mono (by simp))
  have hU7 : aB (j :: (F ++ FC)) w w7 := hU6.next hu7 (fun k hk _ => by simp [hk])
  have hs6 := hv6.size
  have h6 := ho6.block
  have hap : ∀ i ∈ FC, i ∉ F' := fun i hi q => by
   rcases hF2 i q with q | q
   ·exact H.out.ap i hi q
   have := H.out.lt i hi; omega
  refine ⟨0, D', F', l', FC', rfl, hE, ⟨(hL'.upd hv6 (by simp)).upd hu7 H.out.jC, (hD'.upd hv6 (by simp)).upd hu7 (fun i hi q => hap i q hi), hc7, ?_, ?_, ?_, by rw [hE.n]; exact H.out.nD, ?_⟩, hU7, hF2, ?_⟩
  ·intro q
   rcases hF2 _ q with q | q
   ·exact H.out.jF q
   omega
  ·intro q
   rcases hf7 _ q with q | q | q
   ·exact H.out.jC q
   ·omega
   have := (h6 _ q).1; have : w2.drew.heap.size = w2.heap.size := rfl; omega
  ·intro i hi q
   have hlt := hdl i q
   rcases hf7 _ hi with q2 | q2 | q2
   ·exact hap i q2 q
   ·omega
   have := (h6 _ q2).1; have : w2.drew.heap.size = w2.heap.size := rfl; omega
  ·intro i hi
   have := hu7.size
   rcases hf7 _ hi with q2 | q2 | q2
   ·have := H.out.lt i q2; omega
   ·exact q2.2
   have := (h6 _ q2).2; omega
  intro i hi
  rcases hf7 _ hi with q2 | q2 | q2
  ·exact .inl q2
  ·exact .inr (by omega)
  have := (h6 _ q2).1; have : w2.drew.heap.size = w2.heap.size := rfl; exact .inr (by omega)
 have he0' : ¬ (e : Int) = 0 := by omega
 clear hE hD' hL' hu2 hca hrd hU2 hF2
 go_wp2_with fail
 go_ret
 obtain ⟨hE, hD', hL', hU2, hF2, hca⟩ := H2.out
 refine ⟨e, D', F', l, FC, rfl, hE, ⟨hL', hD', by rw [aE he0]; exact hca, ?_, H.out.jC, ?_, by rw [hE.n]; exact H.out.nD, fun i hi => dN (H.out.lt i hi) hU2.size⟩, hU2, hF2, fun i hi => .inl hi⟩
 ·intro q
  rcases hF2 _ q with q | q
  ·exact H.out.jF q
  omega
 intro i hi q
 rcases hF2 i q with q | q
 ·exact H.out.ap i hi q
 have := H.out.lt i hi; omega
def An (bb ob cb : Nat) (n : Nat) : jM := ⟨n, some ⟨bb, ob + n * 512, none⟩, 512, cb - n * 512⟩
def pY (a b : Bs) (i : Nat) : List Nat := (List.range i).filter fun n => decide (dK a n ≠ dK b n)
theorem GS (a b : Bs) (i : Nat) : pY a b (i + 1) = pY a b i ++ (if dK a i = dK b i then [] else [i]) := by
 unfold pY
 rw [DI, List.filter_append]
 by_cases h : dK a i = dK b i <;> simp [h]
theorem GT (a b : Bs) : oV a b = (pY a b 16).map fun n => (n, dK b n) := by
 unfold oV pY
 generalize List.range 16 = l
 induction l with
 | nil => rfl
 | cons n l ih =>
  rw [List.filterMap_cons, AV]
  by_cases h : dK a n = dK b n <;> simp [h, ih]
theorem GU (w : World) {va vb : Value} {a b : Bs} (ha : Rd w va a) (hb : Rd w vb b) (ha8 : a.length = 8192) (hb8 : b.length = 8192) (G : List Nat) (hG : ∀ g, vb.ownBlock = some g → g ∉ G ∧ g < w.heap.size) (hGl : ∀ i ∈ G, i < w.heap.size) :
  Calls Tryz.prog 51 #[va, vb] w fun e w' => ∃ v, e = .returned v ∧ eR w' G v (oV a b) ∧ aB [] w w' := by
 have hA := aA ha
 have hB := aA hb
 obtain ⟨aa, ca, rfl, hca1, hca2, hca3⟩ := ha.g.slice
 obtain ⟨ab, cb, rfl, hcb1, hcb2, hcb3⟩ := hb.g.slice
 rw [ha8] at hA hca1 hca3 ⊢
 rw [hb8] at hB hcb1 hcb3 hG ⊢
 rcases aa with _ | ⟨ba, oa, sa⟩
 ·have := (hca3 rfl).1; omega
 rcases ab with _ | ⟨bb, ob, sb⟩
 ·have := (hcb3 rfl).1; omega
 obtain ⟨⟨_, _, hva, -, -, hat⟩, -⟩ := ha
 obtain ⟨⟨_, _, hvb, -, -, hbt⟩, -⟩ := hb
 obtain ⟨_, _, e1, -⟩ := hat 0 (by omega)
 obtain ⟨_, _, e2, -⟩ := hbt 0 (by omega)
 simp only [fG] at hva hvb
 obtain ⟨e3, -, -⟩ := hva
 obtain ⟨e4, -, -⟩ := hvb
 rw [← e3] at e1
 rw [← e4] at e2
 simp only [fY, yX] at e1 e2
 obtain ⟨rfl, rfl, rfl⟩ := e1
 obtain ⟨rfl, rfl, rfl⟩ := e2
 clear e3 e4 hat hbt hca3 hcb3
 go_in
 go_wp2_with fail
 go_loopg [5, 9] 16 (fun gh v5 v9 wr => ∃ (i : Nat) (a5 : Option Addr) (m5 c5 : Nat), v5 = .slice a5 m5 c5 ∧ v9 = .int .i64 i ∧ i ≤ 16 ∧ gh = 16 - i ∧ Hid (aK cW 168 2 wr w.heap.size (.slice a5 m5 c5) ((pY a b i).map (An bb ob cb)) ∧ aB [] w wr))
 case atStart => exact ⟨0, none, 0, 0, rfl, rfl, dH _, rfl, aA ⟨aK.nil _ _, aB.refl _ _⟩⟩
 case round =>
  obtain ⟨i, a5, m5, c5, rfl, rfl, hi, rfl, HR⟩ := hrel
  by_cases h16 : i < 16
  ·have h16' : (i : Int) < 16 := by omega
   obtain ⟨f, hf⟩ : ∃ f, f = i * 512 := ⟨_, rfl⟩
   obtain ⟨t, ht⟩ : ∃ t, t = f + 512 := ⟨_, rfl⟩
   have w1 : IntKind.i64.wrap ((i : Int) * 512) = (f : Int) := by rw [fF _ (by omega)]; omega
   have w2 : IntKind.i64.wrap (((i : Int) + 1) * 512) = (t : Int) := by rw [fF _ (by omega)]; omega
   have q1 : (f : Int) ≤ (t : Int) := by omega
   have q2 : (t : Int) ≤ (ca : Int) := by omega
   have q3 : (t : Int) ≤ (cb : Int) := by omega
   have q4 : f ≤ t := by omega
   have q5 : t ≤ ca := by omega
   have q6 : t ≤ cb := by omega
   have q7 : ¬ ca = f := by omega
   have q8 : ¬ cb = f := by omega
   have q9 : t - f = 512 := by omega
   have qa : t ≤ 9223372036854775807 := by omega
   have pA := Rd.part (hA.out.keep HR.out.2) f 512 (by rw [ha8]; omega) (ca - f) (by omega) (by omega)
   have pB := Rd.part (hB.out.keep HR.out.2) f 512 (by rw [hb8]; omega) (cb - f) (by omega) (by omega)
   have HE := aA fun n => (xC (wr.drewN n) (pA.keep ((aB.refl [] wr).drewN n)) (pB.keep ((aB.refl [] wr).drewN n)))
   have e1 : (a.drop f).take 512 = dK a i := by rw [hf]; rfl
   have e2 : (b.drop f).take 512 = dK b i := by rw [hf]; rfl
   rw [e1, e2] at HE
   have HF := aA (aC hf ht)
   clear pA pB hf ht e1 e2
   by_cases hab : dK a i = dK b i
   ·rw [decide_eq_true hab] at HE
    have HAB := aA hab
    clear hab
    go_wp2_with fail
    go_quiet (first | (go_at_call 111; refine Calls.quiet_of_same (HE.out _)))
    go_wp2_with fail
    go_roundg (16 - (i + 1))
    case measure => omega
    case rel =>
     refine ⟨i + 1, a5, m5, c5, rfl, by simp, by omega, rfl, aA ⟨?_, HR.out.2.drewN _⟩⟩
     rw [GS, aF HAB.out, sN]
     exact HR.out.1.upd ((aB.refl [] wr).drewN _) (by simp)
   rw [decide_eq_false hab] at HE
   have HAB := aA hab
   clear hab
   go_wp2_with fail
   go_quiet (first | (go_at_call 111; refine Calls.quiet_of_same (HE.out _)))
   have hown := HR.out.1.upd ((aB.refl [] wr).drewN nq) (by simp)
   have hupd := HR.out.2.drewN nq
   generalize wr.drewN nq = W2 at *
   have HO := aA (aC hown hupd)
   have hs2 := hupd.size
   have hm5 : ((pY a b i).map (An bb ob cb)).length ≤ 16 := by
    rw [dF]
    exact bG (AY _ _) (by simp; omega)
   clear hown hupd HE
   generalize hLL : (pY a b i).map (An bb ob cb) = LL at *
   have HLL := aA hLL
   clear hLL
   go_wp2_with (at_builtin; refine fS TW rfl _ _ rfl (base := w.heap.size) (l := LL) (r := [⟨i, some ⟨bb, ob + f, none⟩, 512, cb - f⟩]) rfl (HO.out.1.upd ((aB.refl [] W2).alloc _) (by simp)) rfl (iS TW (ty := 168) (aX _ _)) (BP _) ?c1 ?c2 ?c3 ?_)
   case c1 => simp; omega
   case c2 => simp; omega
   case c3 => simp; omega
   intro v7 w7 ho7 hg7 hn7
   obtain ⟨a7, c7, m7, hm7, rfl⟩ := ho7.sliceM
   have hu7 : aB [] w w7 := (HO.out.2.alloc _).grown hg7 (fun g hg => (HO.out.1.block g hg).1)
   have HO7 := aA (aC ho7 hu7)
   clear ho7 hu7 hm7 hg7 hn7
   go_wp2_with fail
   go_roundg (16 - (i + 1))
   case measure => omega
   case rel =>
    refine ⟨i + 1, a7, m7, c7, rfl, by simp, by omega, rfl, aA ⟨?_, HO7.out.2⟩⟩
    rw [GS, aE HAB.out, eZ, HLL.out]
    have h1 := HO7.out.1
    rw [HF.out.1] at h1
    exact h1
  obtain rfl : i = 16 := by omega
  have h16' : ¬ ((16 : Nat) : Int) < 16 := by omega
  go_wp2_with fail
  go_ret
  refine ⟨_, rfl, ⟨⟨(pY a b 16).map (An bb ob cb), aK.rd TW HR.out.1, ?_, ?_⟩, ?_, ?_, ?_⟩, HR.out.2⟩
  ·rw [GT, dF, dF]
  ·intro j x y hx hy
   rw [GT, lL] at hy
   rw [lL] at hx
   cases hn : (pY a b 16)[j]? with
   | none => rw [hn] at hx; cases hx
   | some n =>
    rw [hn] at hx hy
    simp only [Option.map, fY] at hx hy
    subst hx
    subst hy
    have hn16 : n < 16 := by
     have := fC hn
     simp [pY] at this
     exact this.1
    refine ⟨rfl, ?_, fun g hg => ?_⟩
    ·have := Rd.part (hB.out.keep HR.out.2) (n * 512) 512 (by rw [hb8]; omega) (cb - n * 512) (by omega) (by omega)
     exact this
    have h1 := hG g hg
    exact ⟨h1.1, dN h1.2 HR.out.2.size⟩
  ·intro g hg
   have h1 := HR.out.1.block g hg
   exact ⟨fun q => by have := hGl g q; omega, h1.2⟩
  ·intro x hx
   obtain ⟨h1, -, h3⟩ := vL.1 hx
   rw [h3]
   exact BG hb8 h1
  have := (uB (a := a) hb8).wok.1
  omega
end Go.Proofs.YtgpefiacbipfpaaGreatDoor
