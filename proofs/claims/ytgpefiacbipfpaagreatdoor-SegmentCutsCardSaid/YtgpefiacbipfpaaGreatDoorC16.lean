/- The log's Open. fsdir's log: the journal with a cache ahead of it: get. fsdir's log: set. fsdir's writes: the blocks in which a directory differs from another one. -/
import Derived.Deep.DeepCutAuto
import Derived.BigQuiet
import Derived.Test.YtgpefiacbipfpaaGreatDoorC15
import Derived.Test.YtgpefiacbipfpaaGreatDoorC13
namespace Go.Proofs.YtgpefiacbipfpaaGreatDoor
open Go.RowKit Go.Maps
theorem WrsAt.nil (w : World) (G : List Nat) : WrsAt w G (.slice none 0 0) [] :=
 ⟨⟨[], ⟨⟨none, 0, rfl, Nat.le_refl _, by unfold maxLen; omega, fun i hi => absurd hi (by simp)⟩, fun n c e => by cases e; rfl⟩, rfl, fun i x y hx => by simp at hx⟩, fun g hg => (nomatch hg), by simp, by simp⟩
def OpenPost (w : World) (p k : Nat) (D : Dev) (F : List Nat) (T : List DOp) (r : Ending) (w' : World) : Prop :=
 ∃ (e : Nat) (D' : Dev) (F' : List Nat) (v : Value), r = .returned (.tuple #[v, .int .i64 e]) ∧ Eff T D e D' ∧ DevAt w' p D' F' ∧ Upd F w w' ∧ (∀ i ∈ F', i ∈ F ∨ w.heap.size ≤ i) ∧ (e ≠ 0 → v = .pointer none) ∧
  (e = 0 → ∃ j, v = .pointer (some ⟨j, 0, none⟩) ∧ LogR w' j p (D.n - 20) (k + 1) false ∧ w.heap.size ≤ j ∧ j ∉ F')
set_option maxRecDepth 100000 in
set_option maxHeartbeats 4000000 in
theorem open_walk (w : World) {p : Nat} {D : Dev} {F : List Nat} (h : DevAt w p D F) (_hdn : D.down = false) (hwr : D.wr ≤ 137438950000) {k s : Nat} (hk : k < 2 ^ 61) (hs : Slots D.blk k s) {ws : List Wr} (hok : WOk ws) (hhi : ∀ x ∈ ws, x.1 + 20 < D.n)
  (HWait : ∀ (W : World) (D1 : Dev) (j : Nat), DevAt W p D1 F → D1.n = D.n → D1.blk = D.blk → D1.wr ≤ 137438951000 → LogR W j p (D.n - 20) k false → j ∉ F → Calls Tryz.prog 131 #[.pointer (some ⟨j, 0, none⟩)] W (WaitPost W p D1 F fun w' v => (v = .slice none 0 0 ∧ ws = []) ∨ (WrsAt w' F v ws ∧ ∃ g c, v = .slice (some g) ws.length c))) :
  Calls Tryz.prog 80 #[.pointer (some ⟨p, 0, none⟩)] w (OpenPost w p k D F (homeT ws ++ tailT (k + 1) s)) := by
 obtain ⟨hf, hi, ho, he⟩ := hs.slots hk
 have HLd := Lib.hid (load_ok w h (by omega) hf)
 have HD := Lib.hid h
 have hbn := h.bounds
 have HS := Lib.hid hs
 have HOK := Lib.hid hok
 have HH := Lib.hid hhi
 have HWt := Lib.hid HWait
 have hcv := fun W : World => Go.Lib.run_convert_bytes_const W 23 5 #[.int .u8 99, .int .u8 97, .int .u8 114, .int .u8 116, .int .u8 117, .int .u8 108, .int .u8 97, .int .u8 114, .int .u8 121] 9 9 T8.und Tryz.underlying5
 have HI := Lib.hid (And.intro hi ho)
 clear h hs hok hhi HWait hi ho hf
 go_enter Tryz.func80, Tryz.ntmps80
 go_wp2_with fail
 refine HLd.out.mono ?_
 rintro r w1 ⟨e, D1, v, x, rfl, hD1, hU1, hcase⟩
 have hcv1 := hcv w1
 have HMg : Hid (∀ X : Obj, X = .cells #[.int .u8 99, .int .u8 97, .int .u8 114, .int .u8 116, .int .u8 117, .int .u8 108, .int .u8 97, .int .u8 114, .int .u8 121] 5 (9, 10) → Rd (w1.alloc X) (.slice (some ⟨w1.heap.size, 0, none⟩) 9 9) magicJ) := Lib.hid fun X hX => by subst hX; exact rd_new (l := magicJ) (heap_top _ _) (by decide)
 have H1 := Lib.hid (And.intro hD1 hU1)
 have hpF : p ∈ F := HD.out.p_mem
 clear hD1 hU1 HLd hcv
 rcases hcase with ⟨rfl, hE, rfl⟩ | ⟨rfl, hE, hno, -⟩ | ⟨rfl, hE, i, c, d, hnew, rfl, hr⟩
 ·go_wp2_with fail
  generalize hX4 : Obj.cells _ _ _ = X4
  have hmg4 := HMg.out X4 hX4.symm
  have hu4 : Upd [] w1 (w1.alloc X4) := (Upd.refl [] w1).alloc X4
  generalize w1.alloc X4 = w4 at *
  have H4 := Lib.hid hu4
  clear hX4 HMg hu4
  refine (cutPrefix_no w4 (Rd.nil _) hmg4 (by simp [magicJ])).mono ?_
  rintro r w5 ⟨rfl, rfl⟩
  clear hmg4
  go_wp2_with fail
  go_ret2
  exact ⟨2, D1, F, _, rfl, Eff.stop (homeT ws ++ tailT (k + 1) s) hE (by omega), H1.out.1.upd H4.out (by simp), (H1.out.2.mono (by simp; exact fun _ => hpF)).trans (H4.out.mono (by simp)), fun i hi => .inl hi, fun _ => rfl, fun q => by omega⟩
 ·exfalso
  have h1 := HI.out.1.is
  have h2 := HI.out.1.two
  have h3 : 1 - s = 0 ∨ 1 - s = 1 := by omega
  rcases h3 with q | q
  ·rw [q] at h1; rw [hno.1] at h1; cases h1
  ·rw [q] at h1; rw [hno.2] at h1; cases h1
 ·obtain ⟨rfl, rfl, rfl⟩ := HI.out.1.one HI.out.2 hnew
  obtain ⟨av, cv, mv, -, -, -, rfl⟩ := hr.sliceM
  go_wp2_with fail
  generalize hX4 : Obj.cells _ _ _ = X4
  have hmg4 := HMg.out X4 hX4.symm
  have hu4 : Upd [] w1 (w1.alloc X4) := (Upd.refl [] w1).alloc X4
  have hr4 := hr.keep hu4
  generalize w1.alloc X4 = w4 at *
  have H4 := Lib.hid hu4
  clear hX4 HMg hu4 hr hcv1 hnew
  refine (cutPrefix_yes w4 hr4 hmg4 (List.prefix_append _ _) (by have := putU_pos c; simp [doneB, magicJ]; omega)).mono ?_
  rintro r w5 ⟨v5, rfl, hr5, rfl, -⟩
  unfold doneB at hr5
  rw [List.drop_left] at hr5
  have hu5 := uint_ok w5 hr5
  have hgu := getUint_putU (n := c) (by omega) []
  rw [List.append_nil] at hgu
  rw [hgu] at hu5
  dsimp only at hu5
  obtain ⟨a5, k5, m5, -, -, -, rfl⟩ := hr5.sliceM
  have HU5 := Lib.hid hu5
  have hD5 : DevAt w5 p D1 F := H1.out.1.upd H4.out (by simp)
  have HB5 := Lib.hid (blocks_ok w5 hD5)
  have HE := Lib.hid hE
  have hnn := hE.n
  have hblk : D1.blk = D.blk := hE.up.2.2.2
  have hw1 := hE.wr
  have hN : ((D1.n : Nat) : Int) - 20 = ((D.n - 20 : Nat) : Int) := by rw [hnn]; omega
  have HN := Lib.hid hN
  have hb1 : 64 ≤ D1.n := by omega
  have hb2 : D1.n ≤ 512 := by omega
  have HWd := Lib.hid fun (W : World) (j : Nat) (u : Upd [] w5 W) => HWt.out W D1 j (hD5.upd u (by simp)) hnn hblk (by simp at hw1; omega)
  clear hr4 hmg4 hr5 hgu hD5 hnn hblk hw1 hN hu5 hE
  go_wp2_with fail
  refine HU5.out.mono ?_
  rintro r w6 ⟨rfl, rfl⟩
  go_wp2_with fail
  refine HB5.out.mono ?_
  rintro r w7 ⟨rfl, rfl⟩
  go_wp2_with fail
  have hX8 := heap_top w7 (.cells #[.pointer (some ⟨p, 0, none⟩), .int .i64 ((D1.n : Int) - 20), .int .u64 c, .bool false] 173)
  have hu8 : Upd [] w7 (w7.alloc (.cells #[.pointer (some ⟨p, 0, none⟩), .int .i64 ((D1.n : Int) - 20), .int .u64 c, .bool false] 173)) := (Upd.refl [] w7).alloc _
  generalize w7.alloc _ = w8 at *
  have hl8 : LogR w8 w7.heap.size p (D.n - 20) c false := by
   unfold LogR
   rw [hX8, HN.out]
  have hFl : ∀ q ∈ F, q < w7.heap.size := fun q hq => by have := (H1.out.1.upd H4.out (by simp)).lt q hq; exact this
  have hjF : w7.heap.size ∉ F := fun q => Nat.lt_irrefl _ (hFl _ q)
  have hU8 : Upd F w w8 := ((H1.out.2.mono (by simp; exact fun _ => hpF)).trans (H4.out.mono (by simp))).trans (hu8.mono (by simp))
  have hs7 : w.heap.size ≤ w7.heap.size := Nat.le_trans H1.out.2.size H4.out.size
  have HWx := Lib.hid (HWd.out w8 w7.heap.size hu8 hl8 hjF)
  have HL8 := Lib.hid hl8
  have HU8 := Lib.hid hU8
  clear hX8 hl8 hU8 hu8 HB5 HU5 HWd
  refine HWx.out.mono ?_
  rintro r w9 ⟨e9, D9, v9, rfl, hE9, hD9, hU9, hR9, hn9⟩
  have H9 := Lib.hid (And.intro (Eff.next HE.out hE9) (And.intro hD9 (HU8.out.trans (hU9.mono (by simp; exact fun _ => hpF)))))
  have hl9 := HL8.out.upd hU9 (fun q => hjF (by obtain rfl := List.mem_singleton.1 q; assumption))
  have HL9 := Lib.hid hl9
  by_cases he9 : e9 = 0
  ·subst he9
   have hup := (Eff.next HE.out hE9).up
   have hs9 : Slots D9.blk c s := by rw [hup.2.2.2]; exact HS.out
   have hn99 := (Eff.next HE.out hE9).n
   have hw99 := (Eff.next HE.out hE9).wr
   have HApp := Lib.hid fun (v : Value) (hw : WrsAt w9 F v ws) => apply_ok w9 hD9 hup.2.1 (by simp at hw99; omega) hl9 hjF hk hs9 hw HOK.out (fun x hx => by rw [hn99]; exact HH.out x hx)
   have hws9 : ∃ a m c, v9 = .slice a m c ∧ (a = none → m = 0 ∧ c = 0) ∧ WrsAt w9 F (.slice a m c) ws := by
    rcases hR9 rfl with ⟨rfl, hn⟩ | ⟨hw, g, c, rfl⟩
    ·rw [hn]; exact ⟨none, 0, 0, rfl, fun _ => ⟨rfl, rfl⟩, WrsAt.nil _ _⟩
    ·exact ⟨some g, _, c, rfl, fun q => (nomatch q), hw⟩
   obtain ⟨a9, m9, c9, rfl, hz9, hw9⟩ := hws9
   have HA := Lib.hid (HApp.out _ hw9)
   clear hup hs9 hn99 hw99 HApp hR9 hn9 hw9 hE9 hD9 hU9 hl9 HWx
   have key : ∀ {r w10}, ApplyPost w9 w7.heap.size p (D.n - 20) c false D9 F (homeT ws ++ tailT (c + 1) s) r w10 → ∃ e10 : Nat, r = .returned (.int .i64 e10) ∧ (e10 = 0 → OpenPost w p c D F (homeT ws ++ tailT (c + 1) s) (.returned (.tuple #[.pointer (some ⟨w7.heap.size, 0, none⟩), .int .i64 (0 : Nat)])) w10) ∧ (e10 ≠ 0 → OpenPost w p c D F (homeT ws ++ tailT (c + 1) s) (.returned (.tuple #[.pointer none, .int .i64 e10])) w10) := by
    rintro r w10 ⟨e10, D10, F10, rfl, hE10, hD10, hl10, hU10, hF10⟩
    have hEE : Eff (homeT ws ++ tailT (c + 1) s) D e10 D10 := Eff.next (a := []) H9.out.1 hE10
    have hUU : Upd F w w10 := H9.out.2.2.next hU10 (fun q hq hlt => by
     rcases List.mem_cons.1 hq with rfl | hq
     ·omega
     ·exact hq)
    have hs9 := H9.out.2.2.size
    have hFF : ∀ i ∈ F10, i ∈ F ∨ w.heap.size ≤ i := fun i hi => (hF10 i hi).imp id (fun q => Nat.le_trans hs9 q)
    refine ⟨e10, rfl, fun q => ?_, fun q => ⟨e10, D10, F10, _, rfl, hEE, hD10, hUU, hFF, fun _ => rfl, fun q2 => absurd q2 q⟩⟩
    subst q
    rw [if_pos rfl] at hl10
    refine ⟨0, D10, F10, _, rfl, hEE, hD10, hUU, hFF, fun q => absurd rfl q, fun _ => ⟨_, rfl, hl10, hs7, fun q => ?_⟩⟩
    rcases hF10 _ q with q | q
    ·exact hjF q
    ·have := lt_of_blk HL9.out; omega
   have HK := Lib.hid fun r w10 (h : ApplyPost w9 w7.heap.size p (D.n - 20) c false D9 F (homeT ws ++ tailT (c + 1) s) r w10) => key h
   clear key
   rcases a9 with _ | a9
   ·obtain ⟨rfl, rfl⟩ := hz9 rfl
    go_wp2_with fail
    refine HA.out.mono ?_
    intro r w10 h10
    obtain ⟨e10, rfl, h1, h2⟩ := HK.out r w10 h10
    have H10 := Lib.hid (And.intro h1 h2)
    clear h1 h2 h10 HA
    by_cases he10 : e10 = 0
    ·subst he10
     go_wp2_with fail
     go_ret2
     exact H10.out.1 (by trivial)
    ·have he10' : ¬ (e10 : Int) = 0 := by omega
     go_wp2_with fail
     go_ret2
     exact H10.out.2 he10
   ·clear hz9
    go_wp2_with fail
    refine HA.out.mono ?_
    intro r w10 h10
    obtain ⟨e10, rfl, h1, h2⟩ := HK.out r w10 h10
    have H10 := Lib.hid (And.intro h1 h2)
    clear h1 h2 h10 HA
    by_cases he10 : e10 = 0
    ·subst he10
     go_wp2_with fail
     go_ret2
     exact H10.out.1 (by trivial)
    ·have he10' : ¬ (e10 : Int) = 0 := by omega
     go_wp2_with fail
     go_ret2
     exact H10.out.2 he10
  ·obtain rfl := hn9 he9
   have he9' : ¬ (e9 : Int) = 0 := by omega
   clear hR9 hn9 hE9 hD9 hU9 hl9 HWx
   go_wp2_with fail
   go_ret2
   exact ⟨e9, D9, F, _, rfl, Eff.stop (a := []) (homeT ws ++ tailT (c + 1) s) H9.out.1 he9, H9.out.2.1, H9.out.2.2, fun i hi => .inl hi, fun _ => rfl, fun q => absurd q he9⟩
theorem open_ok (w : World) {p : Nat} {D : Dev} {F : List Nat} (h : DevAt w p D F) (hdn : D.down = false) (hwr : D.wr ≤ 137438950000) {k s : Nat} (hk : k < 2 ^ 61) {ws : List Wr} {g : Nat → Bs} (hq : (ws = [] ∧ Quiet D.blk k s g) ∨ Redo D.blk k s ws g) (_hn : 100 ≤ D.n ∨ 56 ≤ D.n) :
  Calls Tryz.prog 80 #[.pointer (some ⟨p, 0, none⟩)] w (OpenPost w p k D F (openT k s ws)) := by
 have hbn := h.bounds
 rcases hq with ⟨rfl, hq⟩ | hr
 ·refine open_walk w h hdn hwr hk hq.slots ⟨by simp, by simp, by simp⟩ (by simp) ?_
  intro W D1 j hD1 hn1 hb1 hw1 hl hjF
  have hX : NoneWait (D1.blk 2).view k := by
   rw [hb1]
   obtain ⟨hp, hl⟩ := hq.list
   have hv : (D.blk 2).view = (D.blk 2).safe := by rw [Cell.view, hp]; rfl
   rw [hv]
   rcases hl with hl | ⟨m, w', hm, hok, hl⟩
   ·exact .inl hl
   ·exact .inr ⟨m, w', by omega, by omega, hok, hl⟩
  exact (waiting_none W hD1 (by omega) hl hjF hk hX).mono fun r w' ⟨e, D', v, q1, q2, q3, q4, q5, q6⟩ => ⟨e, D', v, q1, q2, q3, q4, fun he => .inl ⟨q5 he, rfl⟩, q6⟩
 ·refine open_walk w h hdn hwr hk hr.slots hr.wok (fun x hx => by have := hr.low x hx; omega) ?_
  intro W D1 j hD1 hn1 hb1 hw1 hl hjF
  have hX : (D1.blk 2).view = headB (k + 1) ws := by rw [hb1, hr.list]; rfl
  have hP : ∀ (i : Nat) (y : Wr), ws[i]? = some y → (D1.blk (3 + i)).view = y.2 := fun i y hy => by
   obtain ⟨hi, rfl⟩ := List.getElem?_eq_some_iff.1 hy
   rw [hb1, hr.parts i hi]; rfl
  exact (waiting_some W hD1 (by omega) hl hjF hk hr.wok hX hP (by omega)).mono fun r w' ⟨e, D', v, q1, q2, q3, q4, q5, q6⟩ => ⟨e, D', v, q1, q2, q3, q4, fun he => .inr (q5 he), q6⟩
end Go.Proofs.YtgpefiacbipfpaaGreatDoor

namespace Go.Proofs.YtgpefiacbipfpaaGreatDoor
open Go.RowKit
structure Row8 (w : World) (base : Nat) (v : Value) (d : Bs) : Prop where
 rd : Rd w v d
 row : ∃ g c ty cur, v = .slice (some ⟨g, 0, none⟩) 512 c ∧ 512 ≤ c ∧ c ≤ maxLen ∧ base ≤ g ∧ w.heap[g]? = some (.cells cur ty (0, 0)) ∧ 512 ≤ cur.size ∧ (∀ i : Nat, i < 512 → cur[i]? = (d.map fun b => Value.int .u8 b.toNat)[i]?)
theorem Row8.lt {w : World} {base : Nat} {v : Value} {d : Bs} (h : Row8 w base v d) : ∀ g, v.ownBlock = some g → base ≤ g ∧ g < w.heap.size := by
 obtain ⟨-, g, c, ty, cur, rfl, -, -, h1, h2, -⟩ := h
 intro g' e
 simp only [Value.ownBlock, Option.some.injEq] at e
 subst e
 exact ⟨h1, lt_of_blk h2⟩
theorem NewB.row8 {w : World} {base : Nat} {v : Value} {d : Bs} (h : NewB w base v d) (hd : d.length = 512) : Row8 w base v d := by
 have hr := (h.rd hd).1
 obtain ⟨B, rfl, h1, h2⟩ := h
 refine ⟨hr, B, 512, _, _, rfl, Nat.le_refl _, by unfold maxLen; omega, h1, h2, by rw [List.size_toArray, cK_len]; exact Nat.le_refl _, fun i hi => ?_⟩
 rw [cK_of hd, List.getElem?_toArray]
theorem Ow.row8 {w : World} {base : Nat} {v : Value} {d : Bs} (h : Ow w base v d) (hd : d.length = 512) : Row8 w base v d := by
 have hr : Rd w v d := (OwnG.rd T8 h).b
 rcases h.2 with ⟨-, h2⟩ | ⟨g, cap, cur, rfl, hg, hb, r1, r2, r3, r4⟩
 ·rw [hd] at h2; omega
 ·rw [hd] at r1 r4 hr ⊢
  refine ⟨hr, g, cap, _, cur, rfl, r1, r2, hg, hb, by omega, fun i hi => ?_⟩
  rw [← flat8, ← r4, List.getElem?_take_of_lt (by omega), Array.getElem?_toList]
theorem Row8.base {w : World} {base base' : Nat} {v : Value} {d : Bs} (h : Row8 w base v d) (hb : base' ≤ base) : Row8 w base' v d := by
 obtain ⟨hr, g, c, ty, cur, hv, h0, h00, h1, h2⟩ := h
 exact ⟨hr, g, c, ty, cur, hv, h0, h00, by omega, h2⟩
theorem Row8.upd {w w' : World} {base : Nat} {v : Value} {d : Bs} (h : Row8 w base v d) {F : List Nat} (u : Upd F w w') (hF : ∀ g, v.ownBlock = some g → g ∉ F) : Row8 w' base v d := by
 obtain ⟨hr, g, c, ty, cur, rfl, h0, h00, h1, h2, h3⟩ := h
 have hg := hF g rfl
 exact ⟨(hr.g.upd T8 u hF).b, g, c, ty, cur, rfl, h0, h00, h1, (u.block g (lt_of_blk h2) hg).trans h2, h3⟩
structure LogA (w : World) (j p n k c m : Nat) (dead : Bool) (D : Dev) (F : List Nat) (l : List (Bc.Nd Int SvB)) (V : Nat → Bs) (FC : List Nat) : Prop where
 log : LogR w j p n k dead
 dev : DevAt w p D F
 ca : CaR w c m l V FC
 jF : j ∉ F
 jC : j ∉ FC
 ap : ∀ i ∈ FC, i ∉ F
 nD : n + 20 = D.n
 lt : ∀ i ∈ FC, i < w.heap.size
theorem LogA.same {w w' : World} {j p n k c m : Nat} {dead : Bool} {D : Dev} {F : List Nat} {l l' : List (Bc.Nd Int SvB)} {V V' : Nat → Bs} {FC G : List Nat} (h : LogA w j p n k c m dead D F l V FC) (u : Upd G w w') (hG : ∀ i ∈ G, i ∈ FC) (hc : CaR w' c m l' V' FC) : LogA w' j p n k c m dead D F l' V' FC :=
 ⟨h.log.upd u fun q => h.jC (hG _ q), h.dev.upd u fun i hi q => h.ap i (hG _ q) hi, hc, h.jF, h.jC, h.ap, h.nD, fun i hi => Nat.lt_of_lt_of_le (h.lt i hi) u.size⟩
def GetPost (w : World) (j p n k c m : Nat) (D : Dev) (F : List Nat) (V : Nat → Bs) (FC : List Nat) (x : Nat) (r : Ending) (w' : World) : Prop :=
 ∃ (e : Nat) (D' : Dev) (l' : List (Bc.Nd Int SvB)) (FC' : List Nat) (v : Value), r = .returned (.tuple #[v, .int .i64 e]) ∧ Eff [] D e D' ∧ LogA w' j p n k c m (decide (e = 2)) D' F l' V FC' ∧ Upd (j :: (F ++ FC)) w w' ∧ (∀ i ∈ FC', i ∈ FC ∨ w.heap.size ≤ i) ∧
  (e = 0 → Row8 w' w.heap.size v (V x) ∧ ∀ g, v.ownBlock = some g → g ∉ FC') ∧ (e ≠ 0 → v = .slice none 0 0)
set_option maxRecDepth 100000 in
set_option maxHeartbeats 4000000 in
theorem get_ok (w : World) {j p n k c m : Nat} {D : Dev} {F : List Nat} {l : List (Bc.Nd Int SvB)} {V : Nat → Bs} {FC : List Nat} (h : LogA w j p n k c m false D F l V FC) (hdn : D.down = false) (hwr : D.wr ≤ 137438953000) (x : Nat) (hx : x < n) (hV : V x = (D.blk (20 + x)).view) (hV5 : (V x).length = 512) :
  Calls Tryz.prog 46 #[.agg #[.pointer (some ⟨j, 0, none⟩), .pointer (some ⟨c, 0, none⟩)], .int .i64 x] w (GetPost w j p n k c m D F V FC x) := by
 have H := Lib.hid h
 have hjl := lt_of_blk h.log
 have hu0 : ∀ o, Upd [] w (w.alloc o) := fun o => (Upd.refl [] w).alloc o
 have HG := Lib.hid fun o => cget_ok (w.alloc o) (h.ca.upd (hu0 o) (by simp)) x
 clear h
 go_enter Tryz.func46, Tryz.ntmps46
 go_wp2_with fail
 refine (HG.out _).mono ?_
 have hU0 := hu0 (.cells #[.pointer (some ⟨j, 0, none⟩), .pointer (some ⟨c, 0, none⟩)] 80)
 have hB0 := heap_top w (.cells #[.pointer (some ⟨j, 0, none⟩), .pointer (some ⟨c, 0, none⟩)] 80)
 clear hu0 HG
 generalize w.alloc (.cells #[.pointer (some ⟨j, 0, none⟩), .pointer (some ⟨c, 0, none⟩)] 80) = W0 at *
 rintro r w1 (⟨⟨va, vn, vc⟩, l1, rfl, ho, hc1, hu1⟩ | ⟨rfl, rfl⟩)
 ·have HC := Lib.hid (clone8_ok w1 (OwnG.rd T8 ho) (by rw [hV5]; omega))
  have H1 := Lib.hid (And.intro ho (And.intro hc1 hu1))
  clear ho hc1 hu1
  go_wp2_with fail
  refine HC.out.mono ?_
  rintro r w2 ⟨v2, rfl, ho2, hu2⟩
  go_wp2_with fail
  go_ret2
  have hU : Upd FC w w2 := ((hU0.mono (by simp)).trans H1.out.2.2).trans (hu2.mono (by simp))
  have hlt := H1.out.2.2.size
  have hl0 := hU0.size
  obtain ⟨av, cv, mv, hmv, rfl⟩ := ho2.sliceM
  refine ⟨0, D, l1, FC, _, rfl, Eff.refl hdn, H.out.same hU (fun i hi => hi) (H1.out.2.1.upd hu2 (by simp)), hU.mono (fun k hk _ => by simp [hk]), fun i hi => .inl hi, fun _ => ⟨(Ow.row8 ho2 hV5).base (by omega), fun g hg hgc => ?_⟩, fun h => absurd rfl h⟩
  have h1 := (ho2.block g hg).1
  have h2 := H.out.lt g hgc
  omega
 ·have hlog := H.out.log.upd hU0 (by simp)
  have hdev := H.out.dev.upd hU0 (by simp)
  have HR := Lib.hid (jread_ok w1 hlog hdev hdn H.out.nD hwr H.out.jF x hx)
  have k0 := cell_blk hB0 0
  have k1 := cell_blk hB0 1
  simp only [List.getElem?_toArray, List.getElem?_cons_zero, List.getElem?_cons_succ] at k0 k1
  clear hlog hdev
  go_wp2_with fail
  refine HR.out.mono ?_
  rintro r w2 ⟨e, D', v, rfl, hE, hD', hL', hu2, hok, hbad⟩
  have hpF := H.out.dev.p_mem
  have hwlt : w.heap.size < w1.heap.size := lt_of_blk hB0
  have hpl := H.out.dev.lt p hpF
  have hb2 : w2.heap[w.heap.size]? = _ := (hu2.block _ hwlt (by simp; omega)).trans hB0
  have m1 := cell_blk hb2 1
  simp only [List.getElem?_toArray, List.getElem?_cons_zero, List.getElem?_cons_succ] at m1
  have H2 := Lib.hid (And.intro hE (And.intro hD' (And.intro hL' hu2)))
  by_cases he0 : e = 0
  ·subst he0
   have hnb := hok rfl
   obtain ⟨hrd, hbk⟩ := hnb.rd (by rw [← hV]; exact hV5)
   obtain ⟨B, rfl, hB1, hB2⟩ := hnb
   have HK := Lib.hid fun (X : World) (u : Upd [] w2 X) => clone8_ok X (hrd.g.keep T8 u) (by rw [← hV, hV5]; omega)
   have HRD := Lib.hid hrd
   have hca : CaR w2 c m l V FC := (H.out.ca.upd hU0 (by simp)).upd hu2 fun k hk q => by
    simp only [List.mem_cons, List.not_mem_nil, or_false] at q
    rcases q with rfl | rfl
    ·exact H.out.ap _ hk hpF
    ·exact H.out.jC hk
   have hwF : w.heap.size ∉ FC := fun q => by have := H.out.lt _ q; omega
   have HCA := Lib.hid fun (X : World) (u : Upd [] w2 X) (v : SvB) (ho : Ow X 0 (svV v) (D.blk (20 + x)).view) => cput_ok X (hca.upd u (by simp)) x v ho
   clear hE hD' hL' hu2 hok hbad k0 k1 hrd hbk
   go_wp2_with fail
   go_region_held3 (fun X => X.cell? ⟨w.heap.size, 1, none⟩ = some (.pointer (some ⟨c, 0, none⟩)))
    (first
     | (with_reducible exact held1 (Upd.refl [] w2).drew m1)
     | (with_reducible exact held1 hv6 m1)
     | (exact (World.cell?_of_block ((hu7.block w.heap.size (by have := lt_of_blk hb2; have := hv6.size; omega) hwF))).trans (held1 hv6 m1)))
    (first
     | (go_at_call 92; (with_reducible refine (HK.out _ ?_).mono ?_); (exact (Upd.refl [] w2).drew); rintro e w6 ⟨v6, rfl, ho6, hu6⟩; obtain ⟨a6, c6, m6, hm6, rfl⟩ := ho6.sliceM; have hv6 : Upd [] w2 w6 := (Upd.refl [] w2).drew.trans hu6; have HO6 := Lib.hid ho6; clear hm6)
     | (go_at_call 93; (with_reducible refine (HCA.out _ hv6 ⟨a6, m6, c6⟩ (HO6.out.base (Nat.zero_le _))).mono ?_); rintro e w7 ⟨k', v', b1, b2, l', FC', rfl, hc7, hu7, hf7⟩))
   go_wp2_with fail
   go_ret2
   have hV' : ∀ kk, V kk = setV V x (D.blk (20 + x)).view kk := fun kk => by
    unfold setV; split
    ·rename_i e; rw [e, hV]
    ·rfl
   obtain ⟨hE, hD', hL', hu2⟩ := H2.out
   have hU6 : Upd [p, j] w w6 := ((hU0.mono (by simp)).trans hu2).trans (hv6.mono (by simp))
   have hU7 : Upd (j :: (F ++ FC)) w w7 := (hU6.mono (fun k hk _ => by simp only [List.mem_cons, List.not_mem_nil, or_false] at hk; rcases hk with rfl | rfl <;> simp [hpF])).next hu7 (fun k hk _ => by simp [hk])
   have hs6 := hU6.size
   have h6 := ho6.block
   refine ⟨0, D', l', FC', .slice (some ⟨B, 0, none⟩) 512 512, rfl, hE, ⟨(hL'.upd hv6 (by simp)).upd hu7 H.out.jC, (hD'.upd hv6 (by simp)).upd hu7 (fun i hi q => H.out.ap i q hi), hc7.congr hV', H.out.jF, ?_, ?_, by rw [hE.n]; exact H.out.nD, ?_⟩, hU7, ?_, fun _ => ⟨?_, ?_⟩, fun h => absurd rfl h⟩
   ·intro q
    rcases hf7 _ q with q | q | q
    ·exact H.out.jC q
    ·omega
    ·have := (h6 _ q).1; have : w2.drew.heap.size = w2.heap.size := rfl; have := hu2.size; omega
   ·intro i hi q
    have hlt := H.out.dev.lt i q
    rcases hf7 _ hi with q2 | q2 | q2
    ·exact H.out.ap i q2 q
    ·omega
    ·have := (h6 _ q2).1; have : w2.drew.heap.size = w2.heap.size := rfl; have := hu2.size; omega
   ·intro i hi
    have := hu7.size
    rcases hf7 _ hi with q2 | q2 | q2
    ·have := H.out.lt i q2; omega
    ·exact q2.2
    ·have := (h6 _ q2).2; omega
   ·intro i hi
    rcases hf7 _ hi with q2 | q2 | q2
    ·exact .inl q2
    ·exact .inr (by omega)
    ·have := (h6 _ q2).1; have : w2.drew.heap.size = w2.heap.size := rfl; have := hu2.size; exact .inr (by omega)
   ·rw [hV]
    refine ((((NewB.row8 (⟨B, rfl, hB1, hB2⟩ : NewB w2 w1.heap.size _ _) (by rw [← hV]; exact hV5)).upd hv6 (by simp)).upd hu7 fun g hg q => ?_).base (by omega))
    simp only [Value.ownBlock, Option.some.injEq] at hg
    subst hg
    have := H.out.lt _ q
    omega
   ·intro g hg q
    simp only [Value.ownBlock, Option.some.injEq] at hg
    subst hg
    have h8 := lt_of_blk hB2
    have h9 := hv6.size
    rcases hf7 _ q with q2 | q2 | q2
    ·have := H.out.lt _ q2; omega
    ·omega
    ·have := (h6 _ q2).1; have : w2.drew.heap.size = w2.heap.size := rfl; omega
  ·obtain rfl := hbad he0
   have he0' : ¬ (e : Int) = 0 := by omega
   clear hE hD' hL' hu2 hok hbad k0 k1
   go_wp2_with fail
   go_ret2
   obtain ⟨hE, hD', hL', hu2⟩ := H2.out
   have hU2 : Upd [p, j] w w2 := (hU0.mono (by simp)).trans hu2
   refine ⟨e, D', l, FC, _, rfl, hE, ⟨hL', hD', (H.out.ca.upd hU0 (by simp)).upd hu2 fun k hk q => ?_, H.out.jF, H.out.jC, H.out.ap, by rw [hE.n]; exact H.out.nD, fun i hi => Nat.lt_of_lt_of_le (H.out.lt i hi) hU2.size⟩, hU2.mono fun k hk _ => ?_, fun i hi => .inl hi, fun h => absurd h he0, fun _ => rfl⟩
   ·simp only [List.mem_cons, List.not_mem_nil, or_false] at q
    rcases q with rfl | rfl
    ·exact H.out.ap _ hk hpF
    ·exact H.out.jC hk
   ·simp only [List.mem_cons, List.not_mem_nil, or_false] at hk
    rcases hk with rfl | rfl <;> simp [hpF]
end Go.Proofs.YtgpefiacbipfpaaGreatDoor

namespace Go.Proofs.YtgpefiacbipfpaaGreatDoor
open Go.RowKit
def SetPost (w : World) (j p n k c m : Nat) (D : Dev) (F : List Nat) (V : Nat → Bs) (FC : List Nat) (x : Nat) (d : Bs) (r : Ending) (w' : World) : Prop :=
 ∃ (e : Nat) (D' : Dev) (F' : List Nat) (l' : List (Bc.Nd Int SvB)) (FC' : List Nat), r = .returned (.int .i64 e) ∧ Eff [.write (20 + x) d] D e D' ∧ LogA w' j p n k c m (decide (e = 2)) D' F' l' (if e = 0 then setV V x d else V) FC' ∧ Upd (j :: (F ++ FC)) w w' ∧
  (∀ i ∈ F', i ∈ F ∨ w.heap.size ≤ i) ∧ (∀ i ∈ FC', i ∈ FC ∨ w.heap.size ≤ i)
set_option maxRecDepth 100000 in
set_option maxHeartbeats 4000000 in
theorem set_ok (w : World) {j p n k c m : Nat} {D : Dev} {F : List Nat} {l : List (Bc.Nd Int SvB)} {V : Nat → Bs} {FC : List Nat} (h : LogA w j p n k c m false D F l V FC) (hdn : D.down = false) (hwr : D.wr ≤ 137438953000) (x : Nat) (hx : x < n)
  {b off cc : Nat} {d : Bs} (hv : Rd w (.slice (some ⟨b, off, none⟩) 512 cc) d) (hd5 : d.length = 512) (hbF : b ∉ F) (hbj : b ≠ j) (_hbC : b ∉ FC) (_hbl : b < w.heap.size) :
  Calls Tryz.prog 48 #[.agg #[.pointer (some ⟨j, 0, none⟩), .pointer (some ⟨c, 0, none⟩)], .int .i64 x, .slice (some ⟨b, off, none⟩) 512 cc] w (SetPost w j p n k c m D F V FC x d) := by
 have H := Lib.hid h
 have hjl := lt_of_blk h.log
 have hu0 : ∀ o, Upd [] w (w.alloc o) := fun o => (Upd.refl [] w).alloc o
 have HP := Lib.hid fun o => jput_ok (w.alloc o) (h.log.upd (hu0 o) (by simp)) (h.dev.upd (hu0 o) (by simp)) hdn h.nD hwr h.jF x hx (hv.keep (hu0 o)) hd5 hbF hbj
 have HV := Lib.hid hv
 clear h hv
 go_enter Tryz.func48, Tryz.ntmps48
 go_wp2_with fail
 refine (HP.out _).mono ?_
 have hU0 := hu0 (.cells #[.pointer (some ⟨j, 0, none⟩), .pointer (some ⟨c, 0, none⟩)] 80)
 have hB0 := heap_top w (.cells #[.pointer (some ⟨j, 0, none⟩), .pointer (some ⟨c, 0, none⟩)] 80)
 clear hu0 HP
 generalize w.alloc (.cells #[.pointer (some ⟨j, 0, none⟩), .pointer (some ⟨c, 0, none⟩)] 80) = w1 at *
 rintro r w2 ⟨e, D', F', rfl, hE, hD', hL', hu2, hF'⟩
 have hwlt : w.heap.size < w1.heap.size := lt_of_blk hB0
 have hb2 : w2.heap[w.heap.size]? = _ := (hu2.block _ hwlt (fun q => by
  rcases List.mem_cons.1 q with q | q
  ·omega
  ·have := H.out.dev.lt _ q; omega)).trans hB0
 have m1 := cell_blk hb2 1
 simp only [List.getElem?_toArray, List.getElem?_cons_zero, List.getElem?_cons_succ] at m1
 have hca : CaR w2 c m l V FC := (H.out.ca.upd hU0 (by simp)).upd hu2 fun k hk q => by
  rcases List.mem_cons.1 q with q | q
  ·subst q; exact H.out.jC hk
  ·exact H.out.ap _ hk q
 have hrd : Rd w2 (.slice (some ⟨b, off, none⟩) 512 cc) d := ((HV.out.keep hU0).g.upd T8 hu2 (fun g hg q => by
  simp only [Value.ownBlock, Option.some.injEq] at hg
  subst hg
  rcases List.mem_cons.1 q with q | q
  ·exact hbj q
  ·exact hbF q)).b
 have hU2 : Upd (j :: (F ++ FC)) w w2 := (hU0.mono (by simp)).trans (hu2.mono fun k hk _ => by
  rcases List.mem_cons.1 hk with q | q
  ·simp [q]
  ·simp [q])
 have hF2 : ∀ i ∈ F', i ∈ F ∨ w.heap.size ≤ i := fun i hi => (hF' i hi).imp id fun q => by omega
 have hdl := hD'.lt
 have H2 := Lib.hid (And.intro hE (And.intro hD' (And.intro hL' (And.intro hU2 (And.intro hF2 hca)))))
 have hs2 := hU2.size
 by_cases he0 : e = 0
 ·subst he0
  have HK := Lib.hid fun (X : World) (u : Upd [] w2 X) => clone8_ok X (hrd.g.keep T8 u) (by rw [hd5]; omega)
  have hwF : w.heap.size ∉ FC := fun q => by have := H.out.lt _ q; omega
  have HCA := Lib.hid fun (X : World) (u : Upd [] w2 X) (v : SvB) (ho : Ow X 0 (svV v) d) => cput_ok X (hca.upd u (by simp)) x v ho
  clear hE hD' hL' hu2 hca hrd hU2 hF2
  go_wp2_with fail
  go_region_held3 (fun X => X.cell? ⟨w.heap.size, 1, none⟩ = some (.pointer (some ⟨c, 0, none⟩)))
   (first
    | (with_reducible exact held1 (Upd.refl [] w2).drew m1)
    | (with_reducible exact held1 hv6 m1)
    | (exact (World.cell?_of_block ((hu7.block w.heap.size (by have := lt_of_blk hb2; have := hv6.size; omega) hwF))).trans (held1 hv6 m1)))
   (first
    | (go_at_call 92; (with_reducible refine (HK.out _ ?_).mono ?_); (exact (Upd.refl [] w2).drew); rintro e w6 ⟨v6, rfl, ho6, hu6⟩; obtain ⟨a6, c6, m6, hm6, rfl⟩ := ho6.sliceM; have hv6 : Upd [] w2 w6 := (Upd.refl [] w2).drew.trans hu6; have HO6 := Lib.hid ho6; clear hm6)
    | (go_at_call 93; (with_reducible refine (HCA.out _ hv6 ⟨a6, m6, c6⟩ (HO6.out.base (Nat.zero_le _))).mono ?_); rintro e w7 ⟨k', v', b1, b2, l', FC', rfl, hc7, hu7, hf7⟩))
  go_wp2_with fail
  go_ret
  obtain ⟨hE, hD', hL', hU2, hF2, -⟩ := H2.out
  have hU6 := hU2.trans (hv6.mono (by simp))
  have hU7 : Upd (j :: (F ++ FC)) w w7 := hU6.next hu7 (fun k hk _ => by simp [hk])
  have hs6 := hv6.size
  have h6 := ho6.block
  have hap : ∀ i ∈ FC, i ∉ F' := fun i hi q => by
   rcases hF2 i q with q | q
   ·exact H.out.ap i hi q
   ·have := H.out.lt i hi; omega
  refine ⟨0, D', F', l', FC', rfl, hE, ⟨(hL'.upd hv6 (by simp)).upd hu7 H.out.jC, (hD'.upd hv6 (by simp)).upd hu7 (fun i hi q => hap i q hi), hc7, ?_, ?_, ?_, by rw [hE.n]; exact H.out.nD, ?_⟩, hU7, hF2, ?_⟩
  ·intro q
   rcases hF2 _ q with q | q
   ·exact H.out.jF q
   ·omega
  ·intro q
   rcases hf7 _ q with q | q | q
   ·exact H.out.jC q
   ·omega
   ·have := (h6 _ q).1; have : w2.drew.heap.size = w2.heap.size := rfl; omega
  ·intro i hi q
   have hlt := hdl i q
   rcases hf7 _ hi with q2 | q2 | q2
   ·exact hap i q2 q
   ·omega
   ·have := (h6 _ q2).1; have : w2.drew.heap.size = w2.heap.size := rfl; omega
  ·intro i hi
   have := hu7.size
   rcases hf7 _ hi with q2 | q2 | q2
   ·have := H.out.lt i q2; omega
   ·exact q2.2
   ·have := (h6 _ q2).2; omega
  ·intro i hi
   rcases hf7 _ hi with q2 | q2 | q2
   ·exact .inl q2
   ·exact .inr (by omega)
   ·have := (h6 _ q2).1; have : w2.drew.heap.size = w2.heap.size := rfl; exact .inr (by omega)
 ·have he0' : ¬ (e : Int) = 0 := by omega
  clear hE hD' hL' hu2 hca hrd hU2 hF2
  go_wp2_with fail
  go_ret
  obtain ⟨hE, hD', hL', hU2, hF2, hca⟩ := H2.out
  refine ⟨e, D', F', l, FC, rfl, hE, ⟨hL', hD', by rw [if_neg he0]; exact hca, ?_, H.out.jC, ?_, by rw [hE.n]; exact H.out.nD, fun i hi => Nat.lt_of_lt_of_le (H.out.lt i hi) hU2.size⟩, hU2, hF2, fun i hi => .inl hi⟩
  ·intro q
   rcases hF2 _ q with q | q
   ·exact H.out.jF q
   ·omega
  ·intro i hi q
   rcases hF2 i q with q | q
   ·exact H.out.ap i hi q
   ·have := H.out.lt i hi; omega
end Go.Proofs.YtgpefiacbipfpaaGreatDoor

namespace Go.Proofs.YtgpefiacbipfpaaGreatDoor
open Go.RowKit
def wrC (bb ob cb : Nat) (n : Nat) : WrC := ⟨n, some ⟨bb, ob + n * 512, none⟩, 512, cb - n * 512⟩
def difs (a b : Bs) (i : Nat) : List Nat := (List.range i).filter fun n => decide (blkOf a n ≠ blkOf b n)
theorem difs_succ (a b : Bs) (i : Nat) : difs a b (i + 1) = difs a b i ++ (if blkOf a i = blkOf b i then [] else [i]) := by
 unfold difs
 rw [List.range_succ, List.filter_append]
 by_cases h : blkOf a i = blkOf b i <;> simp [h]
theorem difs_writes (a b : Bs) : writesF a b = (difs a b 16).map fun n => (n, blkOf b n) := by
 unfold writesF difs
 generalize List.range 16 = l
 induction l with
 | nil => rfl
 | cons n l ih =>
  rw [List.filterMap_cons, List.filter_cons]
  by_cases h : blkOf a n = blkOf b n <;> simp [h, ih]
set_option maxRecDepth 100000 in
set_option maxHeartbeats 4000000 in
theorem fwrites_ok (w : World) {va vb : Value} {a b : Bs} (ha : Rd w va a) (hb : Rd w vb b) (ha8 : a.length = 8192) (hb8 : b.length = 8192) (G : List Nat) (hG : ∀ g, vb.ownBlock = some g → g ∉ G ∧ g < w.heap.size) (hGl : ∀ i ∈ G, i < w.heap.size) :
  Calls Tryz.prog 51 #[va, vb] w fun e w' => ∃ v, e = .returned v ∧ WrsAt w' G v (writesF a b) ∧ Upd [] w w' := by
 have hA := Lib.hid ha
 have hB := Lib.hid hb
 obtain ⟨aa, ca, rfl, hca1, hca2, hca3⟩ := ha.g.slice
 obtain ⟨ab, cb, rfl, hcb1, hcb2, hcb3⟩ := hb.g.slice
 rw [ha8] at hA hca1 hca3 ⊢
 rw [hb8] at hB hcb1 hcb3 hG ⊢
 rcases aa with _ | ⟨ba, oa, sa⟩
 ·have := (hca3 rfl).1; omega
 rcases ab with _ | ⟨bb, ob, sb⟩
 ·have := (hcb3 rfl).1; omega
 obtain ⟨⟨_, _, hva, -, -, hat⟩, -⟩ := ha
 obtain ⟨⟨_, _, hvb, -, -, hbt⟩, -⟩ := hb
 obtain ⟨_, _, e1, -⟩ := hat 0 (by omega)
 obtain ⟨_, _, e2, -⟩ := hbt 0 (by omega)
 simp only [Value.slice.injEq] at hva hvb
 obtain ⟨e3, -, -⟩ := hva
 obtain ⟨e4, -, -⟩ := hvb
 rw [← e3] at e1
 rw [← e4] at e2
 simp only [Option.some.injEq, Addr.mk.injEq] at e1 e2
 obtain ⟨rfl, rfl, rfl⟩ := e1
 obtain ⟨rfl, rfl, rfl⟩ := e2
 clear e3 e4 hat hbt hca3 hcb3
 go_enter Tryz.func51, Tryz.ntmps51
 go_wp2_with fail
 go_loopg [5, 9] 16 (fun gh v5 v9 wr => ∃ (i : Nat) (a5 : Option Addr) (m5 c5 : Nat), v5 = .slice a5 m5 c5 ∧ v9 = .int .i64 i ∧ i ≤ 16 ∧ gh = 16 - i ∧ Hid (OwnG cW 168 2 wr w.heap.size (.slice a5 m5 c5) ((difs a b i).map (wrC bb ob cb)) ∧ Upd [] w wr))
 case atStart => exact ⟨0, none, 0, 0, rfl, rfl, Nat.zero_le _, rfl, Lib.hid ⟨OwnG.nil _ _, Upd.refl _ _⟩⟩
 case round =>
  obtain ⟨i, a5, m5, c5, rfl, rfl, hi, rfl, HR⟩ := hrel
  by_cases h16 : i < 16
  ·have h16' : (i : Int) < 16 := by omega
   obtain ⟨f, hf⟩ : ∃ f, f = i * 512 := ⟨_, rfl⟩
   obtain ⟨t, ht⟩ : ∃ t, t = f + 512 := ⟨_, rfl⟩
   have w1 : IntKind.i64.wrap ((i : Int) * 512) = (f : Int) := by rw [IntWalk.i64_in _ (by omega)]; omega
   have w2 : IntKind.i64.wrap (((i : Int) + 1) * 512) = (t : Int) := by rw [IntWalk.i64_in _ (by omega)]; omega
   have q1 : (f : Int) ≤ (t : Int) := by omega
   have q2 : (t : Int) ≤ (ca : Int) := by omega
   have q3 : (t : Int) ≤ (cb : Int) := by omega
   have q4 : f ≤ t := by omega
   have q5 : t ≤ ca := by omega
   have q6 : t ≤ cb := by omega
   have q7 : ¬ ca = f := by omega
   have q8 : ¬ cb = f := by omega
   have q9 : t - f = 512 := by omega
   have qa : t ≤ 9223372036854775807 := by omega
   have pA := Rd.part (hA.out.keep HR.out.2) f 512 (by rw [ha8]; omega) (ca - f) (by omega) (by omega)
   have pB := Rd.part (hB.out.keep HR.out.2) f 512 (by rw [hb8]; omega) (cb - f) (by omega) (by omega)
   have HE := Lib.hid fun n => (equal_ok (wr.drewN n) (pA.keep ((Upd.refl [] wr).drewN n)) (pB.keep ((Upd.refl [] wr).drewN n)))
   have e1 : (a.drop f).take 512 = blkOf a i := by rw [hf]; rfl
   have e2 : (b.drop f).take 512 = blkOf b i := by rw [hf]; rfl
   rw [e1, e2] at HE
   have HF := Lib.hid (And.intro hf ht)
   clear pA pB hf ht e1 e2
   by_cases hab : blkOf a i = blkOf b i
   ·rw [decide_eq_true hab] at HE
    have HAB := Lib.hid hab
    clear hab
    go_wp2_with fail
    go_quiet (first | (go_at_call 111; refine Calls.quiet_of_same (HE.out _)))
    go_wp2_with fail
    go_roundg (16 - (i + 1))
    case measure => omega
    case rel =>
     refine ⟨i + 1, a5, m5, c5, rfl, by simp, by omega, rfl, Lib.hid ⟨?_, HR.out.2.drewN _⟩⟩
     rw [difs_succ, if_pos HAB.out, List.append_nil]
     exact HR.out.1.upd ((Upd.refl [] wr).drewN _) (by simp)
   ·rw [decide_eq_false hab] at HE
    have HAB := Lib.hid hab
    clear hab
    go_wp2_with fail
    go_quiet (first | (go_at_call 111; refine Calls.quiet_of_same (HE.out _)))
    have hown := HR.out.1.upd ((Upd.refl [] wr).drewN nq) (by simp)
    have hupd := HR.out.2.drewN nq
    generalize wr.drewN nq = W2 at *
    have HO := Lib.hid (And.intro hown hupd)
    have hs2 := hupd.size
    have hm5 : ((difs a b i).map (wrC bb ob cb)).length ≤ 16 := by
     rw [List.length_map]
     exact Nat.le_trans (List.length_filter_le _ _) (by simp; omega)
    clear hown hupd HE
    generalize hLL : (difs a b i).map (wrC bb ob cb) = LL at *
    have HLL := Lib.hid hLL
    clear hLL
    go_wp2_with (at_builtin; refine wpList_append_G TW rfl _ _ rfl (base := w.heap.size) (l := LL) (r := [⟨i, some ⟨bb, ob + f, none⟩, 512, cb - f⟩]) rfl (HO.out.1.upd ((Upd.refl [] W2).alloc _) (by simp)) rfl (src_new TW (ty := 168) (heap_top _ _)) (oneW _) ?c1 ?c2 ?c3 ?_)
    case c1 => simp; omega
    case c2 => simp; omega
    case c3 => simp; omega
    intro v7 w7 ho7 hg7 hn7
    obtain ⟨a7, c7, m7, hm7, rfl⟩ := ho7.sliceM
    have hu7 : Upd [] w w7 := (HO.out.2.alloc _).grown hg7 (fun g hg => (HO.out.1.block g hg).1)
    have HO7 := Lib.hid (And.intro ho7 hu7)
    clear ho7 hu7 hm7 hg7 hn7
    go_wp2_with fail
    go_roundg (16 - (i + 1))
    case measure => omega
    case rel =>
     refine ⟨i + 1, a7, m7, c7, rfl, by simp, by omega, rfl, Lib.hid ⟨?_, HO7.out.2⟩⟩
     rw [difs_succ, if_neg HAB.out, List.map_append, HLL.out]
     have h1 := HO7.out.1
     rw [HF.out.1] at h1
     exact h1
  ·obtain rfl : i = 16 := by omega
   have h16' : ¬ ((16 : Nat) : Int) < 16 := by omega
   go_wp2_with fail
   go_ret
   refine ⟨_, rfl, ⟨⟨(difs a b 16).map (wrC bb ob cb), OwnG.rd TW HR.out.1, ?_, ?_⟩, ?_, ?_, ?_⟩, HR.out.2⟩
   ·rw [difs_writes, List.length_map, List.length_map]
   ·intro j x y hx hy
    rw [difs_writes, List.getElem?_map] at hy
    rw [List.getElem?_map] at hx
    cases hn : (difs a b 16)[j]? with
    | none => rw [hn] at hx; cases hx
    | some n =>
     rw [hn] at hx hy
     simp only [Option.map, Option.some.injEq] at hx hy
     subst hx
     subst hy
     have hn16 : n < 16 := by
      have := List.mem_of_getElem? hn
      simp [difs] at this
      exact this.1
     refine ⟨rfl, ?_, fun g hg => ?_⟩
     ·have := Rd.part (hB.out.keep HR.out.2) (n * 512) 512 (by rw [hb8]; omega) (cb - n * 512) (by omega) (by omega)
      exact this
     ·have h1 := hG g hg
      exact ⟨h1.1, Nat.lt_of_lt_of_le h1.2 HR.out.2.size⟩
   ·intro g hg
    have h1 := HR.out.1.block g hg
    exact ⟨fun q => by have := hGl g q; omega, h1.2⟩
   ·intro x hx
    obtain ⟨h1, -, h3⟩ := mem_writesF.1 hx
    rw [h3]
    exact blkOf_len hb8 h1
   ·have := (over_writesF (a := a) hb8).wok.1
    omega
end Go.Proofs.YtgpefiacbipfpaaGreatDoor
