/- Read: bytes of a file, block by block. A copy into a block of bytes. keep: a copy of all files. -/
import Derived.WalkMore
import Derived.Laws.CopyRow
import Derived.Maps.RangeWalk
import Derived.Test.YteepgehjkcahiaaGreatC29
import Derived.Test.YteepgehjkcahiaaGreatC19
namespace Go.Proofs.YteepgehjkcahiaaGreat
open Go.RowKit Go.Maps
def codeR (fs : Files) (nm : Bs) (at_ n : Int) : Nat := match getA fs nm with | none => 80 | some f => if at_ < 0 ∨ (f.data.length : Int) < at_ ∨ n < 0 then 1 else 0
def dataR (fs : Files) (nm : Bs) (at_ n : Int) : Bs := match getA fs nm with | none => [] | some f => (f.data.drop at_.toNat).take n.toNat
def FReadPost (w : World) (v j p n k c m q mf ml : Nat) (va : Value) (D : Dev) (F : List Nat) (V : Nat → Bs) (FC : List Nat) (fs : Files) (nm : Bs) (at_ cnt : Int) (r : Ending) (w' : World) : Prop :=
 ∃ (e : Nat) (D' : Dev) (l' : List (Bc.Nd Int SvB)) (FC' : List Nat) (rv : Value), r = .returned (.tuple #[rv, .int .i64 (if e = 0 then codeR fs nm at_ cnt else e : Nat)]) ∧ Eff [] D e D' ∧ w'.heap[v]? = some (boxF j c q mf ml va (decide (e = 2))) ∧ LogA w' j p n k c m (decide (e = 2)) D' F l' V FC' ∧
  Upd (v :: j :: (F ++ FC)) w w' ∧ (∀ i ∈ FC', i ∈ FC ∨ w.heap.size ≤ i) ∧ (e = 0 → codeR fs nm at_ cnt = 0 → Ow w' w.heap.size rv (dataR fs nm at_ cnt) ∧ ∀ g, rv.ownBlock = some g → g ∉ FC') ∧ ((e ≠ 0 ∨ codeR fs nm at_ cnt ≠ 0) → rv = .slice none 0 0)
set_option maxRecDepth 100000 in
set_option maxHeartbeats 4000000 in
theorem fread_ok (w : World) {v j p n k c m q mf ml : Nat} {va : Value} {D : Dev} {F : List Nat} {l : List (Bc.Nd Int SvB)} {V : Nat → Bs} {FC : List Nat} (h : w.heap[v]? = some (boxF j c q mf ml va false)) (hA : LogA w j p n k c m false D F l V FC) (hdn : D.down = false) (hn : n ≤ 512) (hwr : D.wr ≤ 137438953000) (hvj : v ≠ j) (hvF : v ∉ F) (hvC : v ∉ FC)
  {room : Nat} {fs : Files} {A : Bs → Nat} {R : Bs → Value} {FM : List Nat} (hf : FilR w mf fs A R FM) (hvM : v ∉ FM) (hM : ∀ i ∈ FM, i ≠ j ∧ i ∉ F ∧ i ∉ FC) (hok : FilesOk room fs) (hrn : room + 16 ≤ n) (hV : ∀ b, b < room → V (16 + b) = (D.blk (36 + b)).view) (hsz : Sized D.blk) (hH : ∀ p ∈ fs, Holds (dataV D.blk) p.2)
  (s : ByteArray) (hs : s.size ≤ maxLen) (at_ cnt : Int) :
  Calls Tryz.prog 20 #[.pointer (some ⟨v, 0, none⟩), .string s, .int .i64 at_, .int .i64 cnt] w (FReadPost w v j p n k c m q mf ml va D F V FC fs s.data.toList at_ cnt) := by
 have hU0 := ffind_ok w h hA.log hA.dev hn hvj hf hvM (fun q => (hM _ q).1 rfl) s hs
 rw [hdn] at hU0
 have HU := Lib.hid hU0
 have HF := Lib.hid hf
 have HA := Lib.hid hA
 have hvl := lt_of_blk h
 clear h hA hf hU0
 go_enter Tryz.func20, Tryz.ntmps20
 go_wp2_with fail
 refine HU.out.mono ?_
 rintro r w1 ⟨rfl, hb1, hl1, hu1⟩
 have hfil : FilR w1 mf fs A R FM := HF.out.upd hu1 (fun i hi q => by
  simp only [List.mem_cons, List.not_mem_nil, or_false] at q
  rcases q with rfl | rfl
  ·exact hvM hi
  ·exact (hM _ hi).1 rfl)
 have hA1 : LogA w1 j p n k c m false D F l V FC := by
  refine ⟨by simpa using hl1, HA.out.dev.upd hu1 fun i hi q => ?_, HA.out.ca.upd hu1 fun i hi q => ?_, HA.out.jF, HA.out.jC, HA.out.ap, HA.out.nD, fun i hi => Nat.lt_of_lt_of_le (HA.out.lt i hi) hu1.size⟩
  ·simp only [List.mem_cons, List.not_mem_nil, or_false] at q
   rcases q with rfl | rfl
   ·exact hvF hi
   ·exact HA.out.jF hi
  ·simp only [List.mem_cons, List.not_mem_nil, or_false] at q
   rcases q with rfl | rfl
   ·exact hvC hi
   ·exact HA.out.jC hi
 have hU1 : Upd (v :: j :: (F ++ FC)) w w1 := hu1.mono (fun k hk _ => by simp only [List.mem_cons, List.not_mem_nil, or_false] at hk ⊢; rcases hk with rfl | rfl <;> simp)
 have H1 := Lib.hid (And.intro hb1 (And.intro hA1 (And.intro hU1 hfil)))
 clear hb1 hl1 hu1 hfil hA1 hU1
 simp only [Bool.false_or, Bool.false_eq_true, if_false] at H1 ⊢
 cases hg : getA fs s.data.toList with
 | none =>
  have hc : codeR fs s.data.toList at_ cnt = 80 := by unfold codeR; rw [hg]
  have HC := Lib.hid hc
  clear hc
  go_wp2_with fail
  go_ret2
  exact ⟨0, D, l, FC, _, by rw [if_pos rfl, HC.out]; rfl, Eff.refl hdn, H1.out.1, H1.out.2.1, H1.out.2.2.1, fun i hi => .inl hi, fun _ h => (by rw [HC.out] at h; cases h), fun _ => rfl⟩
 | some f =>
  have hfo := hok.ok _ (getA_mem hg)
  have hfH := hH _ (getA_mem hg)
  have hnd := H1.out.2.2.2.node _ (getA_mem hg)
  have hsize := hfo.most
  simp only at hfo hfH hnd hsize
  have HZ := Lib.hid (isize_ok w1 hnd)
  have HND := Lib.hid hnd
  have HDR : Hid (dataR fs s.data.toList at_ cnt = (f.data.drop at_.toNat).take cnt.toNat) := Lib.hid (by unfold dataR; rw [hg])
  by_cases hbad : at_ < 0 ∨ (f.data.length : Int) < at_ ∨ cnt < 0
  ·have hc : codeR fs s.data.toList at_ cnt = 1 := by unfold codeR; rw [hg]; exact if_pos hbad
   have HC := Lib.hid hc
   clear hc hnd hfo hfH
   have hEnd : FReadPost w v j p n k c m q mf ml va D F V FC fs s.data.toList at_ cnt (.returned (.tuple #[.slice none 0 0, .int .i64 1])) w1 :=
    ⟨0, D, l, FC, _, by rw [if_pos rfl, HC.out]; rfl, Eff.refl hdn, H1.out.1, H1.out.2.1, H1.out.2.2.1, fun i hi => .inl hi, fun _ h => (by rw [HC.out] at h; cases h), fun _ => rfl⟩
   have HE := Lib.hid hEnd
   clear hEnd
   by_cases ha : at_ < 0
   ·go_wp2_with fail
    go_ret2
    exact HE.out
   ·by_cases hb : (f.data.length : Int) < at_
    ·go_wp2_with fail
     refine HZ.out.mono ?_
     rintro r w2 ⟨rfl, rfl⟩
     go_wp2_with fail
     go_ret2
     exact HE.out
    ·have hcn : cnt < 0 := by omega
     go_wp2_with fail
     refine HZ.out.mono ?_
     rintro r w2 ⟨rfl, rfl⟩
     go_wp2_with fail
     go_ret2
     exact HE.out
  ·obtain ⟨a0, rfl⟩ : ∃ a : Nat, at_ = a := ⟨at_.toNat, by omega⟩
   obtain ⟨cn, rfl⟩ : ∃ a : Nat, cnt = a := ⟨cnt.toNat, by omega⟩
   have ha : a0 ≤ f.data.length := by omega
   have hc : codeR fs s.data.toList a0 cn = 0 := by unfold codeR; rw [hg]; exact if_neg hbad
   have HC := Lib.hid hc
   have hd1 : decide ((a0 : Int) < 0) = false := decide_eq_false (by omega)
   have hd2 : decide ((cn : Int) < 0) = false := decide_eq_false (by omega)
   have hd3 : ¬ (f.data.length : Int) < (a0 : Int) := by omega
   obtain ⟨M, hM0⟩ : ∃ M : Nat, M = f.data.length - a0 := ⟨_, rfl⟩
   have hw1 : IntKind.i64.wrap ((f.data.length : Int) - (a0 : Int)) = (M : Int) := by rw [IntWalk.i64_in _ (by omega)]; omega
   have HM0 := Lib.hid hM0
   obtain ⟨N, hN⟩ : ∃ N : Nat, N = min cn M := ⟨_, rfl⟩
   have hmin : min (cn : Int) (M : Int) = (N : Int) := by omega
   have HN0 := Lib.hid hN
   clear hM0 hc hbad hnd hN
   go_wp2_with fail
   refine HZ.out.mono ?_
   rintro r w2 ⟨rfl, rfl⟩
   go_wp2_with fail
   refine HZ.out.mono ?_
   rintro r w2 ⟨rfl, rfl⟩
   go_wp2_with fail
   have hHB := hfH
   have hbl := hfo.blks_len
   have hblt := hfo.blks_lt
   have HX := Lib.hid (And.intro hHB (And.intro hbl hblt))
   have hsm : Small f.runs 100000 := by
    have h64 : lenR f.runs ≤ 64 := by rw [hfo.len]; unfold blocksN; omega
    have := runs_few (canon_pos hfo.canon)
    refine ⟨fun x hx => ?_, by omega, by omega⟩
    have := hfo.le x hx
    omega
   have HSM := Lib.hid hsm
   have HND0 := Lib.hid HND.out
   have HV := Lib.hid hV
   have HSZ := Lib.hid hsz
   have HM := Lib.hid hM
   have hNs : a0 + N ≤ f.data.length := by have := HM0.out; omega
   generalize hSZ : f.data.length = size at *
   clear hHB hbl hblt hsm hV hsz hM hd1 hd2 hd3 hw1 hmin hfH hfo HND HZ HU
   go_loopg [2, 3, 12] N (fun gh v2 v3 v12 wr => ∃ (d r : Nat) (Di : Dev) (li : List (Bc.Nd Int SvB)) (FCi : List Nat), v2 = .int .i64 (a0 + d : Nat) ∧ v3 = .int .i64 r ∧ gh = r ∧ d + r = N ∧
    Hid (Eff [] D 0 Di ∧ wr.heap[v]? = some (boxF j c q mf ml va false) ∧ LogA wr j p n k c m false Di F li V FCi ∧ Upd (v :: j :: (F ++ FC)) w wr ∧ (∀ i ∈ FCi, i ∈ FC ∨ w.heap.size ≤ i)) ∧ Hid (Ow wr w.heap.size v12 ((f.data.drop a0).take d) ∧ ∀ g, v12.ownBlock = some g → g ∉ FCi) ∧ Hid (NodeR wr 0 (A s.data.toList) size (R s.data.toList) f.runs))
   case atStart => exact ⟨0, N, D, l, FC, by simp, rfl, rfl, by omega, Lib.hid ⟨Eff.refl hdn, H1.out.1, H1.out.2.1, H1.out.2.2.1, fun i hi => .inl hi⟩, Lib.hid ⟨by simp; exact OwnG.nil _ _, fun g hg => by cases hg⟩, HND0⟩
   case round =>
    obtain ⟨d, rr, Di, li, FCi, rfl, rfl, rfl, hdr, HS, HO, HN⟩ := hrel
    by_cases hr : 0 < gk
    ·have hlt : (0 : Int) < (gk : Int) := by omega
     have hat : a0 + d < size := by omega
     obtain ⟨b, hb⟩ : ∃ b, (expand f.runs)[(a0 + d) / 512]? = some b := ⟨_, List.getElem?_eq_getElem (by have := HX.out.2.1; rw [Fil.blks] at this; rw [this]; unfold blocksN; omega)⟩
     have hbr := HX.out.2.2 b (List.mem_of_getElem? hb)
     have HBb := Lib.hid hb
     have hAT := iat_ok wr HN.out hsize HSM.out (a0 + d) hat hb
     obtain ⟨fr, hfr⟩ : ∃ fr, fr = (a0 + d) % 512 := ⟨_, rfl⟩
     rw [← hfr] at hAT
     have HFr := Lib.hid hfr
     have HAT := Lib.hid hAT
     have hfr5 : fr < 512 := by omega
     obtain ⟨x, hx⟩ : ∃ x : Nat, x = 16 + b := ⟨_, rfl⟩
     have hw2 : IntKind.i64.wrap (16 + (b : Int)) = (x : Int) := by rw [IntWalk.i64_in _ (by omega)]; omega
     have k0 := cell_blk HS.out.2.1 0
     have k1 := cell_blk HS.out.2.1 1
     simp only [List.getElem?_toArray, List.getElem?_cons_zero, List.getElem?_cons_succ] at k0 k1
     have hDi := HS.out.1.up
     have hDw := HS.out.1.wr
     have hVx : V x = (Di.blk (20 + x)).view := by
      rw [hx, HV.out b hbr, hDi.2.2.2]; show (D.blk (36 + b)).view = (D.blk (20 + (16 + b))).view; rw [show 20 + (16 + b) = 36 + b by omega]
     have hV5 : (V x).length = 512 := by rw [hx, HV.out b hbr]; exact HSZ.out.view _
     have HVx := Lib.hid (And.intro hVx hV5)
     have HG := Lib.hid fun (X : World) (u : Upd [] wr X) => get_ok X (HS.out.2.2.1.upd u (by simp) (by simp) (by simp)) hDi.2.1 (by simp at hDw; omega) x (by omega) hVx hV5
     clear hb hAT hfr hVx hV5 hDi hDw
     go_wp2_with fail
     refine HAT.out.mono ?_
     rintro r w3 ⟨rfl, hu3⟩
     have q0 := held1 hu3 k0
     have q1 := held1 hu3 k1
     have HU3 := Lib.hid hu3
     clear hu3
     go_wp2_with fail
     rw [show (16 : Int) + (b : Int) = (x : Int) by omega]
     refine (HG.out w3 HU3.out).mono ?_
     rintro r w4 ⟨e, D4, l4, FC4, v4, rfl, hE4, hL4, hu4, hF4, hok4, hbad4⟩
     have hEr := hE4.err
     have hb4 : w4.heap[v]? = some (boxF j c q mf ml va false) := (hu4.block v (by have := HU3.out.size; have := lt_of_blk HS.out.2.1; omega) (by
      simp only [List.mem_cons, List.mem_append, not_or]
      exact ⟨hvj, hvF, fun q => by rcases HS.out.2.2.2.2 _ q with q | q; exact hvC q; omega⟩)).trans (heap_keepU HU3.out HS.out.2.1)
     have hU4 : Upd (v :: j :: (F ++ FC)) w w4 := ((HS.out.2.2.2.1.trans (HU3.out.mono (by simp))).next hu4 fun k hk hlt => by
      simp only [List.mem_cons, List.mem_append] at hk ⊢
      rcases hk with hk | hk | hk
      ·exact .inr (.inl hk)
      ·exact .inr (.inr (.inl hk))
      ·rcases HS.out.2.2.2.2 _ hk with q | q
       ·exact .inr (.inr (.inr q))
       ·omega)
     have hF4' : ∀ i ∈ FC4, i ∈ FC ∨ w.heap.size ≤ i := fun i hi => by
      rcases hF4 i hi with q | q
      ·exact HS.out.2.2.2.2 i q
      ·have := HU3.out.size; have := HS.out.2.2.2.1.size; exact .inr (by omega)
     have hE4' : Eff [] D e D4 := HS.out.1.next hE4
     have H4 := Lib.hid (And.intro hE4' (And.intro hL4 (And.intro hU4 (And.intro hF4' hb4))))
     clear hE4 hL4 hU4 hF4' hb4 hE4'
     rcases hEr with rfl | rfl
     ·obtain ⟨hrow, hrowF⟩ := hok4 rfl
      obtain ⟨te, hte⟩ : ∃ te : Nat, te = min 512 (fr + gk) := ⟨_, rfl⟩
      have hmin2 : min (512 : Int) ((fr : Int) + (gk : Int)) = (te : Int) := by omega
      have hte1 : fr ≤ te := by omega
      have hte2 : te ≤ 512 := by omega
      have hte3 : te ≤ fr + gk := by omega
      have hte4 : fr < te := by omega
      have hpart : ((V x).drop fr).take (te - fr) = (f.data.drop (a0 + d)).take (te - fr) := by
       have h1 := HX.out.1.part (at_ := a0 + d) (m := te - fr) HBb.out (by omega) (by have := HFr.out; omega)
       rw [← HFr.out] at h1
       rw [← h1, hx, HV.out b hbr]; rfl
      have hv5 := HVx.out.2
      have how4 : Ow w4 w.heap.size u12 ((f.data.drop a0).take d) := (HO.out.1.upd HU3.out (by simp)).upd hu4 fun g hg q => by
       simp only [List.mem_cons, List.mem_append] at hg
       have hb1 := HO.out.1.block g q
       rcases hg with hg | hg | hg
       ·have := lt_of_blk HA.out.log; omega
       ·have := HA.out.dev.lt g hg; omega
       ·exact HO.out.2 g q hg
      have HOW := Lib.hid how4
      have HRD := Lib.hid hrow.rd
      have HP := Lib.hid (And.intro hpart (And.intro hrowF hF4))
      have HHt := Lib.hid hte
      have HU34 := Lib.hid (((HU3.out.mono (by simp)).trans hu4).mono (G := v :: j :: (F ++ FCi)) (fun k hk _ => by simp only [List.mem_cons] at hk ⊢; exact .inr hk))
      obtain ⟨-, g4, cv4, ty4, cur4, rfl, hcc, hcm, hgb4, -, -, -⟩ := hrow
      have hcc1 : te ≤ cv4 := by omega
      have hcc2 : ¬ cv4 = fr := by omega
      have hcc3 : fr ≤ cv4 := by omega
      obtain ⟨oa, oc, om, hom, rfl⟩ := how4.sliceM
      have hr7 : Rd w4 (.slice (some ⟨g4, fr, none⟩) (te - fr) (cv4 - fr)) (((V x).drop fr).take (te - fr)) := by
       have := HRD.out.part fr (te - fr) (by omega) (cv4 - fr) (by omega) (by omega)
       simpa using this
      have hm7 : (((V x).drop fr).take (te - fr)).length = te - fr := by rw [List.length_take, List.length_drop, hv5]; omega
      have HR7 := Lib.hid hr7
      have HM7 := Lib.hid hm7
      have HOm := Lib.hid hom
      have hhs4 := hu4.size
      have hhs3 := HU3.out.size
      have hhs0 := HS.out.2.2.2.1.size
      clear hpart hrowF hF4 how4 hu4 hok4 hbad4 hte HG HAT hom hr7 hm7
      go_wp2_with (first
       | (at_builtin; refine wpList_append_G T8 rfl _ _ rfl (l := (f.data.drop a0).take d) rfl HOW.out (by rw [HM7.out]; rfl) HR7.out.src (one8 _) ?c1 ?c2 ?c3 ?_)
       | fail)
      case c1 => rw [HM7.out, List.length_take]; omega
      case c2 => rw [HM7.out, List.length_take]; omega
      case c3 => omega
      intro v8 w8 ho8 hg8 hn8
      have hg8u := upd_row hg8
      have hob : ∀ k ∈ (Value.slice oa om oc).ownBlock.toList, w.heap.size ≤ k := fun k hk => (HOW.out.block k (by simpa using hk)).1
      rw [← hx, HP.out.1, ← take_step] at ho8
      obtain ⟨oa8, oc8, om8, hom8, rfl⟩ := ho8.sliceM
      have H8 := Lib.hid (And.intro ho8 (And.intro hg8u (And.intro hn8 hob)))
      clear ho8 hg8 hn8 hg8u hob hom8
      go_wp2_with fail
      go_roundg (gk - (te - fr))
      case measure => omega
      case rel =>
       obtain ⟨hE4, hL4, hU4, hF4, hb4⟩ := H4.out
       obtain ⟨ho8, hg8, hn8, hob⟩ := H8.out
       have hvlt := lt_of_blk hb4
       refine ⟨d + (te - fr), gk - (te - fr), D4, l4, FC4, by go_num, by go_num, rfl, by omega, Lib.hid ⟨hE4, ?_, ?_, ?_, hF4⟩, Lib.hid ⟨ho8, fun g hg q => ?_⟩, Lib.hid ?_⟩
       ·exact (hg8.block v hvlt fun q => by have := hob v q; omega).trans hb4
       ·refine LogA.upd hL4 hg8 (fun q => by have := hob j q; have := lt_of_blk HA.out.log; omega) (fun i hi q => by have := hob i q; have := HA.out.dev.lt i hi; omega) (fun i hi q => ?_)
        have e : (Value.slice oa om oc).ownBlock = some i := by simpa using q
        have h1 := HO.out.2 i e
        have h2 := (HO.out.1.block i e).2
        rcases HP.out.2.2 i hi with q2 | q2
        ·exact h1 q2
        ·omega
       ·exact hU4.next hg8 fun k hk hlt => by have := hob k hk; omega
       ·rcases hn8 with e | e
        ·rw [e] at hg
         have h1 := HO.out.2 g hg
         have h2 := (HO.out.1.block g hg).2
         rcases HP.out.2.2 g q with q2 | q2
         ·exact h1 q2
         ·omega
        ·have := e g hg
         have := hL4.lt g q
         omega
       ·have hnm := HF.out.memA _ (getA_mem hg)
        have hnr := HF.out.memR _ (getA_mem hg)
        have hAlt := HF.out.lt _ hnm
        simp only at hnm hnr hAlt
        have hoff : ∀ i ∈ FM, i ∉ v :: j :: (F ++ FCi) := fun i hi q => by
         have hi0 := HM.out i hi
         simp only [List.mem_cons, List.mem_append] at q
         rcases q with q | q | q | q
         ·subst q; exact hvM hi
         ·exact hi0.1 q
         ·exact hi0.2.1 q
         ·rcases HS.out.2.2.2.2 i q with q2 | q2
          ·exact hi0.2.2 q2
          ·have := HF.out.lt i hi; omega
        have hu4' : Upd (v :: j :: (F ++ FCi)) wr w4 := HU34.out
        refine ((HN.out.upd hu4' (hoff _ hnm) (fun g hg => hoff _ (hnr g hg))).upd hg8 (fun q => ?_) (fun g hg q => ?_))
        ·have := hob _ q; omega
        ·have := hob _ q; have := HF.out.lt _ (hnr g hg); omega
     ·obtain rfl := hbad4 (by omega)
      have HEN := Lib.hid (fended_ok w4 H4.out.2.2.2.2 2)
      clear hok4 hbad4 hu4 hF4
      go_wp2_with fail
      refine HEN.out.mono ?_
      rintro r w5 ⟨rfl, hb5, hu5⟩
      go_wp2_with fail
      go_ret2
      obtain ⟨hE4, hL4, hU4, hF4, hb4⟩ := H4.out
      refine ⟨2, D4, l4, FC4, _, rfl, hE4, hb5, ?_, hU4.trans (hu5.mono (by simp)), hF4, fun h => absurd h (by omega), fun _ => rfl⟩
      refine hL4.upd hu5 (by simp; exact fun e => hvj e.symm) (fun i hi q => ?_) (fun i hi q => ?_)
      ·rw [List.mem_singleton.1 q] at hi; exact hvF hi
      ·rw [List.mem_singleton.1 q] at hi
       rcases hF4 _ hi with q | q
       ·exact hvC q
       ·omega
    ·obtain rfl : gk = 0 := by omega
     have hlt : ¬ (0 : Int) < ((0 : Nat) : Int) := by omega
     go_wp2_with fail
     go_ret2
     refine ⟨0, Di, li, FCi, u12, by rw [if_pos rfl, HC.out]; rfl, HS.out.1, HS.out.2.1, HS.out.2.2.1, HS.out.2.2.2.1, HS.out.2.2.2.2, fun _ _ => ⟨?_, HO.out.2⟩, fun h => ?_⟩
     ·rw [HDR.out, Int.toNat_natCast, Int.toNat_natCast]
      have := HO.out.1
      have hd : d = N := by omega
      have e : (f.data.drop a0).take cn = (f.data.drop a0).take d := by
       have := HN0.out
       have := HM0.out
       by_cases q : cn ≤ M
       ·rw [show d = cn by omega]
       ·rw [List.take_of_length_le (by rw [List.length_drop]; omega), List.take_of_length_le (by rw [List.length_drop]; omega)]
      rw [e]; exact this
     ·rcases h with h | h
      ·exact absurd rfl h
      ·exact absurd HC.out h
end Go.Proofs.YteepgehjkcahiaaGreat

namespace Go.Proofs.YteepgehjkcahiaaGreat
open Go.RowKit Go.Maps
theorem Row8.of {w : World} {base g c : Nat} {ty : TypeId} {cur : Array Value} {d : Bs} (hd : d.length = 512) (h1 : 512 ≤ c) (h2 : c ≤ maxLen) (hb : base ≤ g) (hg : w.heap[g]? = some (.cells cur ty (0, 0))) (hs : 512 ≤ cur.size) (hc : ∀ i : Nat, i < 512 → cur[i]? = (d.map fun b => Value.int .u8 b.toNat)[i]?) : Row8 w base (.slice (some ⟨g, 0, none⟩) 512 c) d := by
 refine ⟨⟨⟨some ⟨g, 0, none⟩, c, by rw [hd], by rw [hd]; exact h1, h2, fun i hi => ⟨g, 0, rfl, fun j u hu => ?_⟩⟩, fun n c e => by cases e⟩, g, c, ty, cur, rfl, h1, h2, hb, hg, hs, hc⟩
 obtain rfl : j = 0 := by
  cases j with
  | zero => rfl
  | succ j => simp [c8] at hu
 have hu' : u = .int .u8 d[i].toNat := by simpa [c8] using hu.symm
 subst hu'
 have hi5 : i < 512 := by omega
 have : w.cell? ⟨g, i, none⟩ = some (.int .u8 d[i].toNat) := by
  rw [cell_blk hg, hc i hi5, List.getElem?_map, List.getElem?_eq_getElem hi]; rfl
 simpa using this
def pasteB (d : Bs) (o : Nat) (l : Bs) : Bs := d.take o ++ (l.take (512 - o) ++ d.drop (o + (l.take (512 - o)).length))
theorem pasteB_len {d l : Bs} {o : Nat} (hd : d.length = 512) (ho : o ≤ 512) : (pasteB d o l).length = 512 := by
 unfold pasteB
 simp only [List.length_append, List.length_take, List.length_drop]
 omega
theorem pasteB_old {d l : Bs} {o i : Nat} (hi : i < o) (ho : o ≤ d.length) : (pasteB d o l)[i]? = d[i]? := by
 unfold pasteB
 rw [List.getElem?_append_left (by rw [List.length_take]; omega), List.getElem?_take_of_lt hi]
theorem pasteB_new {d l : Bs} {o i : Nat} (hi : o ≤ i) (ho : o ≤ d.length) (hl : i - o < l.length) (h5 : i < 512) : (pasteB d o l)[i]? = l[i - o]? := by
 unfold pasteB
 have ht : (d.take o).length = o := by rw [List.length_take]; omega
 rw [List.getElem?_append_right (by omega), ht, List.getElem?_append_left (by rw [List.length_take]; omega), List.getElem?_take_of_lt (by omega)]
theorem app_get {A B X Y : List Value} {i : Nat} (h : ∀ k, A.length + B.length + k = i → X[k]? = Y[k]?) : (A ++ (B ++ X))[i]? = (A ++ (B ++ Y))[i]? := by
 simp only [List.getElem?_append]
 split
 ·rfl
 ·split
  ·rfl
  ·exact h _ (by omega)
theorem upd_row8 {w : World} {g : Nat} (cs : Array Value) : Upd [g] w (w.setRow g cs) :=
 ⟨rfl, rfl, by rw [size_setRow]; exact Nat.le_refl _, fun k _ hn => setRow_other w g k cs (fun e => hn (by rw [e]; simp))⟩
theorem wpList_copy8 {w : World} {ops : Array Oper} {rest : List Oper} {o : Oper} {a : Act} {Q : Exit → Act → World → Prop} (hg : o.guard = none) (x y : Operand)
  (hop : o.op = Op.call { callee := Callee.builtin Builtin.copy, args := #[x, y], argTypes := #[32, 32] }) {base : Nat} {d l : Bs} {B c off dc m : Nat} (hrow : Row8 w base (.slice (some ⟨B, 0, none⟩) 512 c) d) (hoff : off ≤ 512)
  {v : Value} (hv : Rd w v l) (hl : l ≠ []) (hdl : d.length = 512) (hx : a.eval x = .slice (some ⟨B, off, none⟩) m dc) (hm : m = 512 - off) (hy : a.eval y = v)
  (h : ∀ w', Row8 w' base (.slice (some ⟨B, 0, none⟩) 512 c) (pasteB d off l) → Upd [B] w w' → wpList Tryz.prog ops Q rest (a.put o.dst (.int .i64 ((l.take (512 - off)).length : Nat))) w') : wpList Tryz.prog ops Q (o :: rest) a w := by
 subst hm
 obtain ⟨-, g, c', ty, cur, e, h1, h2, h3, h4, h5, h6⟩ := hrow
 cases e
 obtain ⟨aS, cS, rfl, hc1, hc2, hc3⟩ := hv.slice
 cases aS with
 | none => exact absurd (List.eq_nil_of_length_eq_zero (hc3 rfl).1) hl
 | some ad =>
  have hsrc : ∀ (j : Nat) (u : Value), ((l.take (512 - off)).map fun b => Value.int .u8 b.toNat)[j]? = some u → w.cell? (ad.add j) = some u := by
   intro j u hu
   obtain ⟨-, -, -, hcell⟩ := hv.cell
   have hpos : 0 < l.length := List.length_pos_iff.2 hl
   obtain ⟨b, o2, e2, hcl⟩ := hcell hpos
   cases e2
   rw [List.getElem?_map] at hu
   have hj : j < (l.take (512 - off)).length := by
    by_cases q : j < (l.take (512 - off)).length
    ·exact q
    ·rw [List.getElem?_eq_none (by omega)] at hu; cases hu
   have hjl : j < l.length := by rw [List.length_take] at hj; omega
   rw [List.getElem?_take_of_lt (by rw [List.length_take] at hj; omega), List.getElem?_eq_getElem hjl] at hu
   cases hu
   have := hcl j hjl
   have e3 : (⟨b, o2, none⟩ : Addr).add j = ⟨b, o2 + j, none⟩ := by unfold Addr.add; split <;> simp_all
   rw [e3]; exact this
  have hlen : ((l.take (512 - off)).map fun b => Value.int .u8 b.toNat).length = Nat.min l.length (512 - off) := by
   rw [List.length_map, List.length_take]; exact Nat.min_comm ..
  have hsz1 : (Tryz.prog.info? 5).map (·.size) = some 1 := by
   obtain ⟨i, h0, h1, h2, h3⟩ := info_parts (show (Tryz.prog.info? 5).map (fun i => (i.zero, i.size, i.bytes)) = some (some (.int .u8 0), 1, 1) by kernel_rfl)
   rw [h0, Option.map, h2]
  have hle : ((l.take (512 - off)).map fun b => Value.int .u8 b.toNat).length ≤ 512 - off := by rw [List.length_map, List.length_take]; omega
  have hone : ∀ u ∈ (l.take (512 - off)).map fun b => Value.int .u8 b.toNat, u.oneCell' = true := by
   intro u hu
   obtain ⟨b, -, rfl⟩ := List.mem_map.1 hu
   rfl
  have hrun := run_copy_row Tryz.prog w 32 32 o.type 5 B off (512 - off) dc ad l.length cS cur ty _ T8.und hsz1 h4 hlen hsrc (by omega) hone
  refine wpList_plain hg fun K hK => ?_
  unfold Oper.wp execOp
  simp only [hop, resolve, invoke, builtin, Sem.run_bind, Sem.run_pure, Result.andThen_ok, List.map_toArray, List.map_cons, List.map_nil, hx, hy, hrun]
  rw [List.length_map]
  refine hK _ _ (h _ (Row8.of (pasteB_len hdl hoff) h1 h2 h3 (setRow_heap w B cur _ ty _ h4) ?_ fun i hi => ?_) (upd_row8 _))
  ·simp only [List.size_toArray, List.length_append, List.length_take, List.length_drop, List.length_map, Array.length_toList]; omega
  ·have hcl : cur.toList.take off = (d.take off).map fun b => Value.int .u8 b.toNat := by
    apply List.ext_getElem?
    intro k
    rw [List.getElem?_take, List.map_take, List.getElem?_take]
    by_cases hk : k < off
    ·rw [if_pos hk, if_pos hk, Array.getElem?_toList, h6 k (by omega)]
    ·rw [if_neg hk, if_neg hk]
   rw [List.getElem?_toArray, hcl, List.append_assoc]
   unfold pasteB
   rw [List.map_append, List.map_append]
   refine app_get fun k hk => ?_
   rw [List.length_map, List.length_map, List.length_take] at hk
   rw [List.getElem?_drop, Array.getElem?_toList, h6 _ (by omega), List.map_drop, List.getElem?_drop]
end Go.Proofs.YteepgehjkcahiaaGreat

namespace Go.Proofs.YteepgehjkcahiaaGreat
open Go.RowKit Go.Maps
theorem ranges_upd {H : Type} {P : Program} {k : TypeId} {R : Value → Option (DataW H × List MemPlace)} {w w' : World} {b r n : Nat} {D : DataW H} {left : Lit → Bool} {cnt : Nat} (h : w.ranges P k R b r n D left cnt) {F : List Nat} (u : Upd F w w') (hb : b ∉ F) (hr : r ∉ F) : w'.ranges P k R b r n D left cnt := by
 have h1 := h.owns.lt
 have h2 := h.lt
 obtain ⟨es, clock, since, seen, c0, hb', F', hs, hD, hr', rest⟩ := h
 exact ⟨es, clock, since, seen, c0, (u.block b h1 hb).trans hb', F', hs, hD, (u.block r h2 hr).trans hr', rest⟩
theorem keyS_inv {key : Value} {kl : Lit} (h : keyOf Tryz.prog 9 key = some kl) : ∃ x : ByteArray, key = .string x ∧ kl = .string x.data.toList ∧ x.size ≤ maxLen := by
 rw [keyOf_string Tryz.underlying9] at h
 have hu := Tryz.underlying9
 cases key <;> simp [mapKey, hu] at h
 obtain ⟨h1, rfl⟩ := h
 exact ⟨_, rfl, rfl, by simpa using h1⟩
theorem next_ents {fs : Files} {A : Bs → Nat} {s : Bs} {v : Value} (hat : ∀ zd, (dataA Lit.string (entsL fs A)).atKey (.string s) zd = .held v) : ∃ f, getA fs s = some f ∧ v = ptA (A s) := by
 have h := hat (.map [])
 rw [at_dataA keyS, getA_ents] at h
 cases hg : getA fs s with
 | none => rw [hg] at h; cases h
 | some f => rw [hg] at h; cases h; exact ⟨f, rfl, rfl⟩
def goneF (fs : Files) (left : Lit → Bool) : Files := fs.filter fun p => !left (.string p.1)
theorem srt_filter {fs : Files} (h : Srt ltN fs) (P : Bs × Fil → Bool) : Srt ltN (fs.filter P) := List.Pairwise.filter _ h
theorem goneF_srt {fs : Files} (h : Srt ltN fs) (left : Lit → Bool) : Srt ltN (goneF fs left) := srt_filter h _
theorem getA_goneF {fs : Files} (left : Lit → Bool) (k : Bs) : getA (goneF fs left) k = if left (.string k) = true then none else getA fs k := by
 induction fs with
 | nil => simp [goneF, getA]
 | cons p fs ih =>
  unfold goneF at ih ⊢
  rw [List.filter_cons]
  by_cases hp : left (.string p.1) = true
  ·rw [if_neg (by simp [hp]), ih, getA_cons]
   by_cases e : p.1 = k
   ·rw [e] at hp; simp [hp]
   ·simp [e]
  ·rw [if_pos (by simpa using hp), getA_cons, getA_cons, ih]
   by_cases e : p.1 = k
   ·rw [e] at hp; simp [hp, e]
   ·simp [e]
theorem goneF_start (fs : Files) (A : Bs → Nat) : goneF fs (Maps.has (dataA Lit.string (entsL fs A))) = [] := by
 unfold goneF
 rw [List.filter_eq_nil_iff]
 intro p hp
 have hm : (getA fs p.1).isSome = true := by
  cases hg : getA fs p.1 with
  | some f => rfl
  | none => exact absurd rfl (getA_none.1 hg p hp)
 rw [has_dataA keyS, getA_ents]
 simp [hm]
theorem goneF_end (fs : Files) {left : Lit → Bool} (h : ∀ kl, left kl = false) : goneF fs left = fs := by
 unfold goneF
 rw [List.filter_eq_self]
 intro p _
 simp [h]
theorem goneF_step {fs : Files} (h : Srt ltN fs) {left : Lit → Bool} {s : Bs} {f : Fil} (hf : getA fs s = some f) : goneF fs (fun z => left z && !z.sameKey (.string s)) = putA ltN (goneF fs left) s f := by
 refine srt_ext ordN (goneF_srt h _) (srt_putA ordN (goneF_srt h _) s f) fun k => ?_
 rw [getA_goneF, getA_putA ordN (goneF_srt h _), getA_goneF]
 have hk : (Lit.string k).sameKey (.string s) = decide (k = s) := by
  rw [Bool.eq_iff_iff]
  simp [Lit.sameKey]
 rw [hk]
 by_cases e : s = k
 ·subst e
  simp [hf]
 ·have e' : ¬ k = s := fun q => e q.symm
  simp [e, e']
abbrev boxG (j c q mf : Nat) (lm : Value) (va : Value) (dead : Bool) : Obj := .cells #[.pointer (some ⟨j, 0, none⟩), .pointer (some ⟨c, 0, none⟩), .pointer (some ⟨q, 0, none⟩), .map (some mf), lm, va, .bool dead] 79 (0, 0)
def KeepPost (w : World) (v j c q mf : Nat) (va : Value) (dead : Bool) (fs : Files) (r : Ending) (w' : World) : Prop :=
 r = .returned (.tuple #[]) ∧ ∃ mn A2 R2 FL2, w'.heap[v]? = some (boxF j c q mf mn va dead) ∧ FilR w' mn fs A2 R2 FL2 ∧ Upd [v] w w' ∧ ∀ i ∈ FL2, w.heap.size ≤ i
theorem FilR.none {w : World} {mn : Nat} (h : MapS w mn []) (A : Bs → Nat) (R : Bs → Value) : FilR w mn [] A R [mn] :=
 ⟨h, fun p hp => by simp at hp, by simp, fun p hp => by simp at hp, fun p hp => by simp at hp, fun p hp => by simp at hp, fun p hp => by simp at hp, fun i hi => by rw [List.mem_singleton.1 hi]; exact h.lt⟩
set_option maxRecDepth 100000 in
set_option maxHeartbeats 4000000 in
theorem keep_ok (w : World) {v j c q mf : Nat} {lm va : Value} {dead : Bool} (h : w.heap[v]? = some (boxG j c q mf lm va dead)) {room : Nat} {fs : Files} {A : Bs → Nat} {R : Bs → Value} {FM : List Nat} (hf : FilR w mf fs A R FM) (hok : FilesOk room fs) (hvM : v ∉ FM) :
  Calls Tryz.prog 58 #[.pointer (some ⟨v, 0, none⟩)] w (KeepPost w v j c q mf va dead fs) := by
 have c2 := cell_blk h 3
 have f3 := frozen_blk h 4
 have c3 := cell_blk h 4
 simp only [List.getElem?_toArray, List.getElem?_cons_zero, List.getElem?_cons_succ] at c2 c3
 have HB := Lib.hid h
 have HF := Lib.hid hf
 have hvl := lt_of_blk h
 have hmm := @run_makeMap Tryz.prog
 have hmade := World.ownsMap_made (H := Value) w Tryz.prog 9 opq
 have hu0 : Upd [v] w ((w.setCell ⟨v, 4, none⟩ (.map (some w.heap.size))).alloc (.map #[] 0)) := ((Upd.refl [v] w).setCell (by simp) _ _).alloc _
 have hb0 : ((w.setCell ⟨v, 4, none⟩ (.map (some w.heap.size))).alloc (.map #[] 0)).heap[v]? = some (boxF j c q mf w.heap.size va dead) := by
  rw [heap_alloc, if_neg (by simp; omega), heap_setCell, if_pos rfl, h]; rfl
 have hf0 : FilR ((w.setCell ⟨v, 4, none⟩ (.map (some w.heap.size))).alloc (.map #[] 0)) mf fs A R FM := hf.upd hu0 fun i hi q => hvM (by rw [List.mem_singleton.1 q] at hi; exact hi)
 have hm0 : MapS ((w.setCell ⟨v, 4, none⟩ (.map (some w.heap.size))).alloc (.map #[] 0)) w.heap.size [] := by
  have := World.ownsMap_made (H := Value) (w.setCell ⟨v, 4, none⟩ (.map (some w.heap.size))) Tryz.prog 9 opq
  simp only [World.size_setCell] at this
  exact this
 have hsz0 : ((w.setCell ⟨v, 4, none⟩ (.map (some w.heap.size))).alloc (.map #[] 0)).heap.size = w.heap.size + 1 := by simp
 generalize hW1 : (w.setCell ⟨v, 4, none⟩ (.map (some w.heap.size))).alloc (.map #[] 0) = W1 at *
 have H0 := Lib.hid (And.intro hu0 (And.intro hb0 (And.intro hf0 hm0)))
 have hmap := hf0.map
 have d3 := cell_blk hb0 3
 simp only [List.getElem?_toArray, List.getElem?_cons_zero, List.getElem?_cons_succ] at d3
 have hvm : v ≠ mf := fun e => hvM (by rw [e]; exact hf0.mem)
 clear h hf hu0 hb0 hf0 hm0
 go_enter Tryz.func58, Tryz.ntmps58
 go_wp2_with (first
  | (at_range; refine wpList_range_own _ rfl _ 77 rfl 9 71 lawS Tryz.underlying77 opq mf _ _ rfl hmap ?_; intro w0 hrg0 hg0 hs0)
  | fail)
 clear hW1 c2 c3 f3 d3
 rw [hsz0] at hrg0 hs0 ⊢
 go_frame
 go_loopw [2, 3] (fun _ _ wr => ∃ (left : Lit → Bool) (cnt : Nat) (A2 : Bs → Nat) (R2 : Bs → Value) (FL2 : List Nat), wr.ranges (H := Value) Tryz.prog 9 opq mf (w.heap.size + 1) fs.length (dataA Lit.string (entsL fs A)) left cnt ∧ Hid (wr.heap[v]? = some (boxF j c q mf w.heap.size va dead) ∧ Upd [v] w wr) ∧ Hid (FilR wr w.heap.size (goneF fs left) A2 R2 FL2 ∧ ∀ i ∈ FL2, w.heap.size ≤ i ∧ i ≠ (w.heap.size + 1)))
  (fun _ _ wr => wr.rangeLeft mf (w.heap.size + 1))
 case atStart =>
  have hg0u : Upd [] W1 w0 := ⟨hg0.os, hg0.output, hg0.size, fun k hk _ => hg0.block k hk (by simp)⟩
  have hrg0' : w0.ranges (H := Value) Tryz.prog 9 opq mf (w.heap.size + 1) fs.length (dataA Lit.string (entsL fs A)) _ _ := (show (entsL fs A).length = fs.length by simp [entsL]) ▸ hrg0
  refine ⟨_, _, A, R, [w.heap.size], hrg0', Lib.hid ⟨heap_keepU hg0u H0.out.2.1, H0.out.1.trans (hg0u.mono (by simp))⟩, Lib.hid ⟨?_, fun i hi => ⟨by rw [List.mem_singleton.1 hi]; exact Nat.le_refl _, by rw [List.mem_singleton.1 hi]; omega⟩⟩⟩
  rw [goneF_start]
  exact (FilR.none H0.out.2.2.2 A R).upd hg0u (by simp)
 case round =>
  obtain ⟨left, cnt, A2, R2, FL2, hrg, HS, HN⟩ := hrel
  go_wp2_with (first
   | (at_next; refine wpList_next_ranges _ rfl _ rfl 9 lawS opq Value.string (fun v : Value => v) (fun key kl hk => by obtain ⟨x, hx, -⟩ := keyS_inv hk; exact ⟨x, hx⟩) (fun v y hv => ⟨v, rfl⟩) mf (w.heap.size + 1) fs.length _ _ _ rfl hrg ?_ ?_)
   | fail)
  ·intro hc0 hl0
   go_wp2_with fail
   go_end0
   have hr := HN.out
   rw [goneF_end fs hl0] at hr
   exact ⟨rfl, w.heap.size, A2, R2, FL2, HS.out.1, hr.1, HS.out.2, fun i hi => (hr.2 i hi).1⟩
  ·intro x vx kl y1 y2 w1 cnt1 hkey hlk hv hat hrg1 hlt hg1 hs1 hen
   obtain ⟨x', hx', rfl, hxs⟩ := keyS_inv hkey
   simp only [Value.string.injEq] at hx'
   subst hx'
   simp only [opq, Option.some.injEq, Prod.mk.injEq] at hv
   obtain ⟨rfl, rfl⟩ := hv
   obtain ⟨f, hf, rfl⟩ := next_ents hat
   have hFw : FilR wr mf fs A R FM := HF.out.upd HS.out.2 fun i hi q => hvM (by rw [List.mem_singleton.1 q] at hi; exact hi)
   have hm0 : wr.rangeLeft mf (w.heap.size + 1) = cnt := hrg.left_eq
   have hu1 : Upd [(w.heap.size + 1)] wr w1 := ⟨hg1.os, hg1.output, hg1.size, fun k hk hn => hg1.block k hk (fun e => hn (by rw [← Option.some.inj e]; simp))⟩
   have hml := HF.out.lt
   have hF1 : FilR w1 mf fs A R FM := hFw.upd hu1 fun i hi q => by have := hml i hi; have := List.mem_singleton.1 q; omega
   have hG1 : FilR w1 w.heap.size (goneF fs left) A2 R2 FL2 := HN.out.1.upd hu1 fun i hi q => (HN.out.2 i hi).2 (List.mem_singleton.1 q)
   have hb1 : w1.heap[v]? = some (boxF j c q mf w.heap.size va dead) := (hu1.block v (lt_of_blk HS.out.1) (by simp; omega)).trans HS.out.1
   have d4 := cell_blk hb1 4
   simp only [List.getElem?_toArray, List.getElem?_cons_zero, List.getElem?_cons_succ] at d4
   have hnd := hF1.node _ (getA_mem hf)
   have hfo := hok.ok _ (getA_mem hf)
   have hrl : f.runs.length ≤ 1000000 := by
    have h64 : lenR f.runs ≤ 64 := by rw [hfo.len]; have := hfo.most; unfold blocksN; omega
    have := runs_few (canon_pos hfo.canon)
    simp only at this h64
    omega
   have hgl : (entsL (goneF fs left) A2).length < 1000000 := by
    have : (goneF fs left).length ≤ fs.length := List.length_filter_le ..
    have := hok.few
    simp [entsL]; omega
   have HCO := Lib.hid fun (X : World) (u : Upd [] w1 X) => icopy_ok X (hnd.upd u (by simp) (by simp)) hrl
   have HPU := Lib.hid fun (X : World) (u : Upd [] w1 X) (a : Nat) => MapS.put (hG1.upd u (by simp)).map (entsL_srt (goneF_srt hok.srt left) A2) hgl Tryz.underlying77 x hxs (.pointer (some ⟨a, 0, none⟩))
   have H1 := Lib.hid (And.intro hu1 (And.intro hb1 (And.intro hF1 hG1)))
   have hgf := Lib.hid hf
   have hsz1 : (w.heap.size + 1) < w1.heap.size := hrg1.lt
   clear hnd hfo hrl hgl hF1 hG1 hu1 hb1 hFw hg1 hf hkey hat hlk hrg
   go_wp2_with fail
   have hvB : v < w.heap.size := hvl
   go_region_held3 (fun X => X.cell? ⟨v, 4, none⟩ = some (.map (some w.heap.size)))
    (first
     | (with_reducible exact held1 (Upd.refl [] w1).drew d4)
     | (with_reducible exact held1 hv6 d4)
     | (exact (World.cell?_of_block (hgr.block v (by have := hv6.size; omega) (fun e => by have e2 := Option.some.inj e; omega))).trans (held1 hv6 d4)))
    (first
     | (go_at_call 104; (with_reducible refine (HCO.out _ ?_).mono ?_); (exact (Upd.refl [] w1).drew); rintro e w6 ⟨q6, rv6, rfl, hnd6, hq6, hu6⟩; have hv6 : Upd [] w1 w6 := (Upd.refl [] w1).drew.trans hu6; obtain ⟨w7, hput, hms, hgr⟩ := HPU.out w6 hv6 q6))
   go_wp2_with fail
   have hd : w1.drew.heap.size = w1.heap.size := rfl
   have hs6 := hv6.size
   have hu7 : Upd [w.heap.size] w6 w7 := by have := Upd.of_grown hgr; simpa using this
   have hu27 : Upd [w.heap.size] w1 w7 := (hv6.mono (by simp)).trans hu7
   obtain ⟨hu1, hb1, hF1, hG1⟩ := H1.out
   have hrlow : ∀ g, rv6.ownBlock = some g → w1.heap.size ≤ g := fun g hg => (hnd6.2.block g hg).1
   have hn7 : NodeR w7 0 q6 f.data.length rv6 f.runs := ⟨(hu7.block _ (lt_of_blk hnd6.1) (by simp; omega)).trans hnd6.1, (hnd6.2.upd hu7 fun jj hjj e => by have := hrlow jj e; have := List.mem_singleton.1 hjj; omega).base (Nat.zero_le _)⟩
   have hput7 := hG1.put (nm := x.data.toList) (f := f) (a := q6) (rv := rv6) (goneF_srt hok.srt left) hms hu27 hn7 (by omega) hrlow
   have hrg7 := ranges_upd hrg1 hu27 (by simp; intro e; have := hml mf HF.out.mem; omega) (by simp)
   go_roundw
   case rel =>
    refine ⟨_, cnt1, _, _, _, hrg7, Lib.hid ⟨(hu27.block v (lt_of_blk hb1) (by simp; omega)).trans hb1, (HS.out.2.next hu1 fun k hk hlt => by have := List.mem_singleton.1 hk; omega).next hu27 fun k hk hlt => by have := List.mem_singleton.1 hk; omega⟩, Lib.hid ⟨by rw [goneF_step hok.srt hgf.out]; exact hput7, fun i hi => ?_⟩⟩
    simp only [List.mem_cons, List.mem_append, Option.mem_toList] at hi
    rcases hi with rfl | hi | hi
    ·omega
    ·have := hrlow i hi; omega
    ·exact HN.out.2 i hi
   case measure => rw [hrg7.left_eq, hm0]; exact hlt
end Go.Proofs.YteepgehjkcahiaaGreat
