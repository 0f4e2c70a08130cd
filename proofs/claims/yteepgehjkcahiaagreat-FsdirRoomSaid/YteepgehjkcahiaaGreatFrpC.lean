/- What files give back is free again: the walk of FsdirRoom. Closing a row: a law that returned true and turned no block that was there meets its row's post. FsdirRoom returns true, whatever the sizes are, in whatever memory, and leaves all that was there as it was. No condition. -/
import Derived.WideKeyArgs
import Derived.Test.YteepgehjkcahiaaGreatC35
import Derived.Test.YteepgehjkcahiaaGreatRows
namespace Go.Proofs.YteepgehjkcahiaaGreat
open Go.RowKit Go.Maps

theorem pick_ok (c n : Int) (w : World) (h1 : -9223372036854775808 ≤ c) (h2 : c ≤ 9223372036854775807) (h3 : 1 ≤ n) (h4 : n ≤ 1000000) :
    Calls Tryz.prog 14 #[.int .i64 c, .int .i64 n] w fun e w' => (∃ r : Int, e = .returned (.int .i64 r) ∧ 0 ≤ r ∧ r < n) ∧ w = w' := by
  have HE : Hid (∀ r : Int, 0 ≤ r → 0 ≤ r % n ∧ r % n < n) := Lib.hid (fun r hr => ⟨Int.emod_nonneg _ (by omega), Int.emod_lt_of_pos _ (by omega)⟩)
  have HT : Hid (c < 0 → 0 ≤ -((c + 1).tmod n) ∧ -((c + 1).tmod n) < n) := Lib.hid (fun h => by
    have e : -((c + 1).tmod n) = (-(c + 1)) % n := by rw [← Int.neg_tmod, Int.tmod_eq_emod_of_nonneg (by omega)]
    rw [e]; exact HE.out _ (by omega))
  by_cases h : c < 0
  · have hz : (n == 0) = false := by simp; omega
    go_enter Tryz.func14, Tryz.ntmps14
    go_wp2
    go_ret
    exact ⟨⟨-((c + 1).tmod n), rfl, HT.out h⟩, rfl⟩
  · have hz : (n == 0) = false := by simp; omega
    go_enter Tryz.func14, Tryz.ntmps14
    go_wp2
    go_ret
    exact ⟨⟨_, rfl, HE.out _ (by omega)⟩, rfl⟩

def nmX : Bs := [120]
theorem one_create : codeC false [] nmX = 0 ∧ crtF [] nmX = [(nmX, emptyF)] := by
  have hcc : codeC false [] nmX = 0 := by decide
  exact ⟨hcc, by unfold crtF; rw [if_pos hcc]; rfl⟩
theorem free_one {l : Nat → Cell} {room k s : Nat} {nm : Bs} {g : Fil} (h : FsInv l room k s [(nm, g)] []) : freeN room [(nm, g)] [] + blocksN g.data.length = room := by
  have := h.count0
  rwa [one_blks h.now] at this
theorem code_one {l : Nat → Cell} {room k s : Nat} {nm : Bs} (h : FsInv l room k s [(nm, emptyF)] []) {n : Nat} (hn : n ≤ 32768) (hr : blocksN n ≤ room) : codeP room [(nm, emptyF)] [] nm n = 0 := by
  have hf := free_one h
  have e0 : blocksN emptyF.data.length = 0 := by simp [emptyF, blocksN]
  rw [e0] at hf
  unfold codeP
  rw [getA_one]
  dsimp only
  rw [if_neg (by simp [emptyF]; omega), if_neg]
  have e1 : emptyF.data.length + n = n := by simp [emptyF]
  unfold needN
  rw [e0, e1]
  omega
theorem app_one (room : Nat) (nm d : Bs) : appF room [(nm, emptyF)] [] nm d = [(nm, growF room [(nm, emptyF)] [] emptyF d)] ∧ (growF room [(nm, emptyF)] [] emptyF d).data = d := by
  refine ⟨?_, by show emptyF.data ++ d = d; simp [emptyF]⟩
  unfold appF
  rw [getA_one]
  exact put_one _ _ _
theorem del_one (nm : Bs) (g : Fil) : delA [(nm, g)] nm = [] := by simp [delA]

set_option maxRecDepth 100000 in
set_option maxHeartbeats 8000000 in
theorem fsroom_walk (w : World) (sa : Option Addr) (sl sc : Nat) (zs : List Int) (hc : ∀ j, j < sl → ∃ b off, sa = some ⟨b, off, none⟩ ∧ w.cell? ⟨b, off + j, none⟩ = some (.int .i64 (zs.getD j 0))) (hz : ∀ j, j < sl → -9223372036854775808 ≤ zs.getD j 0 ∧ zs.getD j 0 ≤ 9223372036854775807) (_hl : sl ≤ 9223372036854775807) :
    Calls Tryz.prog 3 #[.slice sa sl sc] w fun r w' => r = .returned (.bool true) ∧ Upd [] w w' := by
  have HA := Lib.hid (awake_ok w)
  have HL := Lib.hid fun X : World => laidD_ok X 64 (by omega) (by omega)
  have HC := Lib.hid hc
  have HZ := Lib.hid hz
  have hnm : (⟨#[120]⟩ : ByteArray).data.toList = nmX := rfl
  have hnl : (⟨#[120]⟩ : ByteArray).size ≤ maxLen := by unfold maxLen; decide
  clear hc hz
  go_enter Tryz.func3, Tryz.ntmps3
  go_wp2_with fail
  refine HA.out.mono ?_
  rintro r w1 ⟨rfl, hu1⟩
  have HU1 := Lib.hid hu1
  clear hu1
  go_wp2_with fail
  refine (HL.out _).mono ?_
  rintro r w2 ⟨p, v, s, D, X, rfl, hat, hfu, hwr, hu, hlow⟩
  have hst : LSt w w2 v p D 28 3 s [] [] X := ⟨hat, hfu, HU1.out.trans hu, fun i hi => by have := hlow i hi; have := HU1.out.size; omega⟩
  have H2 := Lib.hid hst
  clear hat hfu hu hlow hst HL HA
  go_wp2_with fail
  go_loopg [6] 12 (fun gh v6 wr => ∃ (i k s : Nat) (D : Dev) (X : Fsd), v6 = .int .i64 i ∧ i ≤ 12 ∧ gh = 12 - i ∧ Hid (LSt w wr v p D 28 k s [] [] X ∧ k ≤ 3 + 2 * i ∧ D.wr ≤ 10000 + 50000 * i))
  case atStart => exact ⟨0, 3, s, D, X, rfl, by omega, rfl, Lib.hid ⟨H2.out, by omega, by omega⟩⟩
  case round =>
    obtain ⟨i, k, s, D, X, rfl, hi, rfl, HS⟩ := hrel
    by_cases his : i < sl
    · have his' : (i : Int) < (sl : Int) := by omega
      by_cases hi12 : i < 12
      · have hi12' : (i : Int) < 12 := by omega
        obtain ⟨b, off, rfl, d0⟩ := HC.out i his
        have d1 := held1 HS.out.1.upd d0
        obtain ⟨hz1, hz2⟩ := HZ.out i his
        have HP := Lib.hid fun X : World => pick_ok (zs.getD i 0) 14337 X hz1 hz2 (by omega) (by omega)
        have HCr := Lib.hid (Lcreate HS.out.1.at_ ⟨#[120]⟩ hnl)
        rw [hnm, one_create.1, one_create.2] at HCr
        clear d0 hz1 hz2
        go_wp2_with fail
        refine (HP.out _).mono ?_
        rintro r w3 ⟨⟨nn, rfl, hn0, hn1⟩, rfl⟩
        obtain ⟨n, rfl⟩ : ∃ n : Nat, nn = n := ⟨nn.toNat, by omega⟩
        have hn : n ≤ 14336 := by omega
        clear hn0 hn1 HP
        have hbn : blocksN n ≤ 28 := by unfold blocksN; omega
        have hwr0 : D.wr ≤ 700000 := by have := HS.out.2.2; omega
        go_wp2_with fail
        refine HCr.out.mono ?_
        rintro r w4 ⟨rfl, hn4⟩
        obtain ⟨X4, hst4⟩ := HS.out.1.step hn4 HS.out.1.fuse
        have HAp := Lib.hid fun (Y : World) (u : Upd [] w4 Y) (dv : Value) (hd : Rd Y dv (List.replicate n 0)) (hdo : ∀ g, dv.ownBlock = some g → g ∉ X4.fp v ∧ g < Y.heap.size) => fappend_ok Y (hst4.keep u).at_ (by omega) ⟨#[120]⟩ hnl hd hdo (by simp; omega)
        have hcp := code_one hst4.at_.inv (n := n) (by omega) hbn
        have hap := app_one 28 nmX (List.replicate n 0)
        have hmade : Rd (w4.alloc (.cells (flatG c8 (List.replicate n 0)).toArray 5)) (.slice (some ⟨w4.heap.size, 0, none⟩) n n) (List.replicate n 0) := Ow.rd (Ow.made (w := w4) (base := 0) (n := n) (l := List.replicate n 0) (Nat.zero_le _) (by omega) rfl)
        have hgd : (growF 28 [(nmX, emptyF)] [] emptyF (List.replicate n 0)).data.length = n := by rw [hap.2]; simp
        have hap1 := hap.1
        clear hap
        generalize growF 28 [(nmX, emptyF)] [] emptyF (List.replicate n 0) = g at *
        have H4 := Lib.hid (And.intro hst4 (And.intro hcp (And.intro hap1 (And.intro hgd (And.intro hmade hst4.at_.lt)))))
        clear hst4 hcp hap1 hgd hmade hn4 HCr
        go_wp2_with (first | (refine wpList_make_8 rfl _ _ rfl n (by omega) (l := List.replicate n 0) rfl rfl rfl rfl ?_) | fail)
        have hua : Upd [] w4 (w4.alloc (.cells (flatG c8 (List.replicate n 0)).toArray 5)) := (Upd.refl [] w4).alloc _
        refine (HAp.out _ hua _ H4.out.2.2.2.2.1 (fun gg hgg => ?_)).mono ?_
        · simp only [Value.ownBlock, Option.some.injEq] at hgg
          subst hgg
          exact ⟨fun q => by have := H4.out.2.2.2.2.2 _ q; omega, by simp⟩
        have hst4a := H4.out.1.keep hua
        generalize hw4a : (w4.alloc (.cells (flatG c8 (List.replicate n 0)).toArray 5)) = w4a at *
        clear hw4a
        rintro r w5 ⟨e, D5, rfl, hR5, hok5, -⟩
        obtain ⟨rfl, hfu5, -⟩ := hR5.ok H4.out.1.fuse H4.out.1.at_.up
        have hn5 := hok5 rfl
        have hlen : (List.replicate n (0 : UInt8)).length = n := by simp
        rw [hnm, hlen, H4.out.2.1, if_pos rfl, H4.out.2.2.1] at hn5
        obtain ⟨X5, hst5⟩ := hst4a.step hn5 hfu5
        rw [if_pos rfl, hnm, hlen, H4.out.2.1]
        have hgd := H4.out.2.2.2.1
        have hfr5 := free_one hst5.at_.inv
        rw [hgd] at hfr5
        have hw5 := hR5.wr
        have HFr := Lib.hid (Lfree hst5.at_)
        have H5 := Lib.hid hst5
        have HGD := Lib.hid hgd
        clear hst5 hn5 hok5 hR5 HAp H4 hst4a hua hlen hgd
        go_wp2_with fail
        refine HFr.out.mono ?_
        rintro r w6 ⟨rfl, hn6⟩
        obtain ⟨X6, hst6⟩ := H5.out.step hn6 hfu5
        obtain ⟨m, hm⟩ : ∃ m, m = blocksN n := ⟨_, rfl⟩
        rw [← hm] at hfr5 hbn
        have hfm : freeN 28 [(nmX, g)] [] = 28 - m := by omega
        rw [hfm]
        have hq : ((n : Int) + 511).tdiv 512 = (m : Int) := by
          rw [Int.tdiv_eq_ediv_of_nonneg (by omega), hm]
          unfold blocksN
          omega
        have hqe : ((n : Int) + 511) / 512 = (m : Int) := by rw [hm]; unfold blocksN; omega
        have hsb : IntKind.i64.wrap (28 - (m : Int)) = ((28 - m : Nat) : Int) := by rw [IntWalk.i64_in _ (by omega)]; omega
        have hsb2 : (28 : Int) - (m : Int) = ((28 - m : Nat) : Int) := by omega
        have H6 := Lib.hid hst6
        clear hst6 hn6 HFr H5 hfm hm hfr5
        have hk0 := HS.out.2.1
        by_cases hev : i % 2 = 0
        case' pos =>
          have hev' : (i : Int).tmod 2 = 0 := by rw [Int.tmod_eq_emod_of_nonneg (by omega)]; omega
          have HSy := Lib.hid (fsync_ok w6 H6.out.at_ (by omega) (by omega))
          go_wp2_with fail
          refine HSy.out.mono ?_
          rintro r W7 ⟨e, D7, rfl, hR7, hok7, -⟩
          obtain ⟨rfl, hfu7, -⟩ := hR7.ok hfu5 H6.out.at_.up
          obtain ⟨X7, hst7⟩ := H6.out.step (hok7 rfl) hfu7
          have hw7 : D7.wr ≤ D.wr + 40064 := by have := hR7.wr; omega
          obtain ⟨k7, hk7⟩ : ∃ k7, k7 = k + 1 := ⟨_, rfl⟩
          rw [← hk7] at hst7
          have hk7 : k7 ≤ k + 1 := by omega
          obtain ⟨s7, hs7⟩ : ∃ s7, s7 = 1 - s := ⟨_, rfl⟩
          rw [← hs7] at hst7
          obtain ⟨L7, hL7⟩ : ∃ L7, L7 = [(nmX, g)] := ⟨_, rfl⟩
          have hst7' : LSt w W7 v p D7 28 k7 s7 [(nmX, g)] L7 X7 := by rw [hL7]; exact hst7
          have H7 := Lib.hid hst7'
          clear hst7 hst7' hs7 hL7 hok7 hR7 HSy H6
        case' neg =>
          have hev' : ¬ (i : Int).tmod 2 = 0 := by rw [Int.tmod_eq_emod_of_nonneg (by omega)]; omega
          obtain ⟨W7, hW7⟩ : ∃ W7, W7 = w6 := ⟨_, rfl⟩
          obtain ⟨D7, hD7⟩ : ∃ D7, D7 = D5 := ⟨_, rfl⟩
          obtain ⟨k7, hk7⟩ : ∃ k7, k7 = k := ⟨_, rfl⟩
          obtain ⟨s7, hs7⟩ : ∃ s7, s7 = s := ⟨_, rfl⟩
          obtain ⟨L7, hL7⟩ : ∃ L7, L7 = ([] : Files) := ⟨_, rfl⟩
          obtain ⟨X7, hX7⟩ : ∃ X7, X7 = X6 := ⟨_, rfl⟩
          have hst7' : LSt w W7 v p D7 28 k7 s7 [(nmX, g)] L7 X7 := by rw [hW7, hD7, hk7, hs7, hL7, hX7]; exact H6.out
          have H7 := Lib.hid hst7'
          have hw7 : D7.wr ≤ D.wr + 40064 := by rw [hD7]; omega
          have hk7 : k7 ≤ k + 1 := by omega
          rw [← hW7]
          clear hst7' hs7 hL7 hD7 hX7 hW7 H6
        all_goals
          have HR := Lib.hid (Lremove H7.out.at_ (by omega) ⟨#[120]⟩ hnl)
          have hcr : codeF false [(nmX, g)] nmX = 0 := by unfold codeF; rw [getA_one]; rfl
          rw [hnm, hcr, del_one] at HR
          go_wp2_with fail
          refine HR.out.mono ?_
          rintro r w8 ⟨rfl, hn8⟩
          obtain ⟨X8, hst8⟩ := H7.out.step hn8 H7.out.fuse
          have HS8 := Lib.hid (fsync_ok w8 hst8.at_ (by omega) (by omega))
          have H8 := Lib.hid hst8
          clear hst8 hn8 HR
          go_wp2_with fail
          refine HS8.out.mono ?_
          rintro r w9 ⟨e, D9, rfl, hR9, hok9, -⟩
          obtain ⟨rfl, hfu9, -⟩ := hR9.ok H7.out.fuse H8.out.at_.up
          obtain ⟨X9, hst9⟩ := H8.out.step (hok9 rfl) hfu9
          have hw9 : D9.wr ≤ D.wr + 40200 := by have := hR9.wr; omega
          have hf9 : freeN 28 [] [] = 28 := by have := hst9.at_.inv.count0; simpa [allBlks] using this
          have HF9 := Lib.hid (Lfree hst9.at_)
          rw [hf9] at HF9
          have H9 := Lib.hid hst9
          clear hst9 hok9 hR9 HS8 H8
          go_wp2_with fail
          refine HF9.out.mono ?_
          rintro r w10 ⟨rfl, hn10⟩
          obtain ⟨X10, hst10⟩ := H9.out.step hn10 hfu9
          have H10 := Lib.hid hst10
          clear hst10 hn10 HF9
          go_wp2_with fail
          go_roundg (12 - (i + 1))
          case measure => omega
          case rel => exact ⟨i + 1, k7 + 1, 1 - s7, D9, X10, by go_num, by omega, rfl, Lib.hid ⟨H10.out, by omega, by have := HS.out.2.2; omega⟩⟩
      · have hi12' : ¬ (i : Int) < 12 := by omega
        have HU := Lib.hid HS.out.1.upd
        go_wp2_with fail
        go_ret
        exact ⟨rfl, HU.out⟩
    · have his' : ¬ (i : Int) < (sl : Int) := by omega
      have HU := Lib.hid HS.out.1.upd
      go_wp2_with fail
      go_ret
      exact ⟨rfl, HU.out⟩
end Go.Proofs.YteepgehjkcahiaaGreat

namespace Go.Proofs.YteepgehjkcahiaaGreat
open Go.RowKit Go.ChangeShapes Go.WideShapes Go.ChangeAt

theorem Upd.frame {w w' : World} (h : Upd [] w w') (may : MemPlace → Prop) : w.keptBut w' may := by
  refine ⟨h.os, h.output, fun i hi => ?_⟩
  rw [h.block i hi (by simp)]
  split <;> simp_all

theorem Upd.same {w w' : World} (h : Upd [] w w') {p : MemPlace} (hp : p.block < w.heap.size) : w.sameAt w' p := by
  cases p with
  | cell b o => exact World.cell?_of_block (w := w) (h.block b hp (by simp))
  | map b => exact h.block b hp (by simp)

section
variable {H : Type} {enc : TypeId × Value → H} {P : Program}

theorem trodAll_stays (hl : laidOutB P = true) {W W' : World} (hu : Upd [] W W') : ∀ (ts : List TypeId) (vs : List Value) (ds : List (DataW H)) (ps : List MemPlace), (∀ t ∈ ts, P.readableRec t = true ∧ t < P.types.size) →
    DataW.TrodAll enc P W 0 (fun _ => true) true ts vs ds ps → (∀ p ∈ ps, p.block < W.heap.size) → DataW.TrodAll enc P W' 0 (fun b => decide (b < W.heap.size)) true ts vs ds ps := by
  intro ts
  induction ts with
  | nil => intro vs ds ps _ h _; cases vs <;> cases ds <;> exact h
  | cons t ts ih =>
    intro vs ds ps ht h hp
    cases vs with
    | nil => exact h.elim
    | cons v vs =>
      cases ds with
      | nil => exact h.elim
      | cons d ds =>
        obtain ⟨p, q, h1, h2, rfl⟩ := h
        have ht' := ht t (by simp)
        exact ⟨p, q, WideElems.Trod_stays hl ht'.1 ht'.2 h1 (fun x hx => hu.same (hp x (by simp [hx]))) (fun x hx => by simpa using hp x (by simp [hx])),
          ih vs ds q (fun t h => ht t (by simp [h])) h2 (fun x hx => hp x (by simp [hx])), rfl⟩

/-- THE ROW's POST of a law without variables: it returned 'true', nothing old has turned. -/
theorem post_true {f : Func} {s : ChangeSpec} {B : TypeId} (hv : s.vars = []) (hl : laidOutB P = true) (hts : ∀ t ∈ f.params.toList, P.readableRec t = true ∧ t < P.types.size) (hr : f.resultTypes = #[B]) (hB : P.underlying B = some .bool)
    {W W' : World} {args : Array Value} {ds gs : List (DataW H)} {before : List MemPlace} (hW : DataW.Whole enc P f.params.toList s.vars false W args.toList ds gs before) (hu : Upd [] W W')
    (hs : s.fn H (ds ++ []) = { results := [.lit (.bool true)], args := ds }) : s.post enc P f false true false false W args (.bool true) W' := by
  have hlt := hW.lt
  have hW0 := hW
  obtain ⟨p, q, h1, h2, rfl, h3, h4⟩ := hW
  rw [hv] at h2
  obtain ⟨rfl, rfl⟩ := trodVars_none h2
  refine ⟨ds, [], p ++ [], [], p, [], hW0, ?_, ?_, ?_, hu.frame _, fun h => by cases h⟩
  · rw [hs, hr]
    exact trodAll_cons_mk (shut_bool hB _) trodAll_mk0
  · rw [hs]
    exact trodAll_stays hl hu _ _ _ _ hts h1 (fun x hx => hlt x (by simp [hx]))
  · rw [hs, hv]; exact rfl
end
end Go.Proofs.YteepgehjkcahiaaGreat

namespace Go.Proofs.YteepgehjkcahiaaGreat
namespace fsdirRoom
open Go.ChangeShapes Go.WideShapes Go.ChangeAt Go.RowKit
theorem laidOut : laidOutB Tryz.prog = true := by kernel_rfl
theorem own : ownKnob Tryz.prog.godebug = none := by kernel_rfl
theorem cellsI : Tryz.prog.cellsOf 3 = 1 := by kernel_rfl

set_option maxRecDepth 100000 in
theorem lifted (os : Os) (started : os.Started) (H : Type) (enc : TypeId × Value → H) :
    ReturnsInHanded {} Tryz.checked os 3 .any (Rows.fsdirRoomSpec.pre6 enc Tryz.prog Tryz.f3 Rows.fsdirRoomRow.domain false) (Rows.fsdirRoomSpec.post enc Tryz.prog Tryz.f3 false true false false) := by
  refine returnsInHanded_of_change (C := Tryz.checked) own started (by kernel_rfl) Tryz.func3
    (ChangeSpec.witness6 (enc := enc) (C := Tryz.checked) false ⟨#[], #[.slice none 0 0], []⟩ 8 (by kernel_rfl) (by kernel_rfl) (by kernel_rfl) (by kernel_rfl)) ?_
  intro W base args ds gs before hval0 hW hcnd _
  have hval : ∀ (j : Nat) t v, Tryz.f3.params[j]? = some t → args[j]? = some v → Value.okWide Tryz.prog W .any base t v := hval0
  have hW' := hW
  obtain ⟨p, q, hA0, hV, rfl, hfz, hnd⟩ := hW
  have hA : DataW.TrodAll enc Tryz.prog W 0 (fun _ => true) true Tryz.f3.params.toList args.toList ds p := hA0
  rw [Tryz.params3] at hA hval
  obtain ⟨v1, vs1, d1, ds1, p1, q1, hargs, rfl, rfl, h1, r1⟩ := trodAll_cons hA
  obtain ⟨rfl, rfl, rfl⟩ := trodAll_nil r1
  obtain rfl : args = #[v1] := by cases args; simp_all
  obtain ⟨sa, sl, sc, rfl⟩ := okWide_slice Tryz.underlying22 (hval 0 22 v1 rfl rfl)
  obtain ⟨fuel, hf⟩ := h1
  have hex : ∃ zs : List Int, (∀ j, j < sl → ∃ b off, sa = some ⟨b, off, none⟩ ∧ W.cell? ⟨b, off + j, none⟩ = some (.int .i64 (zs.getD j 0))) ∧ (∀ j, j < sl → -9223372036854775808 ≤ zs.getD j 0 ∧ zs.getD j 0 ≤ 9223372036854775807) ∧ sl ≤ 9223372036854775807 := by
    rcases open_ints Tryz.underlying22 Tryz.underlying3 cellsI hf with ⟨hcs, hx⟩ | ⟨a, len, cap, zs, hcs, _, hl, hm, hz, hx, hcell, hwf⟩
    · simp [Value.cells] at hcs
      obtain ⟨-, rfl, -⟩ := hcs
      exact ⟨[], fun j hj => absurd hj (by omega), fun j hj => absurd hj (by omega), by omega⟩
    · simp [Value.cells] at hcs
      obtain ⟨rfl, rfl, rfl⟩ := hcs
      unfold maxLen at hm
      simp at hz
      refine ⟨zs, fun j hj => ?_, fun j hj => ?_, by omega⟩
      · obtain ⟨b, off, rfl, hc⟩ := ints_at hcell (by omega)
        exact ⟨b, off, rfl, hc j (by omega)⟩
      · have hjz : j < zs.length := by omega
        have e : zs.getD j 0 = zs[j] := by rw [List.getD_eq_getElem?_getD, List.getElem?_eq_getElem hjz]; rfl
        rw [e]
        exact bounds_i64 (hwf _ (List.getElem_mem hjz))
  obtain ⟨zs, hc, hz, hl⟩ := hex
  refine (fsroom_walk W sa sl sc zs hc hz hl).mono fun e W' ⟨he, hu⟩ => ?_
  subst he
  exact ⟨_, rfl, post_true (B := 4) rfl laidOut (by rw [Tryz.params3]; decide +kernel) rfl Tryz.underlying4 hW' hu rfl⟩

theorem over : Rows.fsdirRoomRow.holds Tryz.pinned (OpenSpec.ofChange Rows.fsdirRoomSpec) :=
  OpenClaim.holds_of_wide 3 Tryz.f3 rfl rfl rfl rfl rfl rfl rfl ⟨rfl, rfl, rfl, rfl, rfl⟩ rfl rfl rfl rfl rfl (by kernel_rfl) Tryz.func3 (by kernel_rfl)
    (of_decide_eq_true (by kernel_rfl)) (by unfold Func.isWrapper; first | (rw [if_pos (by decide +kernel)]; kernel_rfl) | (rw [if_neg (by decide +kernel)]; exact ⟨rfl, rfl⟩))
    (fun os started H enc _ => lifted os started H enc)

theorem proved : Rows.FsdirRoomSaid := over
#print axioms proved
end fsdirRoom
end Go.Proofs.YteepgehjkcahiaaGreat
