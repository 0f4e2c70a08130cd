/- append(b, make([]byte, n)...), for bytes of the call's own. The record that is replaced whole: lay, Format. The record's Format. Slices of bytes, cut. -/
import Derived.Lib.AppendZerosOnto
import Derived.Test.YtgpefiacbipfpaaGreatDoorC06
namespace Go.Proofs.YtgpefiacbipfpaaGreatDoor
open Go.RowKit Go.Maps
theorem zeros8 (k : Nat) : (Builtin.zeroCells (Value.int .u8 0).cells k).toList = flatG c8 (List.replicate k 0) := by
 rw [flat8, List.map_replicate]
 apply List.ext_getElem
 ·simp [Builtin.zeroCells]
  show k * 1 = k
  omega
 ·intro i h1 h2
  simp [Builtin.zeroCells, Value.cells]
  rw [Nat.mod_one]
  rfl
theorem append_zeros8 {w : World} {base : Nat} {v : Value} {l : Bs} (hown : Ow w base v l) (h0 : l ≠ []) (k : Nat) (hk : l.length + k ≤ 1000000) (hbase : base ≤ w.heap.size) (ty : TypeId) :
  ∃ v' w', (Builtin.append_ #[23, 3] ty #[v, .int .i64 k]).run Tryz.prog w = .ok v' w' ∧ Ow w' base v' (l ++ List.replicate k 0) ∧ w.grownBy w' v.ownBlock ∧ (v'.ownBlock = v.ownBlock ∨ ∀ g, v'.ownBlock = some g → w.heap.size ≤ g) := by
 obtain ⟨i0, z, hi0, hz0, hz1, hz2, hz3⟩ := T8.info
 obtain ⟨i1, h1, h2, h3, h4⟩ := info_parts (show (Tryz.prog.info? 5).map (fun i => (i.zero, i.size, i.bytes)) = some (some (.int .u8 0), 1, 1) by kernel_rfl)
 rw [h1] at hi0
 cases hi0
 rw [h2] at hz0
 cases hz0
 have hpos := List.length_pos_iff.2 h0
 have hlen : (flatG c8 l).length = l.length := by rw [flatG_len T8]; omega
 have hzl : (flatG c8 (List.replicate k 0)).length = k := by rw [flatG_len T8]; simp
 have hw : IntKind.i64.wrap (k : Int) = k := by rw [IntKind.wrap_i64]; omega
 have hneg : ¬ ((k : Int) < 0) := by omega
 have htn := Tryz.underlying3
 rcases hown.2 with ⟨rfl, hn⟩ | ⟨g, cap, cur, rfl, hbg, hg, hnc, hcm, hcs, htake⟩
 ·omega
 ·by_cases hroom : l.length + k ≤ cap
  ·have hfit : l.length + k ≤ cur.size := by rw [hcs]; omega
   have hst := run_storeCells_at Tryz.prog g l.length 5 (flatG c8 (List.replicate k 0)) 0 cur w hg (by rw [hzl]; omega) (flatG_one (one8 _))
   simp only [Nat.add_zero] at hst
   have h48 : ¬ (281474976710656 < (k : Int)) := by omega
   have hr : (Builtin.append_ #[23, 3] ty #[.slice (some ⟨g, 0, none⟩) l.length cap, .int .i64 k]).run Tryz.prog w = .ok (.slice (some ⟨g, 0, none⟩) (l.length + k) cap) (w.setRow g (cur.toList.take l.length ++ flatG c8 (List.replicate k 0) ++ cur.toList.drop (l.length + (flatG c8 (List.replicate k 0)).length)).toArray) := by
    rcases Nat.eq_zero_or_pos k with hk0 | hk0
    ·subst hk0
     simp only [List.replicate_zero, flatG, List.flatMap_nil] at hst ⊢
     simp [Builtin.append_, run_underlying T8.und, run_underlying htn, sizeOf, typeInfo, h1, h3, h4, asInt, asIntOf, hw, Nat.add_zero] at *
     simp [hnc, Addr.add_lit, hst]
    ·have hk1 : ¬ (k = 0) := by omega
     simp [Builtin.append_, run_underlying T8.und, run_underlying htn, sizeOf, typeInfo, zeroValue, h1, h2, h3, h4, asInt, asIntOf, hw, hneg, h48, hk1, hroom, Addr.add_lit, zeros8, hst]
   refine ⟨_, _, hr, ⟨by rw [flatG_len T8], .inr ⟨g, cap, _, by simp, hbg, setRow_heap w g cur _ _ _ hg, by simpa using hroom, hcm, ?_, ?_⟩⟩, ⟨rfl, rfl, rfl, by simp, fun j _ hj => setRow_other w g j _ (fun e => hj (by simp [Value.ownBlock, e]))⟩, .inl rfl⟩
   ·simp only [List.size_toArray, List.length_append, List.length_take, List.length_drop, Array.length_toList, hzl, hcs]
    omega
   ·have e : cur.toList.take l.length = flatG c8 l := by have := htake; rwa [Nat.mul_one] at this
    rw [flatG_app, e]
    have : (l ++ List.replicate k 0).length * 1 = (flatG c8 l ++ flatG c8 (List.replicate k 0)).length := by simp [hlen, hzl]
    rw [this]
    exact List.take_left
  ·have hr := Go.Lib.run_append_grow_zeros (P := Tryz.prog) w 23 3 ty 5 i0 (.int .u8 0) .i64 .i64 T8.und htn h1 h2 (some ⟨g, 0, none⟩) l.length cap (flatG c8 l) ?_ k (by omega) (by omega) (by omega) (by omega) (by rw [h4]; omega) (growslice_fits (by omega) (by rw [h4]; omega))
   ·have hge := grownCap_ge w (l.length + k) cap 5
    have hcm2 : grownCap w (l.length + k) cap 5 ≤ maxLen := grownCap_le_maxLen w (l.length + k) cap 5 (by unfold maxLen; omega)
    refine ⟨_, _, hr, ⟨by rw [flatG_len T8], .inr ⟨w.heap.size, _, _, by simp, hbase, heap_alloc_new w.drew _, by simpa using hge, hcm2, ?_, ?_⟩⟩, ⟨rfl, rfl, rfl, by simp, fun j hj _ => by rw [heap_alloc, if_neg (show ¬ j = w.drew.heap.size from Nat.ne_of_lt hj)]; rfl⟩, .inr fun g' hg' => by cases hg'; exact Nat.le_refl _⟩
    ·simp only [Array.size_append, List.size_toArray, size_zeroCells, hlen]
     simp [Value.cells]
     omega
    ·simp only [Array.toList_append, List.append_assoc, zeros8]
     rw [flatG_app, ← List.append_assoc]
     have : (l ++ List.replicate k 0).length * 1 = (flatG c8 l ++ flatG c8 (List.replicate k 0)).length := by simp [hlen, hzl]
     rw [this]
     exact List.take_left
   ·have hc := hown.cells (g := g) rfl
    exact run_firstCells_some (P := Tryz.prog) w.drew i0.size l.length ⟨g, 0, none⟩ l.length cap (flatG c8 l) (by rw [hlen, h3]; omega) hc
theorem wpList_append_zeros {w : World} {ops : Array Oper} {rest : List Oper} {o : Oper} {a : Act} {Q : Exit → Act → World → Prop} (hgd : o.guard = none) (s x : Operand)
  (ho : o.op = .call { callee := .builtin .append, args := #[s, x], argTypes := #[23, 3] }) {base : Nat} {v : Value} {l : Bs} (hs : a.eval s = v) (hown : Ow w base v l) (h0 : l ≠ []) {k : Nat}
  (hx : a.eval x = .int .i64 k) (hk : l.length + k ≤ 1000000) (hbase : base ≤ w.heap.size)
  (h : ∀ v' w', Ow w' base v' (l ++ List.replicate k 0) → w.grownBy w' v.ownBlock → (v'.ownBlock = v.ownBlock ∨ ∀ g, v'.ownBlock = some g → w.heap.size ≤ g) → wpList Tryz.prog ops Q rest (a.put o.dst v') w') : wpList Tryz.prog ops Q (o :: rest) a w := by
 obtain ⟨v', w', hrun, h2, h3, h4⟩ := append_zeros8 hown h0 k hk hbase o.type
 exact Go.Lib.wpList_append_run w hgd s x _ _ ho _ _ hs hx v' w' hrun (h v' w' h2 h3 h4)
end Go.Proofs.YtgpefiacbipfpaaGreatDoor

namespace Go.Proofs.YtgpefiacbipfpaaGreatDoor
open Go.RowKit Go.Maps
theorem DevAt.lt {w : World} {p : Nat} {D : Dev} {F : List Nat} (h : DevAt w p D F) : ∀ k ∈ F, k < w.heap.size := by
 obtain ⟨sb, mb, L, ops, h, rfl⟩ := h
 intro k hk
 simp only [footD, List.mem_cons, List.mem_map] at hk
 rcases hk with e | e | e | ⟨x, hx, e⟩
 ·rw [e]; exact lt_of_blk h.box
 ·rw [e]; exact lt_of_blk h.safe
 ·rw [e]; exact World.ownsMap.lt h.map
 ·obtain ⟨h1, h2, -⟩ := h.row x hx
  obtain ⟨g, c, hv, -⟩ := h1.lastK h2
  have hb : x.2.ownBlock = some g := by rw [hv]; rfl
  rw [← e]
  simp only [blkOfV, hb, Option.getD_some]
  exact (h1.block g hb).2
theorem DevAt.p_mem {w : World} {p : Nat} {D : Dev} {F : List Nat} (h : DevAt w p D F) : p ∈ F := by
 obtain ⟨sb, mb, L, ops, -, rfl⟩ := h
 simp [footD]
theorem DevAt.sized {w : World} {p : Nat} {D : Dev} {F : List Nat} (h : DevAt w p D F) : Sized D.blk := by
 obtain ⟨sb, mb, L, ops, h, -⟩ := h
 exact h.sized
theorem DevAt.bounds {w : World} {p : Nat} {D : Dev} {F : List Nat} (h : DevAt w p D F) : 64 ≤ D.n ∧ D.n ≤ 512 := by
 obtain ⟨sb, mb, L, ops, h, -⟩ := h
 exact ⟨h.n1, h.n2⟩
theorem WritePost.seq {w w1 w2 : World} {p : Nat} {D D1 : Dev} {F F1 : List Nat} {a b : List DOp} {r : Ending} (hE : Eff a D 0 D1) (hU : Upd F w w1) (hF : ∀ k ∈ F1, k ∈ F ∨ w.heap.size ≤ k) (h : WritePost w1 p D1 F1 b r w2) : WritePost w p D F (a ++ b) r w2 := by
 obtain ⟨e, D2, F2, rfl, hE2, hD2, hU2, hF2⟩ := h
 refine ⟨e, D2, F2, rfl, hE.next hE2, hD2, hU.next hU2 fun k hk hlt => ?_, fun k hk => ?_⟩
 ·rcases hF k hk with q | q
  ·exact q
  ·omega
 ·rcases hF2 k hk with q | q
  ·exact hF k q
  ·exact .inr (Nat.le_trans hU.size q)
theorem WritePost.stop {w w1 : World} {p : Nat} {D D1 : Dev} {F F1 : List Nat} {a : List DOp} {e : Nat} (b : List DOp) (he : e ≠ 0) (hE : Eff a D e D1) (hD : DevAt w1 p D1 F1) (hU : Upd F w w1) (hF : ∀ k ∈ F1, k ∈ F ∨ w.heap.size ≤ k) : WritePost w p D F (a ++ b) (.returned (.int .i64 e)) w1 :=
 ⟨e, D1, F1, rfl, hE.stop b he, hD, hU, hF⟩
theorem WritePost.from {w0 w w' : World} {p : Nat} {D : Dev} {F : List Nat} {t : List DOp} {r : Ending} (u : Upd [] w0 w) (h : WritePost w p D F t r w') : WritePost w0 p D F t r w' := by
 obtain ⟨e, D1, F1, rfl, hE, hD, hU, hF⟩ := h
 exact ⟨e, D1, F1, rfl, hE, hD, (u.mono (by simp)).trans hU, fun k hk => (hF k hk).imp id fun q => Nat.le_trans u.size q⟩
theorem OwnG.sliceM {α : Type} {f : α → List Value} {e : TypeId} {k : Nat} {w : World} {base : Nat} {v : Value} {l : List α} (h : OwnG f e k w base v l) : ∃ a c m, m = l.length ∧ v = .slice a m c := by
 obtain ⟨a, c, h⟩ := h.slice
 exact ⟨a, c, _, rfl, h⟩
theorem OwnG.headG {α : Type} {f : α → List Value} {e : TypeId} {k : Nat} {w : World} {base : Nat} {v : Value} {l : List α} (h : OwnG f e k w base v l) (h0 : l ≠ []) : ∃ g c, v = .slice (some ⟨g, 0, none⟩) l.length c ∧ base ≤ g ∧ g < w.heap.size := by
 have hpos := List.length_pos_iff.2 h0
 rcases h.2 with ⟨rfl, hn⟩ | ⟨g, cap, cur, rfl, hg, hh, r1, r2, r3, r4⟩
 ·omega
 ·exact ⟨g, cap, rfl, hg, lt_of_blk hh⟩
theorem Rd.sliceM {w : World} {v : Value} {l : Bs} (h : Rd w v l) : ∃ a c m, m = l.length ∧ m ≤ c ∧ c ≤ 9223372036854775807 ∧ v = .slice a m c := by
 obtain ⟨a, c, rfl, h1, h2, -⟩ := h.slice
 exact ⟨a, c, _, rfl, h1, h2, rfl⟩
set_option maxRecDepth 100000 in
theorem wrong_ok (w : World) {p : Nat} {D : Dev} {F : List Nat} (h : DevAt w p D F) : Calls Tryz.prog 161 #[.pointer (some ⟨p, 0, none⟩), .int .i64 0] w fun e w' => e = .returned (.int .i64 0) ∧ w' = w := by
 have HB := Lib.hid (blocks_ok w h)
 have hb := h.bounds
 clear h
 generalize D.n = N at *
 go_enter Tryz.func161, Tryz.ntmps161
 go_wp2_with fail
 refine HB.out.mono ?_
 rintro e w1 ⟨rfl, rfl⟩
 go_wp2_with fail
 go_ret
 exact ⟨rfl, rfl⟩
set_option maxRecDepth 100000 in
set_option maxHeartbeats 4000000 in
theorem lay_ok (w : World) {p : Nat} {D : Dev} {F : List Nat} (h : DevAt w p D F) (n : Nat) (hn : n < D.n) (hwr : D.wr ≤ 137438953400) (c : Nat) (hc : c < 9223372036854775808) {v : Value} {d : Bs} (hd : Rd w v d) (hdl : d.length ≤ 400) :
  Calls Tryz.prog 162 #[.pointer (some ⟨p, 0, none⟩), .int .i64 n, .int .i64 c, v] w (WritePost w p D F [.write n (slotB c d), .flush]) := by
 obtain ⟨a, cp, rfl, hcap, hc63, -⟩ := hd.slice
 have HD := Lib.hid h
 have HV := Lib.hid hd
 have hn2 := h.bounds.2
 have hul : (putU c).length ≤ 10 := putU_len64 (by omega)
 have hwc : IntKind.u64.wrap (c : Int) = (c : Int) := by rw [IntKind.wrap_u64]; omega
 clear h hd
 go_enter Tryz.func162, Tryz.ntmps162
 go_wp2_with fail
 refine (putUint_ok w (Rd.nil _) c (by omega) (by simp)).mono ?_
 rintro e w1 ⟨v1, rfl, ho1, hU1⟩
 have HU1 := Lib.hid hU1
 have hs1 := hU1.size
 go_wp2_with (at_builtin; refine wpList_append_G T8 rfl _ _ rfl (l := [] ++ putU c) rfl ho1 rfl (HV.out.keep HU1.out).src (one8 _) ?c1 ?c2 ?c3 ?_)
 case c1 => simp; omega
 case c2 => simp; omega
 case c3 => omega
 intro v2 w2 ho2 hg2 _
 have HU2 : Hid (Upd [] w w2) := Lib.hid (HU1.out.grown hg2 (fun g hg => by have := (ho1.block g hg).1; omega))
 have HR2 : Hid (Rd w2 v2 (putU c ++ d)) := Lib.hid (by have := Ow.rd ho2; simpa using this)
 obtain ⟨a2, c2, m2, hm2, rfl⟩ := ho2.sliceM
 clear hm2
 clear ho1 hU1 hg2 ho2
 go_wp2_with fail
 have HPF := Lib.hid (putFrame_ok w2 (Rd.nil w2) 115 HR2.out (by rw [List.length_append]; omega) (by simp))
 have e115 : ((115 : UInt8).toNat : Int) = 115 := rfl
 rewrite [e115] at HPF
 refine HPF.out.mono ?_
 clear HPF e115
 rintro e w3 ⟨v3, rfl, ho3, hU3⟩
 have HU3 := Lib.hid (HU2.out.trans hU3)
 have hs3 := HU2.out.size
 have hs33 := hU3.size
 have e3 : [] ++ putFrame 115 (putU c ++ d) = putFrame 115 (putU c ++ d) := by simp
 rw [e3] at ho3
 clear hU3 e3
 have hfl : (putFrame 115 (putU c ++ d)).length ≤ 430 := by
  have h2 : (putU (putU c ++ d).length).length ≤ 10 := putU_len64 (by simp; omega)
  simp only [putFrame, frameRest, put32, List.length_append, List.length_cons, List.length_nil] at *
  omega
 have hf0 : putFrame 115 (putU c ++ d) ≠ [] := by simp [putFrame, put32]
 have hpad : putFrame 115 (putU c ++ d) ++ List.replicate (512 - (putFrame 115 (putU c ++ d)).length) 0 = slotB c d := rfl
 have hsl : (slotB c d).length = 512 := slotB_len (by omega) hdl
 generalize hfr : putFrame 115 (putU c ++ d) = fr at *
 obtain ⟨a3, c3, m3, hm3, rfl⟩ := ho3.sliceM
 have hm5 : m3 ≤ 430 := by omega
 have hk : (512 : Int) - (m3 : Int) = ((512 - m3 : Nat) : Int) := by omega
 have hwk : IntKind.i64.wrap ((512 - m3 : Nat) : Int) = ((512 - m3 : Nat) : Int) := IntWalk.i64_in _ (by omega)
 obtain ⟨k, hkk⟩ : ∃ k, k = 512 - m3 := ⟨_, rfl⟩
 rw [← hkk] at hk hwk
 have hk6 : fr.length + k ≤ 1000000 := by omega
 have HKK := Lib.hid hkk
 have HM3 := Lib.hid hm3
 clear hkk hm3
 go_wp2_with (first
  | (refine wpList_append_zeros rfl _ _ rfl (l := fr) (k := k) rfl ho3 hf0 rfl hk6 (by omega) ?_)
  | fail)
 intro v4 w4 ho4 hg4 _
 have HU4 : Hid (Upd [] w w4) := Lib.hid (HU3.out.grown hg4 (fun g hg => by have := (ho3.block g hg).1; omega))
 have e4 : fr ++ List.replicate k 0 = slotB c d := by rw [HKK.out, HM3.out]; exact hpad
 rw [e4] at ho4
 have hne : slotB c d ≠ [] := by intro q; rw [q] at hsl; simp at hsl
 obtain ⟨g4, c4, hv4, hg4b, hg4l⟩ := ho4.headG hne
 rw [hsl] at hv4
 subst hv4
 have HD4 := Lib.hid (HD.out.upd HU4.out (by simp))
 have HW := Lib.hid (write_ok w4 HD4.out n hn (by omega) (Ow.rd ho4) hsl (fun q => by have := HD.out.lt _ q; omega))
 clear ho3 ho4 hg4 hpad HR2 HU2 HU3 HKK HM3 e4 hk hwk hf0 hfl
 go_wp2_with fail
 refine HW.out.mono ?_
 rintro r w5 ⟨e, D5, F5, rfl, hE, hD5, hU5, hF5⟩
 have H5 := Lib.hid (And.intro hE (And.intro hD5 (And.intro hU5 hF5)))
 clear hE hD5 hU5 hF5 HW
 by_cases he : e = 0
 ·subst he
  have HFl := Lib.hid (flush_ok w5 H5.out.2.1 (by have := H5.out.1.wr; simp at this; omega))
  go_wp2_with fail
  refine HFl.out.mono ?_
  rintro r w6 h6
  have H6 := Lib.hid (WritePost.from HU4.out (WritePost.seq H5.out.1 H5.out.2.2.1 H5.out.2.2.2 h6))
  obtain ⟨e6, D6, F6, rfl, -⟩ := h6
  go_wp2_with fail
  go_ret
  exact H6.out
 ·have he' : ¬ (e : Int) = 0 := by omega
  go_wp2_with fail
  go_ret
  exact WritePost.from HU4.out (WritePost.stop [.flush] he H5.out.1 H5.out.2.1 H5.out.2.2.1 H5.out.2.2.2)
end Go.Proofs.YtgpefiacbipfpaaGreatDoor

namespace Go.Proofs.YtgpefiacbipfpaaGreatDoor
open Go.RowKit Go.Maps
theorem made8 (n : Nat) : madeCells (Value.int .u8 0).cells (n * 1) = (flatG c8 (List.replicate n 0)).toArray := by
 have h := zeros8 n
 rw [← h]
 rfl
theorem wpList_make_8 {w : World} {ops : Array Oper} {rest : List Oper} {o : Oper} {a : Act} {Q : Exit → Act → World → Prop} (hg : o.guard = none) (x y : Operand) (hop : o.op = Op.makeSlice 23 x y) (n : Nat) (hn : n ≤ 1000000) {l : Bs} (hl : l = List.replicate n 0)
  {z : Int} (hz : z = (n : Int)) (hx : a.eval x = .int .i64 z) (hy : a.eval y = .int .i64 z)
  (h : wpList Tryz.prog ops Q rest (a.put o.dst (.slice (some ⟨w.heap.size, 0, none⟩) n n)) (w.alloc (.cells (flatG c8 l).toArray 5))) : wpList Tryz.prog ops Q (o :: rest) a w := by
 subst hz
 subst hl
 refine wpList_plain hg fun K' hK' => ?_
 obtain ⟨i, h0, h1, h2, h3⟩ := info_parts (show (Tryz.prog.info? 5).map (fun i => (i.zero, i.size, i.bytes)) = some (some (.int .u8 0), 1, 1) by kernel_rfl)
 have hrun := run_make (P := Tryz.prog) w 23 5 i _ T8.und h0 h1 .i64 .i64 (n : Int) (n : Int) (by omega) (Int.le_refl _) (by rw [h3]; omega) (by omega)
 rw [h2] at hrun
 rw [Int.toNat_natCast, made8] at hrun
 unfold Oper.wp
 simp only [execOp, hop, hx, hy, Sem.run_bind, hrun, Result.andThen_ok]
 exact hK' _ _ h
theorem Ow.made {w : World} {base n : Nat} (hb : base ≤ w.heap.size) (hn : n ≤ 1000000) {l : Bs} (hl : l = List.replicate n 0) : Ow (w.alloc (.cells (flatG c8 l).toArray 5)) base (.slice (some ⟨w.heap.size, 0, none⟩) n n) l := by
 subst hl
 have e : (List.replicate n (0 : UInt8)).length = n := List.length_replicate ..
 refine ⟨by rw [flatG_len T8], .inr ⟨w.heap.size, n, _, by rw [e], hb, heap_top _ _, by rw [e]; exact Nat.le_refl _, by unfold maxLen; omega, by rw [List.size_toArray, flatG_len T8, e], ?_⟩⟩
 exact List.take_of_length_le (by rw [flatG_len T8]; exact Nat.le_refl _)
set_option maxRecDepth 100000 in
set_option maxHeartbeats 4000000 in
theorem sformat_ok (w : World) {p : Nat} {D : Dev} {F : List Nat} (h : DevAt w p D F) (hwr : D.wr ≤ 137438953300) {v : Value} {d : Bs} (hd : Rd w v d) (hdl : d.length ≤ 400) (hdF : ∀ b, v.ownBlock = some b → b ∉ F) :
  Calls Tryz.prog 126 #[.pointer (some ⟨p, 0, none⟩), .int .i64 0, v] w (WritePost w p D F ([.write 1 zeroB, .flush] ++ [.write 0 (slotB 0 d), .flush])) := by
 have HD := Lib.hid h
 have HV := Lib.hid hd
 have HF := Lib.hid hdF
 obtain ⟨a, cp, m, hm, hmc, hc63, rfl⟩ := hd.sliceM
 have hn1 := h.bounds.1
 have hm4 : m ≤ 400 := by omega
 have HW := Lib.hid (wrong_ok w h)
 clear h hd hm hdF
 go_enter Tryz.func126, Tryz.ntmps126
 go_wp2_with fail
 refine HW.out.mono ?_
 rintro r w0 ⟨rfl, rfl⟩
 clear HW
 go_wp2_with (first
  | (refine wpList_make_8 rfl _ _ rfl 512 (by omega) (l := zeroB) rfl rfl rfl rfl ?_)
  | fail)
 have HR1 := Lib.hid (Ow.made (w := w0) (base := w0.heap.size) (n := 512) (l := zeroB) (Nat.le_refl _) (by omega) rfl)
 have HU1 : Hid (Upd [] w0 (w0.alloc (.cells (flatG c8 zeroB).toArray 5))) := Lib.hid ((Upd.refl [] w0).alloc _)
 generalize (w0.alloc (.cells (flatG c8 zeroB).toArray 5)) = w1 at *
 have HW1 := Lib.hid (write_ok w1 (HD.out.upd HU1.out (by simp)) 1 (by omega) (by omega) (Ow.rd HR1.out) zeroB_len (fun q => by have := HD.out.lt _ q; omega))
 refine HW1.out.mono ?_
 rintro r w2 ⟨e, D2, F2, rfl, hE, hD2, hU2, hF2⟩
 have H2 := Lib.hid (And.intro hE (And.intro hD2 (And.intro hU2 hF2)))
 clear hE hD2 hU2 hF2 HW1 HR1
 by_cases he : e = 0
 ·subst he
  have HFl := Lib.hid (flush_ok w2 H2.out.2.1 (by have := H2.out.1.wr; simp at this; omega))
  go_wp2_with fail
  refine HFl.out.mono ?_
  rintro r w3 h3
  have H3 := WritePost.from HU1.out (WritePost.seq H2.out.1 H2.out.2.2.1 H2.out.2.2.2 h3)
  obtain ⟨e3, D3, F3, rfl, hE3, hD3, hU3, hF3⟩ := H3
  have H3 := Lib.hid (And.intro hE3 (And.intro hD3 (And.intro hU3 hF3)))
  clear hE3 hD3 hU3 hF3 HFl h3
  by_cases he : e3 = 0
  ·subst he
   have HV3 := Lib.hid (HV.out.upd H3.out.2.2.1 (HF.out))
   have HL := Lib.hid (lay_ok w3 H3.out.2.1 0 (by have := H3.out.1.n; omega) (by have := H3.out.1.wr; simp at this; omega) 0 (by omega) HV3.out hdl)
   go_wp2_with fail
   refine HL.out.mono ?_
   rintro r w4 h4
   have H4 := Lib.hid (WritePost.seq H3.out.1 H3.out.2.2.1 H3.out.2.2.2 h4)
   obtain ⟨e4, D4, F4, rfl, -⟩ := h4
   go_wp2_with fail
   go_ret
   exact H4.out
  ·have he' : ¬ (e3 : Int) = 0 := by omega
   go_wp2_with fail
   go_ret
   exact WritePost.stop _ he H3.out.1 H3.out.2.1 H3.out.2.2.1 H3.out.2.2.2
 ·have he' : ¬ (e : Int) = 0 := by omega
  go_wp2_with fail
  go_ret
  have := WritePost.from HU1.out (WritePost.stop ([.flush] ++ [.write 0 (slotB 0 d), .flush]) he H2.out.1 H2.out.2.1 H2.out.2.2.1 H2.out.2.2.2)
  exact this
end Go.Proofs.YtgpefiacbipfpaaGreatDoor

namespace Go.Proofs.YtgpefiacbipfpaaGreatDoor
open Go.RowKit Go.Maps
theorem Rd.empty {w : World} {a : Option Addr} {c : Nat} (hc : c ≤ maxLen) (hn : a = none → c = 0) : Rd w (.slice a 0 c) [] :=
 ⟨⟨a, c, rfl, Nat.zero_le _, hc, fun i hi => absurd hi (by simp)⟩, fun n c' e => by cases e; exact hn rfl⟩
theorem Rd.cut {w : World} {v : Value} {l : Bs} (h : Rd w v l) (i j : Nat) (hij : i ≤ j) (hj : j ≤ l.length) :
  ∃ a' c', (∀ W, (Instr.slice 23 v (some (.int .i64 i)) (some (.int .i64 j)) none).run Tryz.prog W = .ok (.slice a' (j - i) c') W) ∧
   (j = l.length → ∀ W, (Instr.slice 23 v (some (.int .i64 i)) none none).run Tryz.prog W = .ok (.slice a' (j - i) c') W) ∧
   (i = 0 → ∀ W, (Instr.slice 23 v none (some (.int .i64 j)) none).run Tryz.prog W = .ok (.slice a' (j - i) c') W) ∧
   Rd w (.slice a' (j - i) c') ((l.drop i).take (j - i)) ∧ ∀ g, (Value.slice a' (j - i) c').ownBlock = some g → v.ownBlock = some g := by
 obtain ⟨a, c, rfl, h1, h2, h3⟩ := h.slice
 have hcell := h.cell
 have hrun : ∀ W, (Instr.slice 23 (.slice a l.length c) (some (.int .i64 i)) (some (.int .i64 j)) none).run Tryz.prog W = .ok (.slice (if c = i then a else a.map (·.add (i * 1))) (j - i) (c - i)) W := fun W => by
  rw [run_slice_lh (w := W) 23 a l.length c elem8 .i64 .i64 _ _ (by omega) (by omega) (by omega), size8]
  simp only [Result.andThen, sliced, Int.toNat_natCast]
 have hrunT : j = l.length → ∀ W, (Instr.slice 23 (.slice a l.length c) (some (.int .i64 i)) none none).run Tryz.prog W = .ok (.slice (if c = i then a else a.map (·.add (i * 1))) (j - i) (c - i)) W := fun e W => by
  rw [run_slice_l (w := W) 23 a l.length c elem8 .i64 _ (by omega) (by omega), size8]
  simp only [Result.andThen, sliced, Int.toNat_natCast, e]
 have hrunH : i = 0 → ∀ W, (Instr.slice 23 (.slice a l.length c) none (some (.int .i64 j)) none).run Tryz.prog W = .ok (.slice (if c = i then a else a.map (·.add (i * 1))) (j - i) (c - i)) W := fun e W => by
  rw [run_slice_h (w := W) 23 a l.length c elem8 .i64 _ (by omega) (by omega), size8]
  simp only [Result.andThen, sliced, Int.toNat_natCast, e]
 refine ⟨_, _, hrun, hrunT, hrunH, ?_, ?_⟩
 ·by_cases hc : c = i
  ·rw [if_pos hc]
   have e1 : j - i = 0 := by omega
   rw [e1, List.take_zero]
   exact Rd.empty (by have := hcell.2.2.1; omega) (fun e => by have := h3 e; omega)
  ·rw [if_neg hc]
   rcases Nat.eq_zero_or_pos l.length with h0 | h0
   ·have e1 : j - i = 0 := by omega
    rw [e1, List.take_zero]
    refine Rd.empty (by have := hcell.2.2.1; omega) (fun e => ?_)
    cases a with
    | none => have := h3 rfl; omega
    | some q => cases e
   ·obtain ⟨b, off, rfl, -⟩ := hcell.2.2.2 h0
    have := h.part i (j - i) (by omega) (c - i) (by omega) (by omega)
    simp only [Option.map, add_plainG, Nat.mul_one]
    exact this
 ·intro g hg
  by_cases hc : c = i
  ·rw [if_pos hc] at hg; (cases a with | none => cases hg | some q => exact hg)
  ·rw [if_neg hc] at hg
   cases a with
   | none => cases hg
   | some q =>
    simp only [Value.ownBlock, Option.map] at hg ⊢
    rw [← hg]
    congr 1
    unfold Addr.add
    split <;> rfl
theorem wpList_tail8 {w : World} {ops : Array Oper} {rest : List Oper} {o : Oper} {a : Act} {Q : Exit → Act → World → Prop} (hg : o.guard = none) (x y : Operand) (hop : o.op = Op.slice 23 x (some y) none none) {v : Value} {l : Bs} (hv : Rd w v l) {i : Nat} (hi : i ≤ l.length)
  (hx : a.eval x = v) (hy : a.eval y = .int .i64 i) (h : ∀ a' c' m, m = l.length - i → Rd w (.slice a' m c') (l.drop i) → (∀ g, (Value.slice a' m c').ownBlock = some g → v.ownBlock = some g) → wpList Tryz.prog ops Q rest (a.put o.dst (.slice a' m c')) w) : wpList Tryz.prog ops Q (o :: rest) a w := by
 obtain ⟨a', c', -, hrun, -, hr, hb⟩ := hv.cut i l.length hi (Nat.le_refl _)
 refine wpList_plain hg fun K' hK' => ?_
 unfold Oper.wp
 simp only [execOp, hop, hx, hy, Option.map, Sem.run_bind, Sem.run_pure, Result.andThen_ok, run_sliceAt_slice (P := Tryz.prog) (w := w) _ _ _ _ _ elem8, hrun rfl]
 refine hK' _ _ (h a' c' _ rfl ?_ hb)
 rwa [List.take_of_length_le (by rw [List.length_drop]; omega)] at hr
end Go.Proofs.YtgpefiacbipfpaaGreatDoor
