/- Blocks are given back: Give. Create. Free, List. -/
import Derived.Test.YteepgehjkcahiaaGreatC26
import Derived.Test.YteepgehjkcahiaaGreatC20
import Derived.Test.YteepgehjkcahiaaGreatC23
namespace Go.Proofs.YteepgehjkcahiaaGreat
open Go.RowKit Go.Maps

/-- Blocks that are cleared. -/
def clearL (l : List Bool) (rs : List Run) : List Bool := (expand rs).foldl (fun l i => l.set i false) l
theorem clearL_len (l : List Bool) (rs : List Run) : (clearL l rs).length = l.length := by
  unfold clearL
  generalize expand rs = L
  induction L generalizing l with
  | nil => rfl
  | cons i L ih => rw [List.foldl_cons, ih]; simp
theorem clearL_get (l : List Bool) (rs : List Run) (i : Nat) : (clearL l rs)[i]? = if i ∈ expand rs then l[i]?.map (fun _ => false) else l[i]? := by
  unfold clearL
  generalize expand rs = L
  induction L generalizing l with
  | nil => simp
  | cons j L ih =>
    rw [List.foldl_cons, ih]
    by_cases h : i = j
    · subst h
      by_cases hl : i < l.length
      · simp [List.getElem?_set, hl]
      · simp [List.getElem?_set, hl, List.getElem?_eq_none (Nat.le_of_not_lt hl)]
    · have h' : j ≠ i := fun e => h e.symm
      simp [List.getElem?_set, h, h']
theorem clearL_zero (l : List Bool) (rs : List Run) (a : Nat) : clearL l (rs ++ [(a, 0)]) = clearL l rs := by
  unfold clearL; rw [expand_app, expand_one]; simp
theorem clearL_succ (l : List Bool) (rs : List Run) (a i : Nat) : clearL l (rs ++ [(a, i + 1)]) = (clearL l (rs ++ [(a, i)])).set (a + i) false := by
  unfold clearL
  rw [expand_app, expand_app, expand_one, expand_one]
  simp only
  rw [List.range'_concat, ← List.append_assoc, List.foldl_append]
  simp
/-- The next block of a run is none of those ahead of it. -/
theorem next_not {rs : List Run} {t a b i : Nat} (ht : rs[t]? = some (a, b)) (hi : i < b) (hnd : (expand rs).Nodup) : a + i ∉ expand (rs.take t ++ [(a, i)]) ∧ a + i ∈ expand rs := by
  have hsp : rs = rs.take t ++ (a, b) :: rs.drop (t + 1) := by
    obtain ⟨hl, he⟩ := List.getElem?_eq_some_iff.1 ht
    rw [← he, List.getElem_cons_drop, List.take_append_drop]
  have hm : a + i ∈ List.range' a b := by rw [List.mem_range'_1]; omega
  constructor
  · rw [expand_app, expand_one, List.mem_append]
    rintro (h | h)
    · rw [hsp, expand_app, expand_cons] at hnd
      exact (List.nodup_append.1 hnd).2.2 _ h _ (List.mem_append_left _ hm) rfl
    · simp only [List.mem_range'_1] at h; omega
  · rw [hsp, expand_app, expand_cons]
    exact List.mem_append_right _ (List.mem_append_left _ hm)

set_option maxRecDepth 100000 in
set_option maxHeartbeats 4000000 in
theorem agive_ok (w : World) {q base : Nat} {nv lv v : Value} {now last : List Bool} {rs : List Run} (h : MapR w base q nv lv now last) (hm0 : 0 < now.length) (hm : now.length ≤ 512) (hv : RdG cR 2 w v rs) (hlr : rs.length ≤ 1000) (hin : ∀ r ∈ rs, 1 ≤ r.2 ∧ r.1 + r.2 ≤ now.length) (hnd : (expand rs).Nodup) (huse : ∀ b ∈ expand rs, now[b]? = some true) :
    Calls Tryz.prog 59 #[.pointer (some ⟨q, 0, none⟩), v] w fun e w' => e = .returned (.int .i64 0) ∧ ∃ nv', MapR w' base q nv' lv (clearL now rs) last ∧ Upd [q] w w' ∧ ∀ g, nv'.ownBlock = some g → w.heap.size ≤ g := by
  have HM := Lib.hid h
  have hq := lt_of_blk h.box
  have HV := Lib.hid hv
  have c0 := cell_blk h.box 0
  simp only [List.getElem?_toArray, List.getElem?_cons_zero] at c0
  have HC := Lib.hid (cloneB_ok w (OwnG.rd TB h.now) (by omega))
  obtain ⟨av, cv, rfl, hvl1, hvl2, -⟩ := hv.slice
  obtain ⟨L, hL⟩ : ∃ L, L = rs.length := ⟨_, rfl⟩
  have HL := Lib.hid hL
  have hLb : (L : Int) ≤ 1000 := by omega
  rw [← hL] at HV ⊢
  clear h hv hL hvl1 hvl2 hlr
  go_enter Tryz.func59, Tryz.ntmps59
  go_wp2_with fail
  refine HC.out.mono ?_
  rintro e w1 ⟨v1, rfl, ho, hu⟩
  obtain ⟨g, c1, rfl, hgb, -, -, -⟩ := OwB.row ho hm0
  have H1 := Lib.hid (And.intro ho hu)
  clear ho hu HC
  obtain ⟨m, hmm⟩ : ∃ m, m = now.length := ⟨_, rfl⟩
  rw [← hmm] at H1 ⊢
  have HMM := Lib.hid hmm
  have hm5 : (m : Int) ≤ 512 := by omega
  clear hmm hm hm0
  go_wp2_with fail
  go_loopg [18] L (fun gh v18 wr => ∃ t : Nat, v18 = .int .i64 t ∧ t ≤ L ∧ gh = L - t ∧ Hid (OwB wr w.heap.size (.slice (some ⟨g, 0, none⟩) m c1) (clearL now (rs.take t)) ∧ Upd [] w wr))
  case atStart => exact ⟨0, rfl, Nat.zero_le _, rfl, Lib.hid ⟨by rw [List.take_zero]; exact H1.out.1, H1.out.2⟩⟩
  case round =>
    obtain ⟨t, rfl, ht, rfl, HR⟩ := hrel
    generalize wr = wo at *
    by_cases htL : t < L
    · have htL' : (t : Int) < (L : Int) := by omega
      obtain ⟨⟨a, b⟩, hab⟩ : ∃ r, rs[t]? = some r := ⟨_, List.getElem?_eq_getElem (by rw [← HL.out]; exact htL)⟩
      obtain ⟨hb1, hab2⟩ : 1 ≤ b ∧ a + b ≤ now.length := hin (a, b) (List.mem_of_getElem? hab)
      obtain ⟨bv, ov, rfl, d0, d1⟩ := RdG.runs (HV.out.keep TR HR.out.2) hab
      have HAB := Lib.hid hab
      have hab3 : a + b ≤ m := by rw [HMM.out]; exact hab2
      have f1 : ¬ (b : Int) < 1 := by omega
      have f2 : ¬ (a : Int) < 0 := by omega
      have f3 : ¬ (m : Int) ≤ (a : Int) := by omega
      have f4 : ¬ (m : Int) - (a : Int) < (b : Int) := by omega
      have fw : IntKind.i64.wrap ((m : Int) - (a : Int)) = (m : Int) - (a : Int) := IntWalk.i64_in _ (by omega)
      clear hab hab2
      have hR0 : ∀ o, Upd [] w (wo.alloc o) := fun o => HR.out.2.alloc o
      go_wp2_with fail
      have HX := Lib.hid (heap_top wo (.cells #[.int .i64 a, .int .i64 b] 129 (0, 0)))
      have HO := Lib.hid (And.intro (HR.out.1.upd ((Upd.refl [] wo).alloc (.cells #[.int .i64 a, .int .i64 b] 129 (0, 0))) (by simp)) (hR0 (.cells #[.int .i64 a, .int .i64 b] 129 (0, 0))))
      clear hR0 d0 d1
      generalize wo.alloc (.cells #[.int .i64 a, .int .i64 b] 129 (0, 0)) = W2 at *
      go_loopg [49] b (fun gh2 v49 wi => ∃ i : Nat, v49 = .int .i64 i ∧ i ≤ b ∧ gh2 = b - i ∧ Hid (OwB wi w.heap.size (.slice (some ⟨g, 0, none⟩) m c1) (clearL now (rs.take t ++ [(a, i)])) ∧ Upd [] w wi ∧ wi.heap[wo.heap.size]? = some (.cells #[.int .i64 a, .int .i64 b] 129 (0, 0))))
      case atStart => exact ⟨0, rfl, Nat.zero_le _, rfl, Lib.hid ⟨by rw [clearL_zero]; exact HO.out.1, HO.out.2, HX.out⟩⟩
      case round =>
        clear HX HO
        obtain ⟨i, rfl, hi, rfl, HI⟩ := hrel
        by_cases hib : i < b
        · have hib' : (i : Int) < (b : Int) := by omega
          have e0 := cell_blk HI.out.2.2 0
          simp only [List.getElem?_toArray, List.getElem?_cons_zero] at e0
          obtain ⟨j, hj⟩ : ∃ j, j = a + i := ⟨_, rfl⟩
          have hwr : IntKind.i64.wrap ((a : Int) + (i : Int)) = (j : Int) := by rw [IntWalk.i64_in _ (by omega)]; omega
          have hj5 : (j : Int) < (m : Int) := by omega
          have hj6 : j < m := by omega
          obtain ⟨hn1, hn2⟩ := next_not HAB.out hib hnd
          rw [← hj] at hn1 hn2
          have hget : (clearL now (rs.take t ++ [(a, i)]))[j]? = some true := by rw [clearL_get, if_neg hn1]; exact huse j hn2
          obtain ⟨b', o', hbo, eg⟩ := RdG.bool (OwnG.rd TB HI.out.1) hget
          simp only [Option.some.injEq, Addr.mk.injEq] at hbo
          obtain ⟨rfl, rfl, -⟩ := hbo
          rw [Nat.zero_add] at eg
          obtain ⟨cur, hcur⟩ := own_cells HI.out.1 g rfl
          have fg := frozen_blk hcur j
          have HJ := Lib.hid hj
          have HCU := Lib.hid hcur
          clear hn1 hn2 hget hj hcur
          go_wp2_with fail
          go_roundg (b - (i + 1))
          case measure => omega
          case rel =>
            refine ⟨i + 1, by simp, by omega, rfl, Lib.hid ⟨?_, HI.out.2.1.setCellNew hgb _ _, ?_⟩⟩
            · rw [clearL_succ, ← HJ.out]
              exact OwnB_set HI.out.1 j (by rw [clearL_len, ← HMM.out]; exact hj6) false
            · rw [heap_setCell, if_neg (fun e => by
                have := HCU.out
                rw [← e, HI.out.2.2] at this
                simp at this)]
              exact HI.out.2.2
        · obtain rfl : i = b := by omega
          have hib' : ¬ (i : Int) < (i : Int) := by omega
          go_wp2_with fail
          go_roundg (L - (t + 1))
          case measure => omega
          case rel =>
            refine ⟨t + 1, by simp, by omega, rfl, Lib.hid ⟨?_, HI.out.2.1⟩⟩
            rw [List.take_add_one, HAB.out]
            exact HI.out.1
    · obtain rfl : t = L := by omega
      have htL' : ¬ (t : Int) < (t : Int) := by omega
      have hb0 : wo.heap[q]? = some (boxA nv lv) := (HR.out.2.block q hq (by simp)).trans HM.out.box
      have HB0 := Lib.hid hb0
      have k0 := cell_blk hb0 0
      have g0 := frozen_blk hb0 0
      simp only [List.getElem?_toArray, List.getElem?_cons_zero] at k0
      clear hb0
      go_wp2_with fail
      go_ret
      have hU : Upd [q] wo (wo.setCell ⟨q, 0, none⟩ (.slice (some ⟨g, 0, none⟩) m c1)) := (Upd.refl _ _).setCell (by simp) _ _
      have htk : rs.take t = rs := by rw [HL.out, List.take_length]
      have hlast := HM.out.last
      refine ⟨rfl, .slice (some ⟨g, 0, none⟩) m c1, ⟨boxA_now HB0.out _, ?_, (hlast.upd HR.out.2 (by simp)).upd hU (fun j hj e => ?_), ?_, HM.out.ne2, Nat.le_trans HM.out.fit (Nat.le_trans HR.out.2.size hU.size), ?_⟩, (HR.out.2.mono (by simp)).trans hU, ?_⟩
      · have h1 := HR.out.1
        rw [htk] at h1
        exact (h1.upd hU (fun j hj e => by simp [Value.ownBlock] at hj e; omega)).base HM.out.fit
      · exact HM.out.ne2 j e (List.mem_singleton.1 hj)
      · intro g' e; simp [Value.ownBlock] at e; omega
      · intro g' e e2
        have := (hlast.block _ e2).2
        simp [Value.ownBlock] at e; omega
      · intro g' e; simp [Value.ownBlock] at e; omega
end Go.Proofs.YteepgehjkcahiaaGreat

namespace Go.Proofs.YteepgehjkcahiaaGreat
open Go.RowKit Go.Maps

def codeC (gone : Bool) (fs : Files) (nm : Bs) : Nat := if gone = true then 2 else if nm.length = 0 ∨ 40 < nm.length then 82 else if (getA fs nm).isSome = true then 81 else if 64 ≤ fs.length then 83 else 0
def FCreatePost (w : World) (v j p n k c q mf ml : Nat) (va : Value) (dead ld gone : Bool) (fs : Files) (A : Bs → Nat) (R : Bs → Value) (FM : List Nat) (nm : Bs) (r : Ending) (w' : World) : Prop :=
  r = .returned (.int .i64 (codeC (dead || gone) fs nm)) ∧ w'.heap[v]? = some (boxF j c q mf ml va (dead || gone)) ∧ LogR w' j p n k (if dead = true then ld else gone) ∧
    (codeC (dead || gone) fs nm ≠ 0 → Upd [v, j] w w') ∧ (codeC (dead || gone) fs nm = 0 → ∃ a, w.heap.size ≤ a ∧ Upd [v, j, mf] w w' ∧ FilR w' mf (putA ltN fs nm emptyF) (updF A nm a) (updF R nm (.slice none 0 0)) (a :: FM))

set_option maxRecDepth 100000 in
set_option maxHeartbeats 2000000 in
theorem fcreate_ok (w : World) {v j p n k c q mf ml : Nat} {va : Value} {dead ld : Bool} (h : w.heap[v]? = some (boxF j c q mf ml va dead)) (hl : LogR w j p n k ld) {D : Dev} {F : List Nat} (hd : DevAt w p D F) (hn : n ≤ 512) (hvj : v ≠ j)
    {fs : Files} {A : Bs → Nat} {R : Bs → Value} {FM : List Nat} (hf : FilR w mf fs A R FM) (hsrt : Srt ltN fs) (h64 : fs.length ≤ 64) (hvM : v ∉ FM) (hjM : j ∉ FM) (s : ByteArray) (hs : s.size ≤ maxLen) :
    Calls Tryz.prog 15 #[.pointer (some ⟨v, 0, none⟩), .string s] w (FCreatePost w v j p n k c q mf ml va dead ld (ld || D.down) fs A R FM s.data.toList) := by
  have HU := Lib.hid (fuse_ok' w h hl hd hn hvj)
  have HF := Lib.hid hf
  generalize (ld || D.down) = gone at *
  clear h hl hd hf
  have hsl : s.data.toList.length = s.size := Array.length_toList
  go_enter Tryz.func15, Tryz.ntmps15
  go_wp2_with fail
  refine HU.out.mono ?_
  rintro r w1 ⟨rfl, hb1, hl1, hu1⟩
  have hfil : FilR w1 mf fs A R FM := HF.out.upd hu1 (fun i hi q => by
    simp only [List.mem_cons, List.not_mem_nil, or_false] at q
    rcases q with rfl | rfl
    · exact hvM hi
    · exact hjM hi)
  have HFI := Lib.hid hfil
  have hlook := MapS.look hfil.map Tryz.underlying77 (z := .pointer none) (by kernel_rfl) s hs
  have hlen := World.ownsMap.len hfil.map Tryz.underlying77 3
  rw [size_dataA, show (entsL fs A).length = fs.length by simp [entsL]] at hlen
  have HN := Lib.hid (named_ok w1 s)
  have d3 := cell_blk hb1 3
  simp only [List.getElem?_toArray, List.getElem?_cons_zero, List.getElem?_cons_succ] at d3
  have H1 := Lib.hid (And.intro hb1 (And.intro hl1 hu1))
  clear hb1 hl1 hu1 hfil
  unfold FCreatePost
  by_cases hdg : (dead || gone) = true
  · have hc : codeC (dead || gone) fs s.data.toList = 2 := by unfold codeC; rw [if_pos hdg]
    rw [if_pos hdg]
    have HC := Lib.hid hc
    clear hc hlook hlen hsl
    go_wp2_with fail
    go_ret
    exact ⟨by rw [HC.out]; rfl, H1.out.1, H1.out.2.1, fun _ => H1.out.2.2, fun h => by rw [HC.out] at h; cases h⟩
  · by_cases hnm : s.size = 0 ∨ 40 < s.size
    · have hc : codeC (dead || gone) fs s.data.toList = 82 := by unfold codeC; rw [if_neg hdg, if_pos (by rw [hsl]; exact hnm)]
      have hdn : decide (s.size ≠ 0 ∧ s.size ≤ 40) = false := decide_eq_false (by omega)
      rw [if_neg hdg]
      have HC := Lib.hid hc
      rw [hdn] at HN
      clear hc hlook hlen hsl hdn hnm
      go_wp2_with fail
      refine HN.out.mono ?_
      rintro r w2 ⟨rfl, rfl⟩
      go_wp2_with fail
      go_ret
      exact ⟨by rw [HC.out]; rfl, H1.out.1, H1.out.2.1, fun _ => H1.out.2.2, fun h => by rw [HC.out] at h; cases h⟩
    · have hdn : decide (s.size ≠ 0 ∧ s.size ≤ 40) = true := decide_eq_true (by omega)
      have hnm' : ¬ (s.data.toList.length = 0 ∨ 40 < s.data.toList.length) := by rw [hsl]; exact hnm
      rw [if_neg hdg]
      rw [hdn] at HN
      rw [getA_ents] at hlook
      cases hg : getA fs s.data.toList with
      | some f =>
        have hc : codeC (dead || gone) fs s.data.toList = 81 := by unfold codeC; rw [if_neg hdg, if_neg hnm', hg]; rfl
        have HC := Lib.hid hc
        rw [hg] at hlook
        simp only [Option.map_some, Option.getD_some] at hlook
        clear hc hlen hsl hdn hnm hnm'
        go_wp2_with fail
        refine HN.out.mono ?_
        rintro r w2 ⟨rfl, rfl⟩
        go_wp2_with fail
        go_ret
        exact ⟨by rw [HC.out]; rfl, H1.out.1, H1.out.2.1, fun _ => H1.out.2.2, fun h => by rw [HC.out] at h; cases h⟩
      | none =>
        rw [hg] at hlook
        simp only [Option.map_none, Option.getD_none] at hlook
        by_cases hm : 64 ≤ fs.length
        · have hc : codeC (dead || gone) fs s.data.toList = 83 := by unfold codeC; rw [if_neg hdg, if_neg hnm', hg, if_pos hm]; rfl
          have HC := Lib.hid hc
          have hm' : (64 : Int) ≤ (fs.length : Int) := by omega
          clear hc hsl hdn hnm hnm'
          go_wp2_with fail
          refine HN.out.mono ?_
          rintro r w2 ⟨rfl, rfl⟩
          go_wp2_with fail
          go_ret
          exact ⟨by rw [HC.out]; rfl, H1.out.1, H1.out.2.1, fun _ => H1.out.2.2, fun h => by rw [HC.out] at h; cases h⟩
        · have hc : codeC (dead || gone) fs s.data.toList = 0 := by unfold codeC; rw [if_neg hdg, if_neg hnm', hg, if_neg hm]; rfl
          have HC := Lib.hid hc
          have hm' : ¬ (64 : Int) ≤ (fs.length : Int) := by omega
          clear hc hsl hdn hnm hnm'
          go_wp2_with fail
          refine HN.out.mono ?_
          rintro r w2 ⟨rfl, rfl⟩
          go_wp2_with fail
          clear hlook hlen
          have HIN := Lib.hid fun X => inew_ok X
          have HPU := Lib.hid fun (X : World) (u : Upd [] w2 X) => MapS.put (HFI.out.upd u (by simp)).map (entsL_srt hsrt A) (by simp [entsL]; omega) Tryz.underlying77 s hs (.pointer (some ⟨w2.heap.size, 0, none⟩))
          have hvl := lt_of_blk H1.out.1
          go_region_held3 (fun X => X.cell? ⟨v, 3, none⟩ = some (.map (some mf)))
            (first
              | (with_reducible exact held1 (Upd.refl [] w2).drew d3)
              | (with_reducible exact held1 hv6 d3)
              | (exact (World.cell?_of_block (hgr.block v (by have := hv6.size; omega) (fun e => hvM (by have e2 := Option.some.inj e; rw [e2]; exact HFI.out.mem)))).trans (held1 hv6 d3)))
            (first
              | (go_at_call 43; (with_reducible refine (HIN.out _).mono ?_); rintro e w6 ⟨rfl, hnd, hu6, hz6⟩; have hv6 : Upd [] w2 w6 := (Upd.refl [] w2).drew.trans hu6; obtain ⟨w7, hput, hms, hgr⟩ := HPU.out w6 hv6))
          go_wp2_with fail
          go_ret
          have hs6 := hv6.size
          have hs1 := H1.out.2.2.size
          have hu7 : Upd [mf] w6 w7 := by have := Upd.of_grown hgr; simpa using this
          have hvm : v ≠ mf := fun e => hvM (by rw [e]; exact HFI.out.mem)
          have hjm : j ≠ mf := fun e => hjM (by rw [e]; exact HFI.out.mem)
          have hml := HFI.out.map.lt
          have hb7 : w7.heap[v]? = some (boxF j c q mf ml va (dead || gone)) := (hu7.block v (by omega) (by simp; exact hvm)).trans (heap_keepU hv6 H1.out.1)
          have hl7 := (H1.out.2.1.upd hv6 (by simp)).upd hu7 (by simp; exact hjm)
          have hn7 : NodeR w7 0 w2.heap.size 0 (.slice none 0 0) [] := ⟨(hu7.block _ (lt_of_blk hnd.1) (by simp; omega)).trans hnd.1, OwnG.nil _ _⟩
          have hu27 : Upd [mf] w2 w7 := (hv6.mono (by simp)).trans hu7
          have hfp := HFI.out.put (nm := s.data.toList) (f := emptyF) (a := w2.heap.size) (rv := .slice none 0 0) hsrt hms hu27 hn7 (Nat.le_refl _) (fun g hg => by cases hg)
          exact ⟨by rw [HC.out]; rfl, hb7, hl7, fun h => absurd HC.out h, fun _ => ⟨w2.heap.size, by omega, (H1.out.2.2.mono (fun k hk _ => by simp only [List.mem_cons, List.not_mem_nil, or_false] at hk ⊢; rcases hk with rfl | rfl <;> simp)).trans (hu27.mono (by simp)), hfp⟩⟩
end Go.Proofs.YteepgehjkcahiaaGreat

namespace Go.Proofs.YteepgehjkcahiaaGreat
open Go.RowKit Go.Maps

set_option maxRecDepth 100000 in
theorem ffree_ok (w : World) {v j c q mf ml : Nat} {va : Value} {dead : Bool} (h : w.heap[v]? = some (boxF j c q mf ml va dead)) {base : Nat} {nv lv : Value} {now last : List Bool} (hm : MapR w base q nv lv now last) (hll : last.length = now.length) (h5 : now.length ≤ 512) :
    Calls Tryz.prog 17 #[.pointer (some ⟨v, 0, none⟩)] w fun r w' => r = .returned (.int .i64 (lenR (frees (freeB now last) now.length 0))) ∧ Upd [] w w' := by
  have c2 := cell_blk h 2
  simp only [List.getElem?_toArray, List.getElem?_cons_zero, List.getElem?_cons_succ] at c2
  have HC := Lib.hid (acount_ok w hm hll h5)
  clear h hm
  go_enter Tryz.func17, Tryz.ntmps17
  go_wp2_with fail
  refine HC.out.mono ?_
  rintro r w1 ⟨rfl, hu⟩
  go_wp2_with fail
  go_ret
  exact ⟨rfl, hu⟩

set_option maxRecDepth 100000 in
theorem flist_ok (w : World) {v j c q mf ml : Nat} {va : Value} {dead : Bool} (h : w.heap[v]? = some (boxF j c q mf ml va dead)) {fs : Files} {A : Bs → Nat} {R : Bs → Value} {FM : List Nat} (hf : FilR w mf fs A R FM) (hs : Srt ltN fs) (hl : fs.length ≤ 64) :
    Calls Tryz.prog 26 #[.pointer (some ⟨v, 0, none⟩)] w fun r w' => ∃ u, r = .returned u ∧ OwT w' w.heap.size u (fs.map (·.1)) ∧ Upd [] w w' := by
  have c3 := cell_blk h 3
  simp only [List.getElem?_toArray, List.getElem?_cons_zero, List.getElem?_cons_succ] at c3
  have HK := Lib.hid (keysS_ok (some mf) w)
  have HS := Lib.hid (sortedS_ok w hf.map (entsL_srt hs A) (by simp [entsL]; omega))
  clear h hf
  go_enter Tryz.func26, Tryz.ntmps26
  go_wp2_with fail
  refine HK.out.mono ?_
  rintro r w1 ⟨rfl, rfl⟩
  go_wp2_with fail
  refine HS.out.mono ?_
  rintro r w2 ⟨u, rfl, ho, hu⟩
  go_wp2_with fail
  go_ret
  have e : namesL (entsL fs A) = fs.map (·.1) := by simp [namesL, entsL]
  rw [e] at ho
  exact ⟨_, rfl, ho.base (by omega), ((Upd.refl [] w).alloc _).trans hu⟩
end Go.Proofs.YteepgehjkcahiaaGreat
