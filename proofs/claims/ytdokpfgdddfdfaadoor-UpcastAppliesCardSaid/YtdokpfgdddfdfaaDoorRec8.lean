/- Records: the document's Set, where the name is new. -/
import Derived.Test.YtdokpfgdddfdfaaDoorRec7
import Derived.BigQuiet
import Derived.Deep.Cut
namespace Go.Proofs.YtdokpfgdddfdfaaDoor
open Go.RowKit

/-- A text is not behind another one. -/
def leB (a b : ByteArray) : Bool := Op.bytesLess a.toList b.toList || a.toList == b.toList
def insF (l : List Fd) (x : Fd) : List Fd := (l.takeWhile fun y => leB y.nm x.nm) ++ x :: l.dropWhile fun y => leB y.nm x.nm
def setF (l : List Fd) (x : Fd) : List Fd := if posF l x.nm < 0 then insF l x else l.set (posF l x.nm).toNat x

theorem split_while {α : Type} (p : α → Bool) (l : List α) {j : Nat} (hj : j ≤ l.length) (h1 : ∀ i (hi : i < j), p (l[i]'(by omega)) = true) (h2 : ∀ (h : j < l.length), p l[j] = false) : l.takeWhile p = l.take j ∧ l.dropWhile p = l.drop j := by
  induction l generalizing j with
  | nil => simp
  | cons x l ih =>
    cases j with
    | zero => have := h2 (by simp); simp at this; simp [this]
    | succ j =>
      have hx := h1 0 (by omega)
      simp at hx
      obtain ⟨e1, e2⟩ := ih (j := j) (by simpa using hj) (fun i hi => by have := h1 (i + 1) (by omega); simpa using this) (fun h => by have := h2 (by simpa using h); simpa using this)
      simp [hx, e1, e2]

theorem own_empty_blk {w : World} {B base : Nat} (hB : w.heap[B]? = some (.cells #[] 30 (0, 0))) (hb : base ≤ B) : Own w base (.slice (some ⟨B, 0, none⟩) 0 0) [] :=
  ⟨rfl, .inr ⟨B, 0, #[], rfl, hb, hB, Nat.le_refl _, by unfold maxLen; omega, rfl, rfl⟩⟩

theorem src_box {w : World} {B : Nat} {x : Fd} (hB : w.heap[B]? = some (boxF x)) : Src w (some ⟨B, 0, none⟩) [x] := by
  unfold Src
  refine ⟨fun q => (by cases q), fun ad q j u hu => ?_⟩
  cases q
  rw [Go.WideShapes.add_plain, cell_blk hB]
  simp only [flatF, List.flatMap_cons, List.flatMap_nil, List.append_nil, cellsF] at hu
  simpa using hu

theorem leB_run (a b : ByteArray) (t : TypeId) (P : Program) (W : World) : (binOp .leq t (.string a) (.string b)).run P W = .ok (.bool (leB a b)) W := by
  simp [binOp, Op.stringOp, leB]

theorem own_mono {w : World} {a b : Nat} {v : Value} {l : List Fd} (h : Own w a v l) (hb : b ≤ a) : Own w b v l := by
  obtain ⟨h1, h2⟩ := h
  refine ⟨h1, ?_⟩
  rcases h2 with h2 | ⟨g, cap, cur, hv, hg, r⟩
  · exact Or.inl h2
  · exact Or.inr ⟨g, cap, cur, hv, Nat.le_trans hb hg, r⟩

set_option maxRecDepth 100000 in
set_option maxHeartbeats 1600000 in
theorem refSet_miss (v : Value) (l : List Fd) (x : Fd) (w : World) (h : RecAt w v l) (hl : (l.length + 1) * 48 ≤ 140737488355328) (hp : posF l x.nm = -1) :
    Calls Tryd.prog 35 #[v, aggF x] w (OwnPost (insF l x) w) := by
  have HR := Lib.hid (fun (W : World) (u : Upd [] w W) => h.keep u)
  have HP := Lib.hid hp
  have HN : Hid (∀ i (hi : i < l.length), l[i].nm ≠ x.nm) := by
    rcases posF_cases l x.nm with ⟨-, hn, -⟩ | ⟨i, hi, q, -⟩
    · exact Lib.hid fun i hi => hn _ (List.getElem_mem hi)
    · rw [hp] at q; omega
  have HHI := Lib.hid (fun j => rec_hi h (l.take j) (l.drop j) (List.take_append_drop j l).symm)
  have HLO := Lib.hid (fun j => rec_lo h (l.take j) (l.drop j) (List.take_append_drop j l).symm)
  obtain ⟨a, cap, rfl, h1, h2, h3⟩ := h
  have H3 := Lib.hid h3
  clear hp h3
  unfold maxLen at h2
  go_enter Tryd.func35, Tryd.ntmps35
  go_wp2_with fail
  have hF := refFind_ok (.slice a l.length cap) l x.nm _ (HR.out _ ((Upd.refl _ _).alloc (boxF x)))
  rw [HP.out] at hF
  refine hF.mono ?_
  rintro e w1 ⟨rfl, rfl⟩
  clear hF
  go_wp2_with fail
  go_loopg [7] l.length (fun n i wr => ∃ j : Nat, i = .int .i64 j ∧ j ≤ l.length ∧ n = l.length - j ∧ Hid (∀ i (hi : i < j) (hl : i < l.length), leB l[i].nm x.nm = true) ∧ wr.Alike (w.alloc (boxF x)))
  case atStart => exact ⟨0, rfl, by omega, rfl, Lib.hid (fun i hi => by omega), alike_refl _⟩
  case round =>
    obtain ⟨j, rfl, hj, rfl, hC, hA⟩ := hrel
    have b0 : wr.heap[w.heap.size]? = some (boxF x) := by rw [hA.1, heap_alloc, if_pos rfl]
    have x0 : wr.cell? ⟨w.heap.size, 0, none⟩ = some (.string x.nm) := cell_blk b0 0
    have HU : Hid (Upd [] w wr) := Lib.hid (((Upd.refl [] w).alloc _).alike hA)
    have HA := Lib.hid hA
    have HB0 := Lib.hid b0
    clear hA b0
    by_cases hjl : ∃ h : j < l.length, leB l[j].nm x.nm = true
    · obtain ⟨hjl, hle⟩ := hjl
      have hd : decide ((j : Int) < (l.length : Int)) = true := by simpa using hjl
      obtain ⟨b, off, rfl, hf⟩ := H3.out j hjl
      have c0 := (hf.upd HU.out (by simp)).1
      clear hf
      have hC2 : Hid (∀ i (hi : i < j + 1) (hl : i < l.length), leB l[i].nm x.nm = true) := Lib.hid (fun i hi hl => by
        rcases Nat.lt_or_ge i j with h | h
        · exact hC.out i h hl
        · have : i = j := by omega
          subst this; exact hle)
      have hop : ∀ W, (binOp .leq 9 (.string l[j].nm) (.string x.nm)).run Tryd.prog W = .ok (.bool true) W := fun W => by rw [leB_run, hle]
      generalize l[j].nm = y at *
      clear hle
      go_upto_region 7 with (fail)
      go_quiet (fail)
      go_wp2_with fail
      go_roundg (l.length - (j + 1))
      case measure => omega
      case rel => exact ⟨j + 1, by go_num, by omega, rfl, hC2, HA.out⟩
    · have hspl := split_while (fun y : Fd => leB y.nm x.nm) l hj (fun i hi => hC.out i hi (by omega)) (fun h => by
        cases e : leB l[j].nm x.nm with
        | false => rfl
        | true => exact absurd ⟨h, e⟩ hjl)
      have hins : insF l x = l.take j ++ x :: l.drop j := by unfold insF; rw [hspl.1, hspl.2]
      have hlen : (l.take j).length = j := by simp; omega
      have hlen2 : (l.drop j).length = l.length - j := by simp
      obtain ⟨A1, q1, hs1, hS1⟩ := HHI.out j
      obtain ⟨A2, q2, hs2, hS2⟩ := HLO.out j
      have HI := Lib.hid hins
      have HS1 := Lib.hid hS1
      have HS2 := Lib.hid hS2
      have HX := Lib.hid (And.intro (cell_blk HB0.out 1) (And.intro (cell_blk HB0.out 2) (cell_blk HB0.out 3)))
      clear hS1 hS2 hspl hins
      have hlen' := Lib.hid hlen.symm
      have hL2 : (l.take j).length + (l.drop j).length ≤ l.length := by omega
      have hW1 := HU.out
      generalize l.take j = l1 at *
      generalize l.drop j = l2 at *
      have hlt : w.heap.size < wr.heap.size := lt_of_blk HB0.out
      have hgt := fun W : World => show (W.alloc (boxF x)).heap[W.heap.size]? = some (boxF x) by rw [heap_alloc, if_pos rfl]
      have HGT := Lib.hid hgt
      clear hgt hlen hlen2 hW1
      have HNE : Hid (∀ W : World, (W.alloc (.cells #[] 30)).heap[W.heap.size]? = some (.cells #[] 30 (0, 0))) := Lib.hid fun W => by rw [heap_alloc, if_pos rfl]
      have HE2 : Hid (∀ W : World, ((W.alloc (.cells #[] 30)).alloc (boxF x)).heap[W.heap.size]? = some (.cells #[] 30 (0, 0))) := Lib.hid fun W => by rw [heap_alloc, if_neg (by simp), heap_alloc, if_pos rfl]
      have HX2 : Hid (∀ W : World, ((W.alloc (.cells #[] 30)).alloc (boxF x)).heap[W.heap.size + 1]? = some (boxF x)) := Lib.hid fun W => by rw [heap_alloc, if_pos (by simp)]
      have HE3 : Hid (∀ W : World, ((W.alloc (boxF x)).alloc (.cells #[] 30)).heap[W.heap.size + 1]? = some (.cells #[] 30 (0, 0))) := Lib.hid fun W => by rw [heap_alloc, if_pos (by simp)]
      have HX3 : Hid (∀ W : World, ((W.alloc (boxF x)).alloc (.cells #[] 30)).heap[W.heap.size]? = some (boxF x)) := Lib.hid fun W => by rw [heap_alloc, if_neg (by simp), heap_alloc, if_pos rfl]
      by_cases hj2 : j < l.length
      · have hd : decide ((j : Int) < (l.length : Int)) = true := by simpa using hj2
        obtain ⟨b, off, rfl, hf⟩ := H3.out j hj2
        have c0 := (hf.upd HU.out (by simp)).1
        clear hf
        have hop : ∀ W, (binOp .leq 9 (.string l[j].nm) (.string x.nm)).run Tryd.prog W = .ok (.bool false) W := fun W => by
          rw [leB_run]
          cases e : leB l[j].nm x.nm with
          | false => rfl
          | true => exact absurd ⟨hj2, e⟩ hjl
        clear hjl
        generalize l[j].nm = y at *
        go_upto_region 7 with (fail)
        go_quiet (fail)
        go_wp2_with fail
        have hj9 := hlen'.out
        subst hj9
        clear hlen'
        obtain ⟨x1, x2, x3⟩ := HX.out
        simp only [List.getElem?_toArray, List.getElem?_cons_succ, List.getElem?_cons_zero] at x1 x2 x3
        have HUq : Hid (Upd [] w (wr.drewN nq)) := Lib.hid ((HU.out).alike ⟨rfl, rfl, rfl⟩)
        have hltq : w.heap.size < (wr.drewN nq).heap.size := hlt
        have y0 : (wr.drewN nq).cell? ⟨w.heap.size, 0, none⟩ = some (.string x.nm) := x0
        have y1 : (wr.drewN nq).cell? ⟨w.heap.size, 1, none⟩ = some (.bool x.tx) := x1
        have y2 : (wr.drewN nq).cell? ⟨w.heap.size, 2, none⟩ = some (.int .i64 x.n) := x2
        have y3 : (wr.drewN nq).cell? ⟨w.heap.size, 3, none⟩ = some (.string x.s) := x3
        clear x0 x1 x2 x3 HX HU hlt HHI HLO H3 HN HA HB0 c0
        generalize wr.drewN nq = wq at *
        clear hC hop hd wr
        go_region_held3 (fun w' => w'.cell? ⟨w.heap.size, 0, none⟩ = some (.string x.nm) ∧ w'.cell? ⟨w.heap.size, 1, none⟩ = some (.bool x.tx) ∧ w'.cell? ⟨w.heap.size, 2, none⟩ = some (.int .i64 x.n) ∧ w'.cell? ⟨w.heap.size, 3, none⟩ = some (.string x.s))
          (first
            | go_keep
            | (go_split_ands; refine ⟨?_, ?_, ?_, ?_⟩ <;> (rw [hgrow3.cell_far _ (by simp; omega) (fun q => hnb2 q.symm)]; assumption))
            | (go_split_ands; refine ⟨?_, ?_, ?_, ?_⟩ <;> (rw [hgrow2.cell_far _ (by simp; omega) (fun q => hnb1 q.symm)]; assumption))
            | (go_split_ands; refine ⟨?_, ?_, ?_, ?_⟩ <;> (rw [hgrow.cell_far _ (by simp; omega) (by simp [Value.ownBlock]; omega)]; assumption)))
          (first
            | (refine step_append_rec (by rfl) _ _ (by rfl) (base := wq.heap.size) (v := .slice (some ⟨wq.heap.size, 0, none⟩) 0 0) (l := []) (A := A1) (c := q1) (r := l1) (by rfl) (by exact own_empty_blk (by exact HNE.out wq) (by omega)) (by rfl) (by exact HS1.out _ (HR.out _ (by repeat' first | exact HUq.out | apply Upd.alloc | apply Upd.drew))) ?_ ?_ ?_; (simp; omega); (simp <;> omega); intro v1 w1 hown1 hgrow; have hnb1 : v1.ownBlock ≠ some w.heap.size := (fun q => by have := (hown1.lt _ q).1; omega); have hs1' : w.heap.size < w1.heap.size := (by have := hgrow.size; simp at this; omega); have u1 : Upd [] w w1 := Upd.grown (by repeat' first | exact HUq.out | apply Upd.alloc | apply Upd.drew) hgrow (fun k hk => by simp [Value.ownBlock] at hk; omega))
            | (refine step_append_rec (by rfl) _ _ (by rfl) (base := wq.heap.size) (v := .slice (some ⟨wq.heap.size, 0, none⟩) 0 0) (l := []) (A := A1) (c := q1) (r := l1) (by rfl) (by exact own_empty_blk (by exact HE2.out wq) (by omega)) (by rfl) (by exact HS1.out _ (HR.out _ (by repeat' first | exact HUq.out | apply Upd.alloc | apply Upd.drew))) ?_ ?_ ?_; (simp; omega); (simp <;> omega); intro v1 w1 hown1 hgrow; have hnb1 : v1.ownBlock ≠ some w.heap.size := (fun q => by have := (hown1.lt _ q).1; omega); have hs1' : w.heap.size < w1.heap.size := (by have := hgrow.size; simp at this; omega); have u1 : Upd [] w w1 := Upd.grown (by repeat' first | exact HUq.out | apply Upd.alloc | apply Upd.drew) hgrow (fun k hk => by simp [Value.ownBlock] at hk; omega); have hbx : w1.heap[wq.heap.size + 1]? = some (boxF x) := (by rw [hgrow.block _ (by simp <;> omega) (by simp [Value.ownBlock] <;> omega)]; exact HX2.out wq))
            | (refine step_append_rec (by rfl) _ _ (by rfl) (base := wq.heap.size) (v := .slice (some ⟨wq.heap.size + 1, 0, none⟩) 0 0) (l := []) (A := A1) (c := q1) (r := l1) (by rfl) (by exact own_empty_blk (by exact HE3.out wq) (by omega)) (by rfl) (by exact HS1.out _ (HR.out _ (by repeat' first | exact HUq.out | apply Upd.alloc | apply Upd.drew))) ?_ ?_ ?_; (simp; omega); (simp <;> omega); intro v1 w1 hown1 hgrow; have hnb1 : v1.ownBlock ≠ some w.heap.size := (fun q => by have := (hown1.lt _ q).1; omega); have hs1' : w.heap.size < w1.heap.size := (by have := hgrow.size; simp at this; omega); have u1 : Upd [] w w1 := Upd.grown (by repeat' first | exact HUq.out | apply Upd.alloc | apply Upd.drew) hgrow (fun k hk => by simp [Value.ownBlock] at hk; omega); have hbx : w1.heap[wq.heap.size]? = some (boxF x) := (by rw [hgrow.block _ (by simp <;> omega) (by simp [Value.ownBlock] <;> omega)]; exact HX3.out wq))
            | (refine step_append_rec (by rfl) _ _ (by rfl) (base := wq.heap.size) (v := v1) (l := [] ++ l1) (A := some ⟨w1.heap.size, 0, none⟩) (c := 1) (r := [x]) (by rfl) (by exact hown1.alloc _) (by rfl) (by exact src_box (HGT.out w1)) ?_ ?_ ?_; (simp; omega); (have := hgrow.size; simp at this ⊢; omega); intro v2 w2 hown2 hgrow2; have hnb2 : v2.ownBlock ≠ some w.heap.size := (fun q => by have := (hown2.lt _ q).1; omega); have hs2' : w.heap.size < w2.heap.size := (by have := hgrow2.size; (try simp at this); omega); have u2 : Upd [] w w2 := Upd.grown (u1.alloc _) hgrow2 (fun k hk => by have := (hown1.lt k hk).1; omega))
            | (refine step_append_rec (by rfl) _ _ (by rfl) (base := wq.heap.size) (v := v1) (l := [] ++ l1) (A := some ⟨wq.heap.size + 1, 0, none⟩) (c := 1) (r := [x]) (by rfl) (by exact hown1) (by rfl) (by exact src_box hbx) ?_ ?_ ?_; (simp; omega); (have := hgrow.size; simp at this ⊢; omega); intro v2 w2 hown2 hgrow2; have hnb2 : v2.ownBlock ≠ some w.heap.size := (fun q => by have := (hown2.lt _ q).1; omega); have hs2' : w.heap.size < w2.heap.size := (by have := hgrow2.size; (try simp at this); omega); have u2 : Upd [] w w2 := Upd.grown u1 hgrow2 (fun k hk => by have := (hown1.lt k hk).1; omega))
            | (refine step_append_rec (by rfl) _ _ (by rfl) (base := wq.heap.size) (v := v1) (l := [] ++ l1) (A := some ⟨wq.heap.size, 0, none⟩) (c := 1) (r := [x]) (by rfl) (by exact hown1) (by rfl) (by exact src_box hbx) ?_ ?_ ?_; (simp; omega); (have := hgrow.size; simp at this ⊢; omega); intro v2 w2 hown2 hgrow2; have hnb2 : v2.ownBlock ≠ some w.heap.size := (fun q => by have := (hown2.lt _ q).1; omega); have hs2' : w.heap.size < w2.heap.size := (by have := hgrow2.size; (try simp at this); omega); have u2 : Upd [] w w2 := Upd.grown u1 hgrow2 (fun k hk => by have := (hown1.lt k hk).1; omega))
            | (refine step_append_rec (by rfl) _ _ (by rfl) (base := wq.heap.size) (v := v2) (l := [] ++ l1 ++ [x]) (A := A2) (c := q2) (r := l2) (by rfl) (by exact hown2) (by rfl) (by exact HS2.out _ (HR.out _ u2)) ?_ ?_ ?_; (simp; omega); (have := hgrow.size; have := hgrow2.size; simp at *; omega); intro v3 w3 hown3 hgrow3; have hs3' : w.heap.size < w3.heap.size := (by have := hgrow3.size; omega); have u3 : Upd [] w w3 := Upd.grown u2 hgrow3 (fun k hk => by have := (hown2.lt k hk).1; omega)))
        all_goals
          have HO : Hid (Own w3 w.heap.size v3 (insF l x) ∧ Upd [] w w3) := Lib.hid ⟨by rw [HI.out]; exact own_mono (by simpa using hown3) (by omega), u3⟩
          clear hown3 hown2 hown1 hgrow hgrow2 hgrow3 u1 u2 u3 hs1 hs2
          go_wp2_with fail
          go_ret
          exact ⟨_, rfl, HO.out.1, HO.out.2⟩
      · have hd : decide ((j : Int) < (l.length : Int)) = false := by simpa using hj2
        clear hjl
        go_upto_region 7 with (fail)
        go_quiet (fail)
        go_wp2_with fail
        have hj9 := hlen'.out
        subst hj9
        clear hlen'
        obtain ⟨x1, x2, x3⟩ := HX.out
        simp only [List.getElem?_toArray, List.getElem?_cons_succ, List.getElem?_cons_zero] at x1 x2 x3
        have HUq : Hid (Upd [] w (wr.drewN nq)) := Lib.hid ((HU.out).alike ⟨rfl, rfl, rfl⟩)
        have hltq : w.heap.size < (wr.drewN nq).heap.size := hlt
        have y0 : (wr.drewN nq).cell? ⟨w.heap.size, 0, none⟩ = some (.string x.nm) := x0
        have y1 : (wr.drewN nq).cell? ⟨w.heap.size, 1, none⟩ = some (.bool x.tx) := x1
        have y2 : (wr.drewN nq).cell? ⟨w.heap.size, 2, none⟩ = some (.int .i64 x.n) := x2
        have y3 : (wr.drewN nq).cell? ⟨w.heap.size, 3, none⟩ = some (.string x.s) := x3
        clear x0 x1 x2 x3 HX HU hlt HHI HLO H3 HN HA HB0
        generalize wr.drewN nq = wq at *
        clear hC hd wr
        go_region_held3 (fun w' => w'.cell? ⟨w.heap.size, 0, none⟩ = some (.string x.nm) ∧ w'.cell? ⟨w.heap.size, 1, none⟩ = some (.bool x.tx) ∧ w'.cell? ⟨w.heap.size, 2, none⟩ = some (.int .i64 x.n) ∧ w'.cell? ⟨w.heap.size, 3, none⟩ = some (.string x.s))
          (first
            | go_keep
            | (go_split_ands; refine ⟨?_, ?_, ?_, ?_⟩ <;> (rw [hgrow3.cell_far _ (by simp; omega) (fun q => hnb2 q.symm)]; assumption))
            | (go_split_ands; refine ⟨?_, ?_, ?_, ?_⟩ <;> (rw [hgrow2.cell_far _ (by simp; omega) (fun q => hnb1 q.symm)]; assumption))
            | (go_split_ands; refine ⟨?_, ?_, ?_, ?_⟩ <;> (rw [hgrow.cell_far _ (by simp; omega) (by simp [Value.ownBlock]; omega)]; assumption)))
          (first
            | (refine step_append_rec (by rfl) _ _ (by rfl) (base := wq.heap.size) (v := .slice (some ⟨wq.heap.size, 0, none⟩) 0 0) (l := []) (A := A1) (c := q1) (r := l1) (by rfl) (by exact own_empty_blk (by exact HNE.out wq) (by omega)) (by rfl) (by exact HS1.out _ (HR.out _ (by repeat' first | exact HUq.out | apply Upd.alloc | apply Upd.drew))) ?_ ?_ ?_; (simp; omega); (simp <;> omega); intro v1 w1 hown1 hgrow; have hnb1 : v1.ownBlock ≠ some w.heap.size := (fun q => by have := (hown1.lt _ q).1; omega); have hs1' : w.heap.size < w1.heap.size := (by have := hgrow.size; simp at this; omega); have u1 : Upd [] w w1 := Upd.grown (by repeat' first | exact HUq.out | apply Upd.alloc | apply Upd.drew) hgrow (fun k hk => by simp [Value.ownBlock] at hk; omega))
            | (refine step_append_rec (by rfl) _ _ (by rfl) (base := wq.heap.size) (v := .slice (some ⟨wq.heap.size, 0, none⟩) 0 0) (l := []) (A := A1) (c := q1) (r := l1) (by rfl) (by exact own_empty_blk (by exact HE2.out wq) (by omega)) (by rfl) (by exact HS1.out _ (HR.out _ (by repeat' first | exact HUq.out | apply Upd.alloc | apply Upd.drew))) ?_ ?_ ?_; (simp; omega); (simp <;> omega); intro v1 w1 hown1 hgrow; have hnb1 : v1.ownBlock ≠ some w.heap.size := (fun q => by have := (hown1.lt _ q).1; omega); have hs1' : w.heap.size < w1.heap.size := (by have := hgrow.size; simp at this; omega); have u1 : Upd [] w w1 := Upd.grown (by repeat' first | exact HUq.out | apply Upd.alloc | apply Upd.drew) hgrow (fun k hk => by simp [Value.ownBlock] at hk; omega); have hbx : w1.heap[wq.heap.size + 1]? = some (boxF x) := (by rw [hgrow.block _ (by simp <;> omega) (by simp [Value.ownBlock] <;> omega)]; exact HX2.out wq))
            | (refine step_append_rec (by rfl) _ _ (by rfl) (base := wq.heap.size) (v := .slice (some ⟨wq.heap.size + 1, 0, none⟩) 0 0) (l := []) (A := A1) (c := q1) (r := l1) (by rfl) (by exact own_empty_blk (by exact HE3.out wq) (by omega)) (by rfl) (by exact HS1.out _ (HR.out _ (by repeat' first | exact HUq.out | apply Upd.alloc | apply Upd.drew))) ?_ ?_ ?_; (simp; omega); (simp <;> omega); intro v1 w1 hown1 hgrow; have hnb1 : v1.ownBlock ≠ some w.heap.size := (fun q => by have := (hown1.lt _ q).1; omega); have hs1' : w.heap.size < w1.heap.size := (by have := hgrow.size; simp at this; omega); have u1 : Upd [] w w1 := Upd.grown (by repeat' first | exact HUq.out | apply Upd.alloc | apply Upd.drew) hgrow (fun k hk => by simp [Value.ownBlock] at hk; omega); have hbx : w1.heap[wq.heap.size]? = some (boxF x) := (by rw [hgrow.block _ (by simp <;> omega) (by simp [Value.ownBlock] <;> omega)]; exact HX3.out wq))
            | (refine step_append_rec (by rfl) _ _ (by rfl) (base := wq.heap.size) (v := v1) (l := [] ++ l1) (A := some ⟨w1.heap.size, 0, none⟩) (c := 1) (r := [x]) (by rfl) (by exact hown1.alloc _) (by rfl) (by exact src_box (HGT.out w1)) ?_ ?_ ?_; (simp; omega); (have := hgrow.size; simp at this ⊢; omega); intro v2 w2 hown2 hgrow2; have hnb2 : v2.ownBlock ≠ some w.heap.size := (fun q => by have := (hown2.lt _ q).1; omega); have hs2' : w.heap.size < w2.heap.size := (by have := hgrow2.size; (try simp at this); omega); have u2 : Upd [] w w2 := Upd.grown (u1.alloc _) hgrow2 (fun k hk => by have := (hown1.lt k hk).1; omega))
            | (refine step_append_rec (by rfl) _ _ (by rfl) (base := wq.heap.size) (v := v1) (l := [] ++ l1) (A := some ⟨wq.heap.size + 1, 0, none⟩) (c := 1) (r := [x]) (by rfl) (by exact hown1) (by rfl) (by exact src_box hbx) ?_ ?_ ?_; (simp; omega); (have := hgrow.size; simp at this ⊢; omega); intro v2 w2 hown2 hgrow2; have hnb2 : v2.ownBlock ≠ some w.heap.size := (fun q => by have := (hown2.lt _ q).1; omega); have hs2' : w.heap.size < w2.heap.size := (by have := hgrow2.size; (try simp at this); omega); have u2 : Upd [] w w2 := Upd.grown u1 hgrow2 (fun k hk => by have := (hown1.lt k hk).1; omega))
            | (refine step_append_rec (by rfl) _ _ (by rfl) (base := wq.heap.size) (v := v1) (l := [] ++ l1) (A := some ⟨wq.heap.size, 0, none⟩) (c := 1) (r := [x]) (by rfl) (by exact hown1) (by rfl) (by exact src_box hbx) ?_ ?_ ?_; (simp; omega); (have := hgrow.size; simp at this ⊢; omega); intro v2 w2 hown2 hgrow2; have hnb2 : v2.ownBlock ≠ some w.heap.size := (fun q => by have := (hown2.lt _ q).1; omega); have hs2' : w.heap.size < w2.heap.size := (by have := hgrow2.size; (try simp at this); omega); have u2 : Upd [] w w2 := Upd.grown u1 hgrow2 (fun k hk => by have := (hown1.lt k hk).1; omega))
            | (refine step_append_rec (by rfl) _ _ (by rfl) (base := wq.heap.size) (v := v2) (l := [] ++ l1 ++ [x]) (A := A2) (c := q2) (r := l2) (by rfl) (by exact hown2) (by rfl) (by exact HS2.out _ (HR.out _ u2)) ?_ ?_ ?_; (simp; omega); (have := hgrow.size; have := hgrow2.size; simp at *; omega); intro v3 w3 hown3 hgrow3; have hs3' : w.heap.size < w3.heap.size := (by have := hgrow3.size; omega); have u3 : Upd [] w w3 := Upd.grown u2 hgrow3 (fun k hk => by have := (hown2.lt k hk).1; omega)))
        all_goals
          have HO : Hid (Own w3 w.heap.size v3 (insF l x) ∧ Upd [] w w3) := Lib.hid ⟨by rw [HI.out]; exact own_mono (by simpa using hown3) (by omega), u3⟩
          clear hown3 hown2 hown1 hgrow hgrow2 hgrow3 u1 u2 u3 hs1 hs2
          go_wp2_with fail
          go_ret
          exact ⟨_, rfl, HO.out.1, HO.out.2⟩

theorem refSet_ok (v : Value) (l : List Fd) (x : Fd) (w : World) (h : RecAt w v l) (hl : (l.length + 1) * 48 ≤ 140737488355328) :
    Calls Tryd.prog 35 #[v, aggF x] w (OwnPost (setF l x) w) := by
  unfold setF
  rcases posF_cases l x.nm with ⟨hp, -, -⟩ | ⟨i, hi, hp, -, -, -⟩
  · rw [if_pos (by omega)]
    exact refSet_miss v l x w h hl hp
  · rw [if_neg (by omega), hp, Int.toNat_natCast]
    exact refSet_hit v l x w h (by omega) hi hp
end Go.Proofs.YtdokpfgdddfdfaaDoor
