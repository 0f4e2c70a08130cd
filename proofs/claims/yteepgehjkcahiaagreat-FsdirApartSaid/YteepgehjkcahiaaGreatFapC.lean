/- What is done to one file is seen in no other one: the walk of FsdirApart. FsdirApart: the walk. FsdirApart returns true, whatever the two rows of pieces are, in whatever memory, and leaves all that was there as it was. No condition. -/
import Derived.Lib.ConvBytes
import Derived.Test.YteepgehjkcahiaaGreatC37
import Derived.Test.YteepgehjkcahiaaGreatRows
namespace Go.Proofs.YteepgehjkcahiaaGreat
open Go.RowKit Go.Maps


set_option maxRecDepth 100000 in
theorem conv_row (w : World) (s : ByteArray) (hs : s.size ≤ 140737488355328) : ∃ v w', (convert 9 32 (.string s)).run Tryz.prog w = .ok v w' ∧ Rd w' v s.data.toList ∧ v.ownBlock = some w.heap.size ∧ Upd [] w w' ∧ w'.heap.size = w.heap.size + 1 := by
  have hrun := Lib.run_convert_string_bytes (P := Tryz.prog) w 9 32 5 s Tryz.underlying9 Tryz.underlying32 Tryz.underlying5
  have hl : s.data.toList.length = s.size := Array.length_toList
  have hc := grownCap_ge w s.size 0 5
  have hm : grownCap w s.size 0 5 ≤ maxLen := grownCap_le_maxLen w s.size 0 5 (by unfold maxLen; omega)
  refine ⟨_, _, hrun, ⟨⟨some ⟨w.heap.size, 0, none⟩, _, by rw [hl], by rw [hl]; exact hc, hm, fun i hi => ⟨_, _, rfl, fun j u hu => ?_⟩⟩, fun n c e => by cases e⟩, rfl, ⟨rfl, rfl, by rw [Lib.bytesWorld_size]; omega, fun k hk _ => Lib.bytesWorld_at_old w _ s k hk⟩, Lib.bytesWorld_size w _ s⟩
  have hj : j = 0 := by
    have : j < [Value.int .u8 ((s.data.toList[i]).toNat : Int)].length := (List.getElem?_eq_some_iff.1 hu).1
    simpa using this
  subst hj
  have hu' : u = .int .u8 ((s.data.toList[i]).toNat : Int) := (Option.some.inj hu).symm
  rw [hu', show 0 + i * 1 + 0 = i by omega, Lib.bytesWorld_cell w _ s i (by omega)]
  rw [List.getD_eq_getElem?_getD, List.getElem?_eq_getElem hi]
  rfl
set_option maxRecDepth 100000 in
theorem wpList_conv {w : World} {ops : Array Oper} {rest : List Oper} {o : Oper} {a : Act} {Q : Exit → Act → World → Prop} (hg : o.guard = none) (x : Operand) (hop : o.op = Op.convert 9 32 x) {s : ByteArray} (hx : a.eval x = .string s) (hs : s.size ≤ 140737488355328)
    (h : ∀ v w', Rd w' v s.data.toList → v.ownBlock = some w.heap.size → Upd [] w w' → w'.heap.size = w.heap.size + 1 → wpList Tryz.prog ops Q rest (a.put o.dst v) w') : wpList Tryz.prog ops Q (o :: rest) a w :=
  wpList_plain hg fun K hK => by
    obtain ⟨v, w', hrun, h1, h2, h3, h4⟩ := conv_row w s hs
    unfold Oper.wp execOp
    simp only [hop, hx, Sem.run_bind, Sem.run_pure, Result.andThen_ok, hrun]
    exact hK _ _ (h v w' h1 h2 h3 h4)

theorem Rd.head {w : World} {a : Option Addr} {n c : Nat} {d : Bs} (h : Rd w (.slice a n c) d) (m : Nat) (hm : m ≤ n) : Rd w (.slice a m c) (d.take m) := by
  obtain ⟨⟨a', c', hv, h1, h2, h3⟩, h4⟩ := h
  simp only [Value.slice.injEq] at hv
  obtain ⟨rfl, rfl, rfl⟩ := hv
  have hl : (d.take m).length = m := by rw [List.length_take]; omega
  refine ⟨⟨a, c, by rw [hl], by omega, h2, fun i hi => ?_⟩, fun n' c' e => ?_⟩
  · obtain ⟨b, off, e, hc⟩ := h3 i (by omega)
    refine ⟨b, off, e, ?_⟩
    rw [List.getElem_take]
    exact hc
  · injection e with e1 e2 e3
    subst e1 e3
    exact h4 _ _ rfl
def nmB : Bs := [98]
def nmC : Bs := [99]
def nmD : Bs := [100]
theorem Lv.app_code {w0 w : World} {v p room : Nat} {fs last : Files} {c : Nat} {G : List Nat} (h : Lv w0 w v p room fs last c G) (hs : ∀ b ∈ allBlks last, b ∈ allBlks fs) {nm : Bs} {f : Fil} (hg : getA fs nm = some f) {n : Nat} (hm : f.data.length + n ≤ 32768) (hb : (allBlks fs).length + needN f n ≤ room) : codeP room fs last nm n = 0 := by
  obtain ⟨l, k, s, hi⟩ := h.inv
  have h1 := hi.free_sub hs
  unfold codeP
  rw [hg]
  dsimp only
  rw [if_neg (by omega), if_neg (by omega)]
theorem blks3 {room : Nat} {a b c : Bs} {f g k : Fil} (h : FilesOk room [(a, f), (b, g), (c, k)]) : (allBlks [(a, f), (b, g), (c, k)]).length = blocksN f.data.length + blocksN g.data.length + blocksN k.data.length := by
  have h1 := (h.ok (a, f) (by simp)).blks_len
  have h2 := (h.ok (b, g) (by simp)).blks_len
  have h3 := (h.ok (c, k) (by simp)).blks_len
  simp only [allBlks, List.flatMap_cons, List.flatMap_nil, List.append_nil, List.length_append] at h1 h2 h3 ⊢
  omega
/-- Three files. -/
structure Three (w0 w : World) (v p room : Nat) (A B C : Bs) (c : Nat) (last : Files) : Prop where
  ex : ∃ ga gb gc, Lv w0 w v p room [(nmA, ga), (nmB, gb), (nmC, gc)] last c [] ∧ ga.data = A ∧ gb.data = B ∧ gc.data = C ∧ ∀ b ∈ allBlks last, b ∈ allBlks [(nmA, ga), (nmB, gb), (nmC, gc)]
theorem Three.upd {w0 w : World} {v p room : Nat} {A B C : Bs} {c : Nat} {last : Files} (h : Three w0 w v p room A B C c last) : Upd [] w0 w := by
  obtain ⟨ga, gb, gc, h1, -⟩ := h.ex
  exact h1.upd
theorem Three.keep {w0 w w' : World} {v p room : Nat} {A B C : Bs} {c : Nat} {last : Files} (h : Three w0 w v p room A B C c last) (u : Upd [] w w') : Three w0 w' v p room A B C c last := by
  obtain ⟨ga, gb, gc, h1, h2⟩ := h.ex
  exact ⟨ga, gb, gc, h1.keep u, h2⟩
theorem three_app {w0 w : World} {v p room : Nat} {fs last : Files} {c : Nat} {nm : Bs} {f : Fil} (h : Lv w0 w v p room fs last c []) (hg : getA fs nm = some f) {d : Bs} (hc : codeP room fs last nm d.length = 0) : apdF room fs last nm d = putA ltN fs nm (growF room fs last f d) ∧ ((∀ b ∈ allBlks last, b ∈ allBlks fs) → ∀ b ∈ allBlks last, b ∈ allBlks (putA ltN fs nm (growF room fs last f d))) := by
  obtain ⟨l, k, s, hi⟩ := h.inv
  refine ⟨?_, fun hs b hb => blks_put hi.now hg (growF_blks _ _ _ _ _) b (hs b hb)⟩
  unfold apdF
  rw [if_pos hc]
  unfold appF
  rw [hg]
section
variable {w0 w : World} {v p room : Nat} {A B C : Bs} {c : Nat} {last : Files}
theorem Three.blks (h : Three w0 w v p room A B C c last) : ∃ ga gb gc, Lv w0 w v p room [(nmA, ga), (nmB, gb), (nmC, gc)] last c [] ∧ ga.data = A ∧ gb.data = B ∧ gc.data = C ∧ (∀ b ∈ allBlks last, b ∈ allBlks [(nmA, ga), (nmB, gb), (nmC, gc)]) ∧ (allBlks [(nmA, ga), (nmB, gb), (nmC, gc)]).length = blocksN A.length + blocksN B.length + blocksN C.length := by
  obtain ⟨ga, gb, gc, h1, h2, h3, h4, h5⟩ := h.ex
  obtain ⟨l, k, s, hi⟩ := h1.inv
  refine ⟨ga, gb, gc, h1, h2, h3, h4, h5, ?_⟩
  rw [blks3 hi.now, h2, h3, h4]
theorem Three.appA (h : Three w0 w v p room A B C c last) (hc : c ≤ 1000000) {dv : Value} {d : Bs} (hd : Rd w dv d) (hdo : d ≠ [] → ∀ g, dv.ownBlock = some g → g < w0.heap.size) (hA : A.length + d.length ≤ 32768) (hr : blocksN (A.length + d.length) + blocksN B.length + blocksN C.length ≤ room) (nm : ByteArray) (hn : nm.data.toList = nmA) (hs : nm.size ≤ maxLen) :
    Calls Tryz.prog 16 #[.pointer (some ⟨v, 0, none⟩), .string nm, dv] w fun r w' => r = .returned (.int .i64 0) ∧ Three w0 w' v p room (A ++ d) B C (c + 1) last := by
  obtain ⟨ga, gb, gc, h1, h2, h3, h4, h5, h6⟩ := h.blks
  have hg : getA [(nmA, ga), (nmB, gb), (nmC, gc)] nmA = some ga := rfl
  have hcode : codeP room [(nmA, ga), (nmB, gb), (nmC, gc)] last nmA d.length = 0 := h1.app_code h5 hg (by rw [h2]; exact hA) (by rw [h6]; unfold needN; rw [h2]; unfold blocksN at *; omega)
  refine (h1.append hc nm hs hd (fun q g hg => .inr (hdo q g hg)) (by omega)).mono fun r w' ⟨e, hl, _⟩ => ?_
  rw [hn] at e hl
  obtain ⟨e1, e2⟩ := three_app h1 hg hcode
  rw [hcode] at e
  rw [e1] at hl
  exact ⟨e, _, gb, gc, hl, by rw [growF_data, h2], h3, h4, e2 h5⟩
theorem Three.appB (h : Three w0 w v p room A B C c last) (hc : c ≤ 1000000) {dv : Value} {d : Bs} (hd : Rd w dv d) (hdo : d ≠ [] → ∀ g, dv.ownBlock = some g → g < w0.heap.size) (hA : B.length + d.length ≤ 32768) (hr : blocksN A.length + blocksN (B.length + d.length) + blocksN C.length ≤ room) (nm : ByteArray) (hn : nm.data.toList = nmB) (hs : nm.size ≤ maxLen) :
    Calls Tryz.prog 16 #[.pointer (some ⟨v, 0, none⟩), .string nm, dv] w fun r w' => r = .returned (.int .i64 0) ∧ Three w0 w' v p room A (B ++ d) C (c + 1) last := by
  obtain ⟨ga, gb, gc, h1, h2, h3, h4, h5, h6⟩ := h.blks
  have hg : getA [(nmA, ga), (nmB, gb), (nmC, gc)] nmB = some gb := rfl
  have hcode : codeP room [(nmA, ga), (nmB, gb), (nmC, gc)] last nmB d.length = 0 := h1.app_code h5 hg (by rw [h3]; exact hA) (by rw [h6]; unfold needN; rw [h3]; unfold blocksN at *; omega)
  refine (h1.append hc nm hs hd (fun q g hg => .inr (hdo q g hg)) (by omega)).mono fun r w' ⟨e, hl, _⟩ => ?_
  rw [hn] at e hl
  obtain ⟨e1, e2⟩ := three_app h1 hg hcode
  rw [hcode] at e
  rw [e1] at hl
  exact ⟨e, ga, _, gc, hl, h2, by rw [growF_data, h3], h4, e2 h5⟩
theorem Three.appC (h : Three w0 w v p room A B C c last) (hc : c ≤ 1000000) {dv : Value} {d : Bs} (hd : Rd w dv d) (hdo : d ≠ [] → ∀ g, dv.ownBlock = some g → g < w0.heap.size) (hA : C.length + d.length ≤ 32768) (hr : blocksN A.length + blocksN B.length + blocksN (C.length + d.length) ≤ room) (nm : ByteArray) (hn : nm.data.toList = nmC) (hs : nm.size ≤ maxLen) :
    Calls Tryz.prog 16 #[.pointer (some ⟨v, 0, none⟩), .string nm, dv] w fun r w' => r = .returned (.int .i64 0) ∧ Three w0 w' v p room A B (C ++ d) (c + 1) last := by
  obtain ⟨ga, gb, gc, h1, h2, h3, h4, h5, h6⟩ := h.blks
  have hg : getA [(nmA, ga), (nmB, gb), (nmC, gc)] nmC = some gc := rfl
  have hcode : codeP room [(nmA, ga), (nmB, gb), (nmC, gc)] last nmC d.length = 0 := h1.app_code h5 hg (by rw [h4]; exact hA) (by rw [h6]; unfold needN; rw [h4]; unfold blocksN at *; omega)
  refine (h1.append hc nm hs hd (fun q g hg => .inr (hdo q g hg)) (by omega)).mono fun r w' ⟨e, hl, _⟩ => ?_
  rw [hn] at e hl
  obtain ⟨e1, e2⟩ := three_app h1 hg hcode
  rw [hcode] at e
  rw [e1] at hl
  exact ⟨e, ga, gb, _, hl, h2, h3, by rw [growF_data, h4], e2 h5⟩
theorem Three.sync (h : Three w0 w v p room A B C c last) (hc : c ≤ 1000000) :
    Calls Tryz.prog 18 #[.pointer (some ⟨v, 0, none⟩)] w fun r w' => r = .returned (.int .i64 0) ∧ ∃ last', Three w0 w' v p room A B C (c + 1) last' := by
  obtain ⟨ga, gb, gc, h1, h2, h3, h4, h5⟩ := h.ex
  exact (h1.sync hc).mono fun r w' ⟨e, hl, _⟩ => ⟨e, _, ga, gb, gc, hl, h2, h3, h4, fun _ h => h⟩
theorem Three.read {fs : Files} {G : List Nat} {f : Fil} (h : Lv w0 w v p room fs last c G) (hc : c ≤ 1000000) (nm : ByteArray) (hs : nm.size ≤ maxLen) (hg : getA fs nm.data.toList = some f) :
    Calls Tryz.prog 20 #[.pointer (some ⟨v, 0, none⟩), .string nm, .int .i64 0, .int .i64 1073741824] w fun r w' => ∃ rv, r = .returned (.tuple #[rv, .int .i64 0]) ∧ Ow w' w.heap.size rv f.data ∧ Lv w0 w' v p room fs last c (rv.ownBlock.toList ++ G) ∧ Stay G w w' := by
  obtain ⟨l, k, s, hi⟩ := h.inv
  have hm := (hi.now.ok _ (getA_mem hg)).most
  have hcR : codeR fs nm.data.toList 0 1073741824 = 0 := by unfold codeR; rw [hg]; dsimp only; rw [if_neg (by omega)]
  have hdR : dataR fs nm.data.toList 0 1073741824 = f.data := by unfold dataR; rw [hg]; dsimp only; rw [show (0 : Int).toNat = 0 from rfl, List.drop_zero, List.take_of_length_le (by simp only at hm; omega)]
  refine (h.read hc nm hs 0 1073741824).mono fun r w' ⟨rv, e, ho, _, hl, hst⟩ => ?_
  rw [hcR] at e ho
  rw [hdR] at ho
  exact ⟨rv, e, ho rfl, hl, hst⟩
end
end Go.Proofs.YteepgehjkcahiaaGreat

namespace Go.Proofs.YteepgehjkcahiaaGreat
open Go.RowKit Go.Maps

theorem crt3 : codeC false [] nmA = 0 ∧ crtF [] nmA = [(nmA, emptyF)] ∧ codeC false [(nmA, emptyF)] nmB = 0 ∧ crtF [(nmA, emptyF)] nmB = [(nmA, emptyF), (nmB, emptyF)] ∧ codeC false [(nmA, emptyF), (nmB, emptyF)] nmC = 0 ∧ crtF [(nmA, emptyF), (nmB, emptyF)] nmC = [(nmA, emptyF), (nmB, emptyF), (nmC, emptyF)] := by
  refine ⟨rfl, rfl, rfl, rfl, rfl, rfl⟩
theorem drop3 (ga gb gc : Fil) : codeF false [(nmA, ga), (nmB, gb), (nmC, gc)] nmC = 0 ∧ delA [(nmA, ga), (nmB, gb), (nmC, gc)] nmC = [(nmA, ga), (nmB, gb)] ∧ codeC false [(nmA, ga), (nmB, gb)] nmD = 0 ∧ crtF [(nmA, ga), (nmB, gb)] nmD = [(nmA, ga), (nmB, gb), (nmD, emptyF)] := by
  refine ⟨rfl, rfl, rfl, rfl⟩
set_option maxRecDepth 100000 in
set_option maxHeartbeats 16000000 in
theorem fsapart_walk (w : World) (sa sb : Option Addr) (sl sc tl tc : Nat) (l m : List (Value × Bs)) (drop : Bool) (hs : SlAt 1 PcAt w (.slice sa sl sc) l) (hok : ∀ x ∈ l, PcOk w x) (ht : SlAt 1 PcAt w (.slice sb tl tc) m) (hot : ∀ x ∈ m, PcOk w x) (_hl : sl ≤ 9223372036854775807) (_ht : tl ≤ 9223372036854775807) :
    Calls Tryz.prog 4 #[.slice sa sl sc, .slice sb tl tc, .bool drop] w fun r w' => r = .returned (.bool true) ∧ Upd [] w w' := by
  have HA := Lib.hid (awake_ok w)
  have HL := Lib.hid fun (X : World) (u : Upd [] w X) => lv_laid w u 120 (by omega) (by omega)
  have HP := Lib.hid fun j (hj : j < sl) => pcs_at hs hok hj
  have HQ := Lib.hid fun j (hj : j < tl) => pcs_at ht hot hj
  have hn1 : (⟨#[97]⟩ : ByteArray).data.toList = nmA := rfl
  have hn2 : (⟨#[98]⟩ : ByteArray).data.toList = nmB := rfl
  have hn3 : (⟨#[99]⟩ : ByteArray).data.toList = nmC := rfl
  have hn4 : (⟨#[100]⟩ : ByteArray).data.toList = nmD := rfl
  have hz1 : (⟨#[97]⟩ : ByteArray).size ≤ maxLen := by unfold maxLen; decide
  have hz2 : (⟨#[98]⟩ : ByteArray).size ≤ maxLen := by unfold maxLen; decide
  have hz3 : (⟨#[99]⟩ : ByteArray).size ≤ maxLen := by unfold maxLen; decide
  have hz4 : (⟨#[100]⟩ : ByteArray).size ≤ maxLen := by unfold maxLen; decide
  have HC3 := Lib.hid crt3
  clear hs hok ht hot
  go_enter Tryz.func4, Tryz.ntmps4
  go_wp2_with fail
  refine HA.out.mono ?_
  rintro r w1 ⟨rfl, hu1⟩
  have HU1 := Lib.hid hu1
  clear hu1
  go_wp2_with fail
  refine (HL.out _ HU1.out).mono ?_
  rintro r w2 ⟨p, v, rfl, hlv, -⟩
  have HCr := Lib.hid (hlv.create ⟨#[97]⟩ hz1)
  rw [hn1, HC3.out.1, HC3.out.2.1] at HCr
  clear hlv HL HA
  go_wp2_with fail
  refine HCr.out.mono ?_
  rintro r w3 ⟨rfl, hlv, -⟩
  have HCs := Lib.hid (hlv.create ⟨#[98]⟩ hz2)
  rw [hn2, HC3.out.2.2.1, HC3.out.2.2.2.1] at HCs
  clear hlv HCr
  go_wp2_with fail
  refine HCs.out.mono ?_
  rintro r w4 ⟨rfl, hlv, -⟩
  have HCt := Lib.hid (hlv.create ⟨#[99]⟩ hz3)
  rw [hn3, HC3.out.2.2.2.2.1, HC3.out.2.2.2.2.2] at HCt
  clear hlv HCs
  go_wp2_with fail
  refine HCt.out.mono ?_
  rintro r w5 ⟨rfl, hlv, -⟩
  have H3 : Hid (Three w w5 v p 84 [] [] [] 0 []) := Lib.hid ⟨emptyF, emptyF, emptyF, hlv, rfl, rfl, rfl, by simp [allBlks]⟩
  clear hlv HCt
  go_upto_block 0 with fail
  go_cut [10, 11] (fun v10 v11 wr => ∃ (S T : ByteArray) (A B : Bs) (c : Nat) (last : Files), v10 = .string S ∧ v11 = .string T ∧ Hid (S = strOf A) ∧ Hid (T = strOf B) ∧ A.length ≤ 8400 ∧ B.length ≤ 8400 ∧ c ≤ 100 ∧ Hid (Three w wr v p 84 A B B c last))
  case first =>
    go_wp2_with fail
    go_loopg [10, 11, 12, 13, 14] 12 (fun gh v10 v11 v12 v13 v14 wr => ∃ (i : Nat) (S T : ByteArray) (A B : Bs) (c : Nat) (last : Files), v10 = .string S ∧ v11 = .string T ∧ Hid (S = strOf A) ∧ Hid (T = strOf B) ∧ v12 = .int .i64 i ∧ i ≤ 12 ∧ gh = 12 - i ∧ A.length ≤ 700 * i ∧ B.length ≤ 700 * i ∧ c ≤ 4 * i ∧ Hid (Three w wr v p 84 A B B c last))
    case atStart => exact ⟨0, _, _, [], [], 0, [], rfl, rfl, Lib.hid rfl, Lib.hid rfl, rfl, by omega, rfl, by simp, by simp, by omega, H3⟩
    case round =>
      obtain ⟨i, S, T, A, B, c, last, rfl, rfl, HSA, HTB, rfl, hi, rfl, hA, hB, hc, HS⟩ := hrel
      by_cases hi12 : i < 12
      · have hi12' : (i : Int) < 12 := by omega
        have hsz : S.size = A.length := by rw [HSA.out]; exact strOf_size A
        have htz : T.size = B.length := by rw [HTB.out]; exact strOf_size B
        go_upto_if 52 with fail
        go_cut [10, 13] (fun v10 v13 wx => ∃ (S' : ByteArray) (A' : Bs) (c' : Nat), v10 = .string S' ∧ Hid (S' = strOf A') ∧ A'.length ≤ 700 * (i + 1) ∧ c' ≤ c + 1 ∧ Hid (Three w wx v p 84 A' B B c' last))
        case first =>
          by_cases his : i < sl
          · have his' : (i : Int) < (sl : Int) := by omega
            have HX := HS.out
            have hW : ∃ W, W = wr := ⟨_, rfl⟩
            obtain ⟨W, hW⟩ := hW
            subst hW
            obtain ⟨b, off, pa, pc, d, rfl, d0, hrd, hd1, hd2, hd3, hd4⟩ := HP.out i his
            have d1 := held1 HX.upd d0
            obtain ⟨mm, hmm⟩ : ∃ mm, mm = min d.length 700 := ⟨_, rfl⟩
            have hmin : min (d.length : Int) 700 = (mm : Int) := by omega
            have hmd : mm ≤ d.length := by omega
            have hm7 : mm ≤ 700 := by omega
            have hmpc : mm ≤ pc := by omega
            have hrc := hrd.head mm hmd
            have hdl : (d.take mm).length = mm := by rw [List.length_take]; omega
            have hne : d.take mm ≠ [] → ∀ g, (Value.slice pa mm pc).ownBlock = some g → g < w.heap.size := fun q g hg => hd4 (fun e => q (by rw [e]; simp)) g (by cases pa <;> exact hg)
            have HR := Lib.hid (And.intro hrc (And.intro hdl hne))
            clear d0 hrd hd4 hrc hdl hne HX hmm
            go_wp2_with fail
            go_quiet (fail)
            have hst := HS.out.keep ((Upd.refl [] W).drewN nq)
            generalize W.drewN nq = W2 at *
            have HAp := Lib.hid (hst.appA (by omega) (HR.out.1.keep hst.upd) HR.out.2.2 (by rw [HR.out.2.1]; omega) (by rw [HR.out.2.1]; unfold blocksN; omega) ⟨#[97]⟩ hn1 hz1)
            clear hst
            go_wp2_with fail
            refine HAp.out.mono ?_
            rintro r w6 ⟨rfl, h6⟩
            have ht := Rd.str (HR.out.1.keep h6.upd)
            have hsd := strOf_size (d.take mm)
            rw [HR.out.2.1] at hsd
            have hA8 : (A.length : Int) ≤ 8388608 := by omega
            have hd8 : (mm : Int) ≤ 8388608 := by omega
            have HCA : Hid (S ++ strOf (d.take mm) = strOf (A ++ d.take mm)) := Lib.hid (by rw [HSA.out]; exact strOf_append A _)
            have H6 := Lib.hid h6
            have hlA : (A ++ d.take mm).length = A.length + mm := by rw [List.length_append, HR.out.2.1]
            have HLA := Lib.hid hlA
            clear h6 HAp hlA
            generalize strOf (d.take mm) = sd at *
            go_wp2_with fail
            go_meet
            exact ⟨_, _, c + 1, rfl, HCA, by rw [HLA.out]; omega, by omega, H6⟩
          · have his' : ¬ (i : Int) < (sl : Int) := by omega
            go_wp2_with fail
            go_meet
            exact ⟨S, A, c, rfl, HSA, by omega, by omega, HS⟩
        case rest =>
          obtain ⟨S', A', c', rfl, HSA', hA', hc', HS'⟩ := hcut
          go_upto_if 75 with fail
          go_cut [11, 14] (fun v11 v14 wx => ∃ (T' : ByteArray) (B' : Bs) (c'' : Nat), v11 = .string T' ∧ Hid (T' = strOf B') ∧ B'.length ≤ 700 * (i + 1) ∧ c'' ≤ c' + 2 ∧ Hid (Three w wx v p 84 A' B' B' c'' last))
          case first =>
            by_cases his : i < tl
            · have his' : (i : Int) < (tl : Int) := by omega
              have HX := HS'.out
              have hW : ∃ W, W = wc := ⟨_, rfl⟩
              obtain ⟨W, hW⟩ := hW
              subst hW
              obtain ⟨b, off, pa, pc, d, rfl, d0, hrd, hd1, hd2, hd3, hd4⟩ := HQ.out i his
              have d1 := held1 HX.upd d0
              obtain ⟨mm, hmm⟩ : ∃ mm, mm = min d.length 700 := ⟨_, rfl⟩
              have hmin : min (d.length : Int) 700 = (mm : Int) := by omega
              have hmd : mm ≤ d.length := by omega
              have hm7 : mm ≤ 700 := by omega
              have hmpc : mm ≤ pc := by omega
              have hrc := hrd.head mm hmd
              have hdl : (d.take mm).length = mm := by rw [List.length_take]; omega
              have hne : d.take mm ≠ [] → ∀ g, (Value.slice pa mm pc).ownBlock = some g → g < w.heap.size := fun q g hg => hd4 (fun e => q (by rw [e]; simp)) g (by cases pa <;> exact hg)
              have HR := Lib.hid (And.intro hrc (And.intro hdl hne))
              clear d0 hrd hd4 hrc hdl hne HX hmm
              go_wp2_with fail
              go_quiet (fail)
              have hst := HS'.out.keep ((Upd.refl [] W).drewN nq)
              generalize W.drewN nq = W2 at *
              have HAp := Lib.hid (hst.appB (by omega) (HR.out.1.keep hst.upd) HR.out.2.2 (by rw [HR.out.2.1]; omega) (by rw [HR.out.2.1]; unfold blocksN; omega) ⟨#[98]⟩ hn2 hz2)
              clear hst
              go_wp2_with fail
              refine HAp.out.mono ?_
              rintro r w6 ⟨rfl, h6⟩
              have hlB : (B ++ d.take mm).length = B.length + mm := by rw [List.length_append, HR.out.2.1]
              have HLB := Lib.hid hlB
              have HAq := Lib.hid (h6.appC (by omega) (HR.out.1.keep h6.upd) HR.out.2.2 (by rw [HR.out.2.1]; omega) (by rw [HR.out.2.1, HLB.out]; unfold blocksN; omega) ⟨#[99]⟩ hn3 hz3)
              clear h6 HAp hlB
              go_wp2_with fail
              refine HAq.out.mono ?_
              rintro r w7 ⟨rfl, h7⟩
              have ht := Rd.str (HR.out.1.keep h7.upd)
              have hsd := strOf_size (d.take mm)
              rw [HR.out.2.1] at hsd
              have hB8 : (B.length : Int) ≤ 8388608 := by omega
              have hd8 : (mm : Int) ≤ 8388608 := by omega
              have HCA : Hid (T ++ strOf (d.take mm) = strOf (B ++ d.take mm)) := Lib.hid (by rw [HTB.out]; exact strOf_append B _)
              have H7 := Lib.hid h7
              clear h7 HAq
              generalize strOf (d.take mm) = sd at *
              go_wp2_with fail
              go_meet
              exact ⟨_, _, c' + 1 + 1, rfl, HCA, by rw [HLB.out]; omega, by omega, H7⟩
            · have his' : ¬ (i : Int) < (tl : Int) := by omega
              go_wp2_with fail
              go_meet
              exact ⟨T, B, c', rfl, HTB, by omega, by omega, HS'⟩
          case rest =>
            obtain ⟨T', B', c'', rfl, HTB', hB', hc'', HS''⟩ := hcut
            by_cases hi5 : i = 5
            · have hb5 : ((i : Int) == 5) = true := by rw [hi5]; rfl
              have HSy := Lib.hid (HS''.out.sync (by omega))
              go_wp2_with fail
              refine HSy.out.mono ?_
              rintro r w8 ⟨rfl, last', h8⟩
              have H8 := Lib.hid h8
              clear h8 HSy
              go_wp2_with fail
              go_roundg (12 - (i + 1))
              case measure => omega
              case rel => exact ⟨i + 1, S', T', A', B', c'' + 1, last', rfl, rfl, HSA', HTB', by go_num, by omega, rfl, hA', hB', by omega, H8⟩
            · have hb5 : ((i : Int) == 5) = false := by simp; omega
              go_wp2_with fail
              go_roundg (12 - (i + 1))
              case measure => omega
              case rel => exact ⟨i + 1, S', T', A', B', c'', last, rfl, rfl, HSA', HTB', by go_num, by omega, rfl, hA', hB', by omega, HS''⟩
      · have hi12' : ¬ (i : Int) < 12 := by omega
        go_wp2_with fail
        go_meet
        exact ⟨S, T, A, B, c, last, rfl, rfl, HSA, HTB, by omega, by omega, by omega, HS⟩
  case rest =>
    obtain ⟨S, T, A, B, c, last, rfl, rfl, HSA, HTB, hA, hB, hc, HS⟩ := hcut
    obtain ⟨ga, gb, gc, k1, k2, k3, k4, k5, k6⟩ := HS.out.blks
    have hD3 := drop3 ga gb gc
    have HD3 := Lib.hid hD3
    have hSl : S.size ≤ 140737488355328 := by rw [HSA.out, strOf_size]; omega
    have HSl := Lib.hid hSl
    have HK := Lib.hid (And.intro k1 (And.intro k2 (And.intro k3 (And.intro k4 (And.intro k5 k6)))))
    clear hD3 hSl k1 k2 k3 k4 k5 k6
    cases drop
    case' false =>
      obtain ⟨W9, hW9⟩ : ∃ W, W = wc := ⟨_, rfl⟩
      subst hW9
      obtain ⟨fs9, hfs9⟩ : ∃ fs9, fs9 = [(nmA, ga), (nmB, gb), (nmC, gc)] := ⟨_, rfl⟩
      obtain ⟨last9, hlast9⟩ : ∃ x, x = last := ⟨_, rfl⟩
      obtain ⟨c9, hc9'⟩ : ∃ x, x = c := ⟨_, rfl⟩
      obtain ⟨G9, hG9⟩ : ∃ x : List Nat, x = [] := ⟨_, rfl⟩
      have H9 : Hid (Lv w W9 v p 84 fs9 last9 c9 G9 ∧ getA fs9 nmA = some ga ∧ getA fs9 nmB = some gb) := by
        rw [hfs9, hlast9, hc9', hG9]; exact Lib.hid ⟨HK.out.1, rfl, rfl⟩
      have hc9 : c9 ≤ 200 := by omega
      clear hfs9 hlast9 hc9' hG9
    case' true =>
      have HRm := Lib.hid (HK.out.1.remove (by omega) ⟨#[99]⟩ hz3)
      rw [hn3, HD3.out.1, HD3.out.2.1] at HRm
      go_wp2_with fail
      refine HRm.out.mono ?_
      rintro r w6 ⟨rfl, hlv, -⟩
      have HSy := Lib.hid (hlv.sync (by omega))
      clear hlv HRm
      go_wp2_with fail
      refine HSy.out.mono ?_
      rintro r w7 ⟨rfl, hlv, -⟩
      have HCd := Lib.hid (hlv.create ⟨#[100]⟩ hz4)
      rw [hn4, HD3.out.2.2.1, HD3.out.2.2.2] at HCd
      clear hlv HSy
      go_wp2_with fail
      refine HCd.out.mono ?_
      rintro r w8 ⟨rfl, hlv, -⟩
      have H8 := Lib.hid hlv
      clear hlv HCd
      obtain ⟨dv, w8', hrun, hdv, hown, hu8, hsz8⟩ := conv_row w8 S HSl.out
      have hl8 := H8.out.guard hu8 (G' := [w8.heap.size]) (by intro b hb; obtain rfl := List.mem_singleton.1 hb; omega)
      have hSd : S.data.toList = A := by rw [HSA.out]; exact strOf_list A
      rw [hSd] at hdv
      have hgd : getA [(nmA, ga), (nmB, gb), (nmD, emptyF)] nmD = some emptyF := rfl
      have hb0 : (allBlks [(nmA, ga), (nmB, gb), (nmD, emptyF)]).length ≤ 34 := by
        obtain ⟨l8, k8, s8, hi8⟩ := hl8.inv
        rw [blks3 hi8.now, HK.out.2.1, HK.out.2.2.1]
        have : emptyF.data.length = 0 := rfl
        rw [this]
        unfold blocksN
        omega
      have hsub8 : ∀ b ∈ allBlks [(nmA, ga), (nmB, gb)], b ∈ allBlks [(nmA, ga), (nmB, gb), (nmD, emptyF)] := by
        intro b hb
        simp only [allBlks, List.flatMap_cons, List.flatMap_nil, List.append_nil, List.mem_append] at hb ⊢
        rcases hb with q | q
        · exact .inl q
        · exact .inr (.inl q)
      have hcode := hl8.app_code hsub8 hgd (n := A.length) (by show 0 + A.length ≤ 32768; omega) (by unfold needN; have : emptyF.data.length = 0 := rfl; rw [this]; unfold blocksN; omega)
      have hAp := hl8.append (by omega) ⟨#[100]⟩ hz4 hdv (fun _ g hg => .inl (by rw [hown] at hg; cases hg; simp)) (by omega)
      have hapd : apdF 84 [(nmA, ga), (nmB, gb), (nmD, emptyF)] [(nmA, ga), (nmB, gb)] nmD A = [(nmA, ga), (nmB, gb), (nmD, growF 84 [(nmA, ga), (nmB, gb), (nmD, emptyF)] [(nmA, ga), (nmB, gb)] emptyF A)] := by
        unfold apdF
        rw [if_pos hcode]
        rfl
      rw [hn4, hcode, hapd] at hAp
      have HAp := Lib.hid hAp
      clear hAp hapd hcode hb0 hsub8 hl8 hSd hdv hgd hu8 hsz8 hown
      go_wp2_with fail
      refine HAp.out.mono ?_
      rintro r W9 ⟨rfl, hlv, -⟩
      obtain ⟨fs9, hfs9⟩ : ∃ fs9, fs9 = [(nmA, ga), (nmB, gb), (nmD, growF 84 [(nmA, ga), (nmB, gb), (nmD, emptyF)] [(nmA, ga), (nmB, gb)] emptyF A)] := ⟨_, rfl⟩
      obtain ⟨last9, hlast9⟩ : ∃ x, x = [(nmA, ga), (nmB, gb)] := ⟨_, rfl⟩
      obtain ⟨c9, hc9'⟩ : ∃ x, x = c + 1 + 1 := ⟨_, rfl⟩
      obtain ⟨G9, hG9⟩ : ∃ x : List Nat, x = [w8.heap.size] ++ [] := ⟨_, rfl⟩
      have H9 : Hid (Lv w W9 v p 84 fs9 last9 c9 G9 ∧ getA fs9 nmA = some ga ∧ getA fs9 nmB = some gb) := by
        rw [hfs9, hlast9, hc9', hG9]; exact Lib.hid ⟨hlv, rfl, rfl⟩
      have hc9 : c9 ≤ 200 := by omega
      clear hfs9 hlast9 hc9' hG9 hlv HAp H8
    all_goals
      have HR1 := Lib.hid (Three.read H9.out.1 (by omega) ⟨#[97]⟩ hz1 (f := ga) H9.out.2.1)
      go_wp2_with fail
      refine HR1.out.mono ?_
      rintro r w10 ⟨rv, rfl, ho, hlv, -⟩
      have HR2 := Lib.hid (Three.read hlv (by omega) ⟨#[98]⟩ hz2 (f := gb) H9.out.2.2)
      have HO := Lib.hid ho
      clear ho hlv HR1
      go_wp2_with fail
      refine HR2.out.mono ?_
      rintro r w11 ⟨rv2, rfl, ho2, hlv, hst⟩
      have ho1 := hst.ow HO.out (fun q hq => by simp [hq])
      have HU := Lib.hid hlv.upd
      have hta := ho1.rd.str
      have htb := ho2.rd.str
      rw [HK.out.2.1] at hta
      rw [HK.out.2.2.1] at htb
      have hea : ((strOf A).toList == S.toList) = true := by rw [HSA.out]; simp
      have heb : ((strOf B).toList == T.toList) = true := by rw [HTB.out]; simp
      generalize strOf A = xa at *
      generalize strOf B = xb at *
      clear ho1 ho2 hlv hst HR2
      go_wp2_with fail
      go_ret
      exact ⟨by simp, HU.out⟩
end Go.Proofs.YteepgehjkcahiaaGreat

namespace Go.Proofs.YteepgehjkcahiaaGreat
namespace fsdirApart
open Go.ChangeShapes Go.WideShapes Go.ChangeAt Go.RowKit
theorem laidOut : laidOutB Tryz.prog = true := by kernel_rfl
theorem own : ownKnob Tryz.prog.godebug = none := by kernel_rfl

set_option maxRecDepth 100000 in
theorem lifted (os : Os) (started : os.Started) (H : Type) (enc : TypeId × Value → H) :
    ReturnsInHanded {} Tryz.checked os 4 .any (Rows.fsdirApartSpec.pre6 enc Tryz.prog Tryz.f4 Rows.fsdirApartRow.domain false) (Rows.fsdirApartSpec.post enc Tryz.prog Tryz.f4 false true false false) := by
  refine returnsInHanded_of_change_sized (C := Tryz.checked) own started (by kernel_rfl) Tryz.func4
    (ChangeSpec.witness6 (enc := enc) (C := Tryz.checked) false ⟨#[], #[.slice none 0 0, .slice none 0 0, .bool false], []⟩ 8 (by kernel_rfl) (by kernel_rfl) (by kernel_rfl) (by kernel_rfl)) ?_
  intro W base args ds gs before hval0 hW _ hsz0 _
  have hval : ∀ (j : Nat) t v, Tryz.f4.params[j]? = some t → args[j]? = some v → Value.okWide Tryz.prog W .any base t v := hval0
  have hW' := hW
  obtain ⟨p, q, hA0, hV, rfl, hfz, hnd⟩ := hW
  have hA : DataW.TrodAll enc Tryz.prog W 0 (fun _ => true) true Tryz.f4.params.toList args.toList ds p := hA0
  obtain ⟨rfl, rfl⟩ := trodVars_none hV
  have hsz : (DataW.weightsEach Tryz.prog (Tryz.f4.params.toList ++ []) (ds ++ [])).all (· ≤ reachBytes) = true := hsz0
  rw [Tryz.params4] at hA hval hsz
  obtain ⟨v1, vs1, d1, ds1, p1, q1, hargs, rfl, rfl, h1, r1⟩ := trodAll_cons hA
  obtain ⟨v2, vs2, d2, ds2, p2, q2, rfl, rfl, rfl, h2, r2⟩ := trodAll_cons r1
  obtain ⟨v3, vs3, d3, ds3, p3, q3, rfl, rfl, rfl, h3, r3⟩ := trodAll_cons r2
  obtain ⟨rfl, rfl, rfl⟩ := trodAll_nil r3
  obtain rfl : args = #[v1, v2, v3] := by cases args; simp_all
  obtain ⟨fu1, h1⟩ := h1
  obtain ⟨v, l, e1, hs, hok⟩ := open_pcs h1 (wt_arg hsz (j := 0) rfl rfl)
  obtain rfl := arg_sl Tryz.underlying36 (hval 0 36 v1 rfl rfl) rfl e1
  obtain ⟨fu2, h2⟩ := h2
  obtain ⟨v', l', e2, hs', hok'⟩ := open_pcs h2 (wt_arg hsz (j := 1) rfl rfl)
  obtain rfl := arg_sl Tryz.underlying36 (hval 1 36 v2 rfl rfl) rfl e2
  obtain ⟨drop, rfl⟩ := okWide_bool Tryz.underlying4 (hval 2 4 v3 rfl rfl)
  obtain ⟨sa, sl, sc, rfl⟩ := okWide_slice Tryz.underlying36 (hval 0 36 v rfl rfl)
  obtain ⟨sb, tl, tc, rfl⟩ := okWide_slice Tryz.underlying36 (hval 1 36 v' rfl rfl)
  have hl : sl ≤ 9223372036854775807 := by
    obtain ⟨a, c, hv, q1, q2, -⟩ := hs
    simp only [Value.slice.injEq] at hv
    obtain ⟨-, rfl, rfl⟩ := hv
    unfold maxLen at q2
    omega
  have hl' : tl ≤ 9223372036854775807 := by
    obtain ⟨a, c, hv, q1, q2, -⟩ := hs'
    simp only [Value.slice.injEq] at hv
    obtain ⟨-, rfl, rfl⟩ := hv
    unfold maxLen at q2
    omega
  refine (fsapart_walk W sa sb sl sc tl tc l l' drop hs hok hs' hok' hl hl').mono fun e W' ⟨he, hu⟩ => ?_
  subst he
  exact ⟨_, rfl, post_true (B := 4) rfl laidOut (by rw [Tryz.params4]; decide +kernel) rfl Tryz.underlying4 hW' hu rfl⟩

theorem over : Rows.fsdirApartRow.holds Tryz.pinned (OpenSpec.ofChange Rows.fsdirApartSpec) :=
  OpenClaim.holds_of_wide 4 Tryz.f4 rfl rfl rfl rfl rfl rfl rfl ⟨rfl, rfl, rfl, rfl, rfl⟩ rfl rfl rfl rfl rfl (by kernel_rfl) Tryz.func4 (by kernel_rfl)
    (of_decide_eq_true (by kernel_rfl)) (by unfold Func.isWrapper; first | (rw [if_pos (by decide +kernel)]; kernel_rfl) | (rw [if_neg (by decide +kernel)]; exact ⟨rfl, rfl⟩))
    (fun os started H enc _ => lifted os started H enc)

theorem proved : Rows.FsdirApartSaid := over
#print axioms proved
end fsdirApart
end Go.Proofs.YteepgehjkcahiaaGreat
