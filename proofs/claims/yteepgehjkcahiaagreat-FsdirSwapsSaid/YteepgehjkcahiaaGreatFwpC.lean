/- FsdirAtoms: the walk. FsdirSwaps: the walk. FsdirSwaps returns true, whatever the bytes, the number and the picks are, in whatever memory, and leaves all that was there as it was. No condition. -/
import Derived.Test.YteepgehjkcahiaaGreatC39
import Derived.Test.YteepgehjkcahiaaGreatRows
namespace Go.Proofs.YteepgehjkcahiaaGreat
open Go.RowKit Go.Maps

def nmE : Bs := [101]
/-- Sync, whether the device goes down in it or not. -/
theorem LvF.sync2 {w0 w : World} {v p room : Nat} {fs last : Files} {c : Nat} {G : List Nat} (h : LvF w0 w v p room fs last c G) (hc : c ≤ 1000000) :
    Calls Tryz.prog 18 #[.pointer (some ⟨v, 0, none⟩)] w fun r w' => ∃ e : Int, r = .returned (.int .i64 e) ∧ ∃ dn : Bool, (e == 0) = !dn ∧ (e != 0) = dn ∧ (dn = true → e = 2) ∧ Dv w0 w' p room (fun f => f = fs ∨ (dn = true ∧ f = last)) (c + 1) G ∧ Stay G w w' ∧ Calls Tryz.prog 29 #[.pointer (some ⟨p, 0, none⟩)] w' fun r w'' => r = .returned (.bool dn) ∧ w' = w'' := by
  refine (h.sync hc).mono fun r w' hr => ?_
  rcases hr with ⟨rfl, hl, hst⟩ | ⟨rfl, hl, hst⟩
  · exact ⟨0, rfl, false, rfl, rfl, (fun q => by cases q), hl.dv.imp (fun f q => .inl q), hst, hl.down.mono fun r w'' ⟨a, b⟩ => ⟨a, b.symm⟩⟩
  · exact ⟨2, rfl, true, rfl, rfl, fun _ => rfl, hl.dv.imp (fun f q => q.elim (fun q => .inr ⟨rfl, q⟩) .inl), hst, hl.down.mono fun r w'' ⟨a, b⟩ => ⟨a, b.symm⟩⟩
theorem atoms_plain (g : Fil) : codeC false [] nmA = 0 ∧ crtF [] nmA = [(nmA, emptyF)] ∧ codeC false [(nmA, g)] nmC = 0 ∧ crtF [(nmA, g)] nmC = [(nmA, g), (nmC, emptyF)] ∧ codeN false [(nmA, g), (nmC, emptyF)] nmC nmD = 0 ∧ renF [(nmA, g), (nmC, emptyF)] nmC nmD = [(nmA, g), (nmD, emptyF)] ∧ codeC false [(nmA, g), (nmD, emptyF)] nmE = 0 ∧ crtF [(nmA, g), (nmD, emptyF)] nmE = [(nmA, g), (nmD, emptyF), (nmE, emptyF)] := by
  refine ⟨rfl, rfl, rfl, rfl, rfl, rfl, rfl, rfl⟩
theorem Lv.apd {w0 w : World} {v p room : Nat} {fs last : Files} {c : Nat} {G : List Nat} (h : Lv w0 w v p room fs last c G) (hs : ∀ b ∈ allBlks last, b ∈ allBlks fs) {nm : Bs} {f : Fil} (hg : getA fs nm = some f) {d : Bs} (hm : f.data.length + d.length ≤ 32768) {m : Nat} (hk : ∀ q ∈ fs, q.2.data.length ≤ 512 * m) (hb : m * fs.length + needN f d.length ≤ room) :
    codeP room fs last nm d.length = 0 ∧ ∃ g : Fil, g.data = f.data ++ d ∧ apdF room fs last nm d = putA ltN fs nm g := by
  obtain ⟨l, k, s, hi⟩ := h.inv
  have hle := blks_le hi.now hk
  have hc := h.app_code hs hg (n := d.length) hm (by omega)
  refine ⟨hc, growF room fs last f d, growF_data _ _ _ _ _, ?_⟩
  unfold apdF
  rw [if_pos hc]
  unfold appF
  rw [hg]
theorem need_le (f : Fil) (n : Nat) : needN f n ≤ n / 512 + 1 := by unfold needN blocksN; omega
/-- Reading a file from its start, more than it has. -/
theorem Lv.readAll {w0 w : World} {v p room : Nat} {fs last : Files} {c : Nat} {G : List Nat} {f : Fil} (h : Lv w0 w v p room fs last c G) (hc : c ≤ 1000000) (nm : ByteArray) (hs : nm.size ≤ maxLen) (hg : getA fs nm.data.toList = some f) (n : Nat) (hn : f.data.length ≤ n) :
    Calls Tryz.prog 20 #[.pointer (some ⟨v, 0, none⟩), .string nm, .int .i64 0, .int .i64 (n : Int)] w fun r w' => ∃ rv, r = .returned (.tuple #[rv, .int .i64 0]) ∧ Ow w' w.heap.size rv f.data ∧ Lv w0 w' v p room fs last c (rv.ownBlock.toList ++ G) ∧ Stay G w w' := by
  have hcR : codeR fs nm.data.toList 0 n = 0 := by unfold codeR; rw [hg]; dsimp only; rw [if_neg (by omega)]
  have hdR : dataR fs nm.data.toList 0 n = f.data := by unfold dataR; rw [hg]; dsimp only; rw [show (0 : Int).toNat = 0 from rfl, List.drop_zero, List.take_of_length_le (by simp only [Int.toNat_natCast]; exact hn)]
  refine (h.read hc nm hs 0 n).mono fun r w' ⟨rv, e, ho, _, hl, hst⟩ => ?_
  rw [hcR] at e ho
  rw [hdR] at ho
  exact ⟨rv, e, ho rfl, hl, hst⟩
theorem made_texts (w : World) (l : List Bs) (h1 : l.length ≤ 1000000) : RdT (w.alloc (.cells (flatG cT l).toArray 9)) (.slice (some ⟨w.heap.size, 0, none⟩) l.length l.length) l := by
  refine ⟨some ⟨w.heap.size, 0, none⟩, l.length, rfl, Nat.le_refl _, by unfold maxLen; omega, fun i hi => ⟨w.heap.size, 0, rfl, fun j u hu => ?_⟩⟩
  have hj : j < 1 := (List.getElem?_eq_some_iff.1 hu).1
  rw [cell_blk (heap_top w _), Nat.zero_add, List.getElem?_toArray, flatG_at TT l i hi j hj]
  exact hu

set_option maxRecDepth 100000 in
set_option maxHeartbeats 16000000 in
theorem fsatoms_walk (w : World) (sa sb qa : Option Addr) (sl sc tl tc ql qc : Nat) (d e : Bs) (k : Int) (picks : List Int) (hs : Rd w (.slice sa sl sc) d) (ht : Rd w (.slice sb tl tc) e) (hso : d ≠ [] → ∀ g, (Value.slice sa sl sc).ownBlock = some g → g < w.heap.size) (hto : e ≠ [] → ∀ g, (Value.slice sb tl tc).ownBlock = some g → g < w.heap.size) (hk : In64 k) (hp : RdZ w (.slice qa ql qc) picks) (hpk : ∀ x ∈ picks, -9223372036854775808 ≤ x ∧ x ≤ 9223372036854775807) (hpo : picks ≠ [] → ∀ b, (Value.slice qa ql qc).ownBlock = some b → b < w.heap.size) :
    Calls Tryz.prog 7 #[.slice sa sl sc, .slice sb tl tc, .int .i64 k, .slice qa ql qc] w fun r w' => r = .returned (.bool true) ∧ Upd [] w w' := by
  have HA := Lib.hid (awake_ok w)
  have HL := Lib.hid fun (X : World) (u : Upd [] w X) => lv_laid w u 64 (by omega) (by omega)
  have HCR := Lib.hid fun (X : World) (p room : Nat) (P : Files → Prop) (c' : Nat) (G : List Nat) (h : Dv w X p room P c' G) (hc : c' ≤ 1000000) => h.crash hc (hp.keep TZ h.upd) hpk (fun q b hb => .inr (hpo q b hb))
  have HPk := Lib.hid fun X : World => pick_ok k 60 X hk.1 hk.2 (by omega) (by omega)
  obtain ⟨hs1, hs2, hs3, -⟩ := hs.cell
  obtain ⟨ht1, ht2, ht3, -⟩ := ht.cell
  obtain ⟨mm, hmm⟩ : ∃ mm, mm = min sl 3000 := ⟨_, rfl⟩
  obtain ⟨nn, hnn⟩ : ∃ nn, nn = min tl 3000 := ⟨_, rfl⟩
  have hmin1 : min (sl : Int) 3000 = (mm : Int) := by omega
  have hmin2 : min (tl : Int) 3000 = (nn : Int) := by omega
  have hms : mm ≤ sc := by omega
  have hns : nn ≤ tc := by omega
  have hm3 : mm ≤ 3000 := by omega
  have hn3 : nn ≤ 3000 := by omega
  have hsc : sc ≤ 9223372036854775807 := by unfold maxLen at hs3; omega
  have htc : tc ≤ 9223372036854775807 := by unfold maxLen at ht3; omega
  have hr1 := hs.head mm (by omega)
  have hr2 := ht.head nn (by omega)
  have hl1 : (d.take mm).length = mm := by rw [List.length_take]; omega
  have hl2 : (e.take nn).length = nn := by rw [List.length_take]; omega
  have ho1 : d.take mm ≠ [] → ∀ g, (Value.slice sa mm sc).ownBlock = some g → g < w.heap.size := fun q g hg => hso (fun e => q (by rw [e]; simp)) g (by cases sa <;> exact hg)
  have ho2 : e.take nn ≠ [] → ∀ g, (Value.slice sb nn tc).ownBlock = some g → g < w.heap.size := fun q g hg => hto (fun e => q (by rw [e]; simp)) g (by cases sb <;> exact hg)
  generalize d.take mm = x1 at *
  generalize e.take nn = x2 at *
  have HR1 := Lib.hid (And.intro hr1 (And.intro hl1 ho1))
  have HR2 := Lib.hid (And.intro hr2 (And.intro hl2 ho2))
  have hna : (⟨#[97]⟩ : ByteArray).data.toList = nmA := rfl
  have hnc : (⟨#[99]⟩ : ByteArray).data.toList = nmC := rfl
  have hnd : (⟨#[100]⟩ : ByteArray).data.toList = nmD := rfl
  have hne : (⟨#[101]⟩ : ByteArray).data.toList = nmE := rfl
  have hza : (⟨#[97]⟩ : ByteArray).size ≤ maxLen := by unfold maxLen; decide
  have hzc : (⟨#[99]⟩ : ByteArray).size ≤ maxLen := by unfold maxLen; decide
  have hzd : (⟨#[100]⟩ : ByteArray).size ≤ maxLen := by unfold maxLen; decide
  have hze : (⟨#[101]⟩ : ByteArray).size ≤ maxLen := by unfold maxLen; decide
  have HNM := Lib.hid (And.intro hna (And.intro hnc (And.intro hnd (And.intro hne (And.intro hza (And.intro hzc (And.intro hzd hze)))))))
  clear hs ht hso hto hk hp hpk hpo hs1 hs2 hs3 ht1 ht2 ht3 hmm hnn hr1 hr2 hl1 hl2 ho1 ho2 hna hnc hnd hne hza hzc hzd hze
  go_enter Tryz.func7, Tryz.ntmps7
  go_wp2_with fail
  refine HA.out.mono ?_
  rintro r w1 ⟨rfl, hu1⟩
  have HU1 := Lib.hid hu1
  clear hu1
  go_wp2_with fail
  refine (HL.out _ HU1.out).mono ?_
  rintro r w2 ⟨p, v, rfl, hlv, -⟩
  have H2 : Hid (Lv w w2 v p 28 [] [] 0 []) := Lib.hid hlv
  have hcr := H2.out.create ⟨#[97]⟩ HNM.out.2.2.2.2.1
  rw [HNM.out.1, (atoms_plain emptyF).1, (atoms_plain emptyF).2.1] at hcr
  have HC := Lib.hid hcr
  clear hlv hcr HL HA
  go_wp2_with fail
  refine HC.out.mono ?_
  rintro r w3 ⟨rfl, hlv, -⟩
  obtain ⟨hc1, g1, hg1, ha1⟩ := hlv.apd (by simp [allBlks]) (nm := nmA) (f := emptyF) rfl (d := x1) (m := 0) (by show 0 + x1.length ≤ 32768; rw [HR1.out.2.1]; omega) (by intro q hq; rw [List.mem_singleton.1 hq]; simp [emptyF]) (by have := need_le emptyF x1.length; rw [HR1.out.2.1] at this ⊢; omega)
  have hap := hlv.append (by omega) ⟨#[97]⟩ HNM.out.2.2.2.2.1 (HR1.out.1.keep hlv.upd) (fun q g hg => .inr (HR1.out.2.2 q g hg)) (by rw [HR1.out.2.1]; omega)
  rw [HNM.out.1, hc1, ha1, show putA ltN [(nmA, emptyF)] nmA g1 = [(nmA, g1)] from rfl] at hap
  rw [show emptyF.data = [] from rfl, List.nil_append] at hg1
  have HG1 := Lib.hid hg1
  have HAp := Lib.hid hap
  clear hlv hc1 hg1 ha1 hap HC
  go_wp2_with fail
  refine HAp.out.mono ?_
  rintro r w4 ⟨rfl, hlv, -⟩
  have hcr := hlv.create ⟨#[99]⟩ HNM.out.2.2.2.2.2.1
  rw [HNM.out.2.1, (atoms_plain g1).2.2.1, (atoms_plain g1).2.2.2.1] at hcr
  have HC := Lib.hid hcr
  clear hlv hcr HAp
  go_wp2_with fail
  refine HC.out.mono ?_
  rintro r w5 ⟨rfl, hlv, -⟩
  have HSy := Lib.hid (hlv.sync (by omega))
  clear hlv HC
  go_wp2_with fail
  refine HSy.out.mono ?_
  rintro r w6 ⟨rfl, hlv, -⟩
  obtain ⟨hc1, g2, hg2, ha1⟩ := hlv.apd (fun b hb => hb) (nm := nmA) (f := g1) rfl (d := x2) (m := 6) (by rw [HG1.out, HR1.out.2.1, HR2.out.2.1]; omega) (by
    intro q hq
    rcases List.mem_cons.1 hq with rfl | hq
    · rw [HG1.out, HR1.out.2.1]; omega
    · rw [List.mem_singleton.1 hq]; simp [emptyF]) (by have := need_le g1 x2.length; rw [HR2.out.2.1] at this ⊢; simp only [List.length_cons, List.length_nil]; omega)
  have hap := hlv.append (by omega) ⟨#[97]⟩ HNM.out.2.2.2.2.1 (HR2.out.1.keep hlv.upd) (fun q g hg => .inr (HR2.out.2.2 q g hg)) (by rw [HR2.out.2.1]; omega)
  rw [HNM.out.1, hc1, ha1, show putA ltN [(nmA, g1), (nmC, emptyF)] nmA g2 = [(nmA, g2), (nmC, emptyF)] from rfl] at hap
  rw [HG1.out] at hg2
  have HG2 := Lib.hid hg2
  have HAp := Lib.hid hap
  clear hlv hc1 hg2 ha1 hap HSy
  go_wp2_with fail
  refine HAp.out.mono ?_
  rintro r w7 ⟨rfl, hlv, -⟩
  have hrn := hlv.rename (by omega) ⟨#[99]⟩ ⟨#[100]⟩ HNM.out.2.2.2.2.2.1 HNM.out.2.2.2.2.2.2.1
  rw [HNM.out.2.1, HNM.out.2.2.1, (atoms_plain g2).2.2.2.2.1, (atoms_plain g2).2.2.2.2.2.1] at hrn
  have HRn := Lib.hid hrn
  clear hlv hrn HAp
  go_wp2_with fail
  refine HRn.out.mono ?_
  rintro r w8 ⟨rfl, hlv, -⟩
  have hcr := hlv.create ⟨#[101]⟩ HNM.out.2.2.2.2.2.2.2
  rw [HNM.out.2.2.2.1, (atoms_plain g2).2.2.2.2.2.2.1, (atoms_plain g2).2.2.2.2.2.2.2] at hcr
  have HC := Lib.hid hcr
  clear hlv hcr HRn
  go_wp2_with fail
  refine HC.out.mono ?_
  rintro r w9 ⟨rfl, hlv, -⟩
  have hlf := LvF.of hlv (by omega)
  have HFu := Lib.hid fun (n : Int) (hn : In64 n) => hlf.fuse n hn
  clear hlv hlf HC
  go_wp2_with fail
  refine (HPk.out _).mono ?_
  rintro r w10 ⟨⟨rr, rfl, hr0, hr1⟩, rfl⟩
  go_wp2_with fail
  refine (HFu.out _ ⟨by omega, by omega⟩).mono ?_
  rintro r w11 ⟨rfl, hlf, -, -⟩
  have HSy := Lib.hid (hlf.sync2 (by omega))
  clear hlf HFu HPk hr0 hr1
  go_wp2_with fail
  refine HSy.out.mono ?_
  rintro r w12 ⟨ec, rfl, dn, he1, he2, -, hdv, -, hdn⟩
  have HDv := Lib.hid hdv
  have HDn := Lib.hid hdn
  clear hdv hdn HSy
  go_wp2_with fail
  refine HDn.out.mono ?_
  rintro r w13 ⟨rfl, rfl⟩
  have HCr := Lib.hid (HCR.out _ _ _ _ _ _ HDv.out (by omega))
  clear HDv HDn
  go_wp2_with fail
  refine HCr.out.mono ?_
  rintro r w14 ⟨rfl, hcf, -⟩
  have HMo := Lib.hid (hcf.mount (by omega))
  clear hcf HCr HCR
  go_wp2_with fail
  refine HMo.out.mono ?_
  rintro r w15 (⟨v2, fs2, rfl, hP, -, -, hlv⟩ | ⟨q, -⟩)
  case' inr => cases q
  have hbd : ((!dn) == dn) = false := by cases dn <;> rfl
  have hlv2 : Lv w w15 v2 p 28 fs2 fs2 (0 + 1 + 1 + 1 + 1 + 1) [] := hlv trivial
  obtain ⟨f, NS, hgf, hNS, hfl, hcase⟩ : ∃ f NS, getA fs2 nmA = some f ∧ fs2.map (·.1) = NS ∧ f.data.length ≤ 7000 ∧ ((f.data = x1 ++ x2 ∧ NS = [nmA, nmD, nmE]) ∨ (dn = true ∧ f.data = x1 ∧ NS = [nmA, nmC])) := by
    rcases hP with rfl | ⟨rfl, rfl⟩
    · exact ⟨g2, _, rfl, rfl, by rw [HG2.out, List.length_append, HR1.out.2.1, HR2.out.2.1]; omega, .inl ⟨HG2.out, rfl⟩⟩
    · exact ⟨g1, _, rfl, rfl, by rw [HG1.out, HR1.out.2.1]; omega, .inr ⟨rfl, HG1.out, rfl⟩⟩
  have HRd := Lib.hid (hlv2.readAll (by omega) ⟨#[97]⟩ HNM.out.2.2.2.2.1 (f := f) (by rw [HNM.out.1]; exact hgf) 7000 hfl)
  have HCS := Lib.hid (And.intro hNS hcase)
  clear hlv hlv2 hP hgf hNS hfl hcase HMo
  go_wp2_with fail
  refine HRd.out.mono ?_
  rintro r w16 ⟨rv, rfl, ho, hlv, -⟩
  have HLi := Lib.hid hlv.list
  have HO := Lib.hid ho
  clear ho hlv HRd
  go_wp2_with fail
  refine HLi.out.mono ?_
  rintro r w17 ⟨u, rfl, hou, hu17, hlv⟩
  have ho17 := HO.out.upd hu17 (by simp)
  rw [HCS.out.1] at hou
  have H17 := Lib.hid (And.intro ho17 (And.intro hou hlv.upd))
  clear ho17 hou hu17 hlv HLi HO
  go_upto_region 23 with (fail)
  go_cut [26] (fun v26 wx => ∃ o : Bool, v26 = .bool o ∧ Hid (Upd [] w17 wx ∧ (f.data = x1 → NS = [nmA, nmC] → o = true)))
  case first =>
    have hb := strOf_beq f.data x1
    have htx := Rd.str (Ow.rd H17.out.1)
    have hty := Rd.str (HR1.out.1.keep H17.out.2.2)
    by_cases he : f.data = x1
    · rw [decide_eq_true he] at hb
      have hrt : RdT (w17.alloc (.cells #[.string ⟨#[97]⟩, .string ⟨#[99]⟩] 9)) (.slice (some ⟨w17.heap.size, 0, none⟩) 2 2) [nmA, nmC] := made_texts w17 [nmA, nmC] (by decide)
      have HST := Lib.hid (same_texts _ ((OwnG.sl TT H17.out.2.1).keep (fun _ _ _ h j x hx => cell_keep ((Upd.refl [] w17).alloc _) (h j x hx))) hrt)
      clear he hrt
      generalize strOf f.data = s1 at *
      generalize strOf x1 = s2 at *
      go_wp2_with fail
      refine HST.out.mono ?_
      rintro r w18 ⟨rfl, hu18⟩
      have HU := Lib.hid (((Upd.refl [] w17).alloc _).trans hu18)
      clear hu18 HST
      go_wp2_with fail
      go_meet
      exact ⟨_, rfl, Lib.hid ⟨HU.out, fun _ q => decide_eq_true q⟩⟩
    · rw [decide_eq_false he] at hb
      have HE := Lib.hid he
      clear he
      generalize strOf f.data = s1 at *
      generalize strOf x1 = s2 at *
      go_wp2_with fail
      go_meet
      exact ⟨false, rfl, Lib.hid ⟨Upd.refl [] _, fun q => absurd q HE.out⟩⟩
  case rest =>
    obtain ⟨o, rfl, HC1⟩ := hcut
    have H18 := Lib.hid (And.intro (H17.out.1.upd HC1.out.1 (by simp)) (And.intro (H17.out.2.1.upd HC1.out.1 (by simp)) (H17.out.2.2.trans HC1.out.1)))
    obtain ⟨w18, hw18⟩ : ∃ w18, w18 = wc := ⟨_, rfl⟩
    subst hw18
    go_upto_region 24 with (fail)
    go_cut [27] (fun v27 wx => ∃ o : Bool, v27 = .bool o ∧ Hid (Upd [] w18 wx ∧ (f.data = x1 ++ x2 → NS = [nmA, nmD, nmE] → o = true)))
    case first =>
      have hb := strOf_beq f.data (x1 ++ x2)
      rw [← strOf_append] at hb
      have htx := Rd.str (Ow.rd H18.out.1)
      have hty := Rd.str (HR1.out.1.keep H18.out.2.2)
      have htz := Rd.str (HR2.out.1.keep H18.out.2.2)
      have hz1 := strOf_size x1
      have hz2 := strOf_size x2
      rw [HR1.out.2.1] at hz1
      rw [HR2.out.2.1] at hz2
      have hm8 : (mm : Int) ≤ 8388608 := by omega
      have hn8 : (nn : Int) ≤ 8388608 := by omega
      by_cases he : f.data = x1 ++ x2
      · rw [decide_eq_true he] at hb
        have hrt : RdT (w18.alloc (.cells #[.string ⟨#[97]⟩, .string ⟨#[100]⟩, .string ⟨#[101]⟩] 9)) (.slice (some ⟨w18.heap.size, 0, none⟩) 3 3) [nmA, nmD, nmE] := made_texts w18 [nmA, nmD, nmE] (by decide)
        have HST := Lib.hid (same_texts _ ((OwnG.sl TT H18.out.2.1).keep (fun _ _ _ h j x hx => cell_keep ((Upd.refl [] w18).alloc _) (h j x hx))) hrt)
        clear he hrt
        generalize strOf f.data = s1 at *
        generalize strOf x1 = s2 at *
        generalize strOf x2 = s3 at *
        go_wp2_with fail
        refine HST.out.mono ?_
        rintro r w19 ⟨rfl, hu19⟩
        have HU := Lib.hid (((Upd.refl [] w18).alloc _).trans hu19)
        clear hu19 HST
        go_wp2_with fail
        go_meet
        exact ⟨_, rfl, Lib.hid ⟨HU.out, fun _ q => decide_eq_true q⟩⟩
      · rw [decide_eq_false he] at hb
        have HE := Lib.hid he
        clear he
        generalize strOf f.data = s1 at *
        generalize strOf x1 = s2 at *
        generalize strOf x2 = s3 at *
        go_wp2_with fail
        go_meet
        exact ⟨false, rfl, Lib.hid ⟨Upd.refl [] _, fun q => absurd q HE.out⟩⟩
    case rest =>
      obtain ⟨nw, rfl, HC2⟩ := hcut
      have hfin : nw = true ∨ (o = true ∧ dn = true) := by
        rcases HCS.out.2 with ⟨q1, q2⟩ | ⟨q0, q1, q2⟩
        · exact .inl (HC2.out.2 q1 q2)
        · exact .inr ⟨HC1.out.2 q1 q2, q0⟩
      have HU := Lib.hid (H18.out.2.2.trans HC2.out.1)
      cases nw with
      | true =>
        go_wp2_with fail
        go_ret
        exact ⟨by simp, HU.out⟩
      | false =>
        obtain ⟨rfl, rfl⟩ : o = true ∧ dn = true := by
          rcases hfin with q | q
          · cases q
          · exact q
        go_wp2_with fail
        go_ret
        exact ⟨by simp, HU.out⟩
end Go.Proofs.YteepgehjkcahiaaGreat

namespace Go.Proofs.YteepgehjkcahiaaGreat
open Go.RowKit Go.Maps

def nmF : Bs := [102]
def nmNew : Bs := [110, 101, 119]
theorem swaps_plain (g h : Fil) : codeC false [] nmF = 0 ∧ crtF [] nmF = [(nmF, emptyF)] ∧ codeC false [(nmF, g)] nmNew = 0 ∧ crtF [(nmF, g)] nmNew = [(nmF, g), (nmNew, emptyF)] ∧ codeN false [(nmF, g), (nmNew, h)] nmNew nmF = 0 ∧ renF [(nmF, g), (nmNew, h)] nmNew nmF = [(nmF, h)] := by
  refine ⟨rfl, rfl, rfl, rfl, rfl, rfl⟩
theorem LvF.apd {w0 w : World} {v p room : Nat} {fs last : Files} {c : Nat} {G : List Nat} (h : LvF w0 w v p room fs last c G) (hs : ∀ b ∈ allBlks last, b ∈ allBlks fs) {nm : Bs} {f : Fil} (hg : getA fs nm = some f) {d : Bs} (hm : f.data.length + d.length ≤ 32768) {m : Nat} (hk : ∀ q ∈ fs, q.2.data.length ≤ 512 * m) (hb : m * fs.length + needN f d.length ≤ room) :
    codeP room fs last nm d.length = 0 ∧ ∃ g : Fil, g.data = f.data ++ d ∧ apdF room fs last nm d = putA ltN fs nm g := by
  obtain ⟨l, k, s, hi⟩ := h.inv
  have hle := blks_le hi.now hk
  have hf := hi.free_sub hs
  have hc : codeP room fs last nm d.length = 0 := by
    unfold codeP
    rw [hg]
    dsimp only
    rw [if_neg (by omega), if_neg (by omega)]
  refine ⟨hc, growF room fs last f d, growF_data _ _ _ _ _, ?_⟩
  unfold apdF
  rw [if_pos hc]
  unfold appF
  rw [hg]
set_option maxRecDepth 100000 in
set_option maxHeartbeats 16000000 in
theorem fsswaps_walk (w : World) (sa sb qa : Option Addr) (sl sc tl tc ql qc : Nat) (d e : Bs) (k : Int) (picks : List Int) (hs : Rd w (.slice sa sl sc) d) (ht : Rd w (.slice sb tl tc) e) (hso : d ≠ [] → ∀ g, (Value.slice sa sl sc).ownBlock = some g → g < w.heap.size) (hto : e ≠ [] → ∀ g, (Value.slice sb tl tc).ownBlock = some g → g < w.heap.size) (hk : In64 k) (hp : RdZ w (.slice qa ql qc) picks) (hpk : ∀ x ∈ picks, -9223372036854775808 ≤ x ∧ x ≤ 9223372036854775807) (hpo : picks ≠ [] → ∀ b, (Value.slice qa ql qc).ownBlock = some b → b < w.heap.size) :
    Calls Tryz.prog 8 #[.slice sa sl sc, .slice sb tl tc, .int .i64 k, .slice qa ql qc] w fun r w' => r = .returned (.bool true) ∧ Upd [] w w' := by
  have HA := Lib.hid (awake_ok w)
  have HL := Lib.hid fun (X : World) (u : Upd [] w X) => lv_laid w u 64 (by omega) (by omega)
  have HMT := Lib.hid fun (X : World) (p room : Nat) (P : Files → Prop) (c' : Nat) (G : List Nat) (h : Dv w X p room P c' G) (hc : c' ≤ 900000) => mounted_ok w X h hc 39 ⟨by omega, by omega⟩ hp hpk hpo
  have HPk := Lib.hid fun X : World => pick_ok k 70 X hk.1 hk.2 (by omega) (by omega)
  obtain ⟨hs1, hs2, hs3, -⟩ := hs.cell
  obtain ⟨ht1, ht2, ht3, -⟩ := ht.cell
  obtain ⟨mm, hmm⟩ : ∃ mm, mm = min sl 4000 := ⟨_, rfl⟩
  obtain ⟨nn, hnn⟩ : ∃ nn, nn = min tl 4000 := ⟨_, rfl⟩
  have hmin1 : min (sl : Int) 4000 = (mm : Int) := by omega
  have hmin2 : min (tl : Int) 4000 = (nn : Int) := by omega
  have hms : mm ≤ sc := by omega
  have hns : nn ≤ tc := by omega
  have hm3 : mm ≤ 4000 := by omega
  have hn3 : nn ≤ 4000 := by omega
  have hsc : sc ≤ 9223372036854775807 := by unfold maxLen at hs3; omega
  have htc : tc ≤ 9223372036854775807 := by unfold maxLen at ht3; omega
  have hr1 := hs.head mm (by omega)
  have hr2 := ht.head nn (by omega)
  have hl1 : (d.take mm).length = mm := by rw [List.length_take]; omega
  have hl2 : (e.take nn).length = nn := by rw [List.length_take]; omega
  have ho1 : d.take mm ≠ [] → ∀ g, (Value.slice sa mm sc).ownBlock = some g → g < w.heap.size := fun q g hg => hso (fun e => q (by rw [e]; simp)) g (by cases sa <;> exact hg)
  have ho2 : e.take nn ≠ [] → ∀ g, (Value.slice sb nn tc).ownBlock = some g → g < w.heap.size := fun q g hg => hto (fun e => q (by rw [e]; simp)) g (by cases sb <;> exact hg)
  generalize d.take mm = x1 at *
  generalize e.take nn = x2 at *
  have HR1 := Lib.hid (And.intro hr1 (And.intro hl1 ho1))
  have HR2 := Lib.hid (And.intro hr2 (And.intro hl2 ho2))
  have hna : (⟨#[102]⟩ : ByteArray).data.toList = nmF := rfl
  have hnc : (⟨#[110, 101, 119]⟩ : ByteArray).data.toList = nmNew := rfl
  have hza : (⟨#[102]⟩ : ByteArray).size ≤ maxLen := by unfold maxLen; decide
  have hzc : (⟨#[110, 101, 119]⟩ : ByteArray).size ≤ maxLen := by unfold maxLen; decide
  have HNM := Lib.hid (And.intro hna (And.intro hnc (And.intro hza hzc)))
  clear hs ht hso hto hk hp hpk hpo hs1 hs2 hs3 ht1 ht2 ht3 hmm hnn hr1 hr2 hl1 hl2 ho1 ho2 hna hnc hza hzc
  go_enter Tryz.func8, Tryz.ntmps8
  go_wp2_with fail
  refine HA.out.mono ?_
  rintro r w1 ⟨rfl, hu1⟩
  have HU1 := Lib.hid hu1
  clear hu1
  go_wp2_with fail
  refine (HL.out _ HU1.out).mono ?_
  rintro r w2 ⟨p, v, rfl, hlv, -⟩
  have H2 : Hid (Lv w w2 v p 28 [] [] 0 []) := Lib.hid hlv
  have hcr := H2.out.create ⟨#[102]⟩ HNM.out.2.2.1
  rw [HNM.out.1, (swaps_plain emptyF emptyF).1, (swaps_plain emptyF emptyF).2.1] at hcr
  have HC := Lib.hid hcr
  clear hlv hcr HL HA
  go_wp2_with fail
  refine HC.out.mono ?_
  rintro r w3 ⟨rfl, hlv, -⟩
  obtain ⟨hc1, g1, hg1, ha1⟩ := hlv.apd (by simp [allBlks]) (nm := nmF) (f := emptyF) rfl (d := x1) (m := 0) (by show 0 + x1.length ≤ 32768; rw [HR1.out.2.1]; omega) (by intro q hq; rw [List.mem_singleton.1 hq]; simp [emptyF]) (by have := need_le emptyF x1.length; rw [HR1.out.2.1] at this ⊢; omega)
  have hap := hlv.append (by omega) ⟨#[102]⟩ HNM.out.2.2.1 (HR1.out.1.keep hlv.upd) (fun q g hg => .inr (HR1.out.2.2 q g hg)) (by rw [HR1.out.2.1]; omega)
  rw [HNM.out.1, hc1, ha1, show putA ltN [(nmF, emptyF)] nmF g1 = [(nmF, g1)] from rfl] at hap
  rw [show emptyF.data = [] from rfl, List.nil_append] at hg1
  have HG1 := Lib.hid hg1
  have HAp := Lib.hid hap
  clear hlv hc1 hg1 ha1 hap HC
  go_wp2_with fail
  refine HAp.out.mono ?_
  rintro r w4 ⟨rfl, hlv, -⟩
  have HSy := Lib.hid (hlv.sync (by omega))
  clear hlv HAp
  go_wp2_with fail
  refine HSy.out.mono ?_
  rintro r w5 ⟨rfl, hlv, -⟩
  have hlf := LvF.of hlv (by omega)
  have HFu := Lib.hid fun (n : Int) (hn : In64 n) => hlf.fuse n hn
  clear hlv hlf HSy
  go_wp2_with fail
  refine (HPk.out _).mono ?_
  rintro r w10 ⟨⟨rr, rfl, hr0, hr1⟩, rfl⟩
  go_wp2_with fail
  refine (HFu.out _ ⟨by omega, by omega⟩).mono ?_
  rintro r w11 ⟨rfl, hlf, -, -⟩
  have hcr := hlf.create ⟨#[110, 101, 119]⟩ HNM.out.2.2.2
  rw [HNM.out.2.1, (swaps_plain g1 emptyF).2.2.1, (swaps_plain g1 emptyF).2.2.2.1] at hcr
  have HC := Lib.hid hcr
  clear hlf HFu HPk hr0 hr1 hcr
  go_wp2_with fail
  refine HC.out.mono ?_
  rintro r w12 ⟨rfl, hlf, -⟩
  obtain ⟨hc1, g2, hg2, ha1⟩ := hlf.apd (by intro b hb; simpa [allBlks] using Or.inl (by simpa [allBlks] using hb)) (nm := nmNew) (f := emptyF) rfl (d := x2) (m := 8) (by show 0 + x2.length ≤ 32768; rw [HR2.out.2.1]; omega) (by
    intro q hq
    rcases List.mem_cons.1 hq with rfl | hq
    · rw [HG1.out, HR1.out.2.1]; omega
    · rw [List.mem_singleton.1 hq]; simp [emptyF]) (by have := need_le emptyF x2.length; rw [HR2.out.2.1] at this ⊢; simp only [List.length_cons, List.length_nil]; omega)
  have hap := hlf.append (by omega) ⟨#[110, 101, 119]⟩ HNM.out.2.2.2 (HR2.out.1.keep hlf.upd) (fun q g hg => .inr (HR2.out.2.2 q g hg)) (by rw [HR2.out.2.1]; omega)
  rw [HNM.out.2.1, hc1, ha1, show putA ltN [(nmF, g1), (nmNew, emptyF)] nmNew g2 = [(nmF, g1), (nmNew, g2)] from rfl] at hap
  rw [show emptyF.data = [] from rfl, List.nil_append] at hg2
  have HG2 := Lib.hid hg2
  have HAp := Lib.hid hap
  clear hlf hc1 hg2 ha1 hap HC
  go_wp2_with fail
  refine HAp.out.mono ?_
  rintro r w13 (⟨rfl, hlf, -⟩ | ⟨rfl, hfl, -⟩)
  case' inl =>
    have hrn := hlf.rename ⟨#[110, 101, 119]⟩ ⟨#[102]⟩ HNM.out.2.2.2 HNM.out.2.2.1
    rw [HNM.out.1, HNM.out.2.1, (swaps_plain g1 g2).2.2.2.2.1, (swaps_plain g1 g2).2.2.2.2.2] at hrn
    have HRn := Lib.hid hrn
    clear hlf hrn HAp
    go_wp2_with fail
    refine HRn.out.mono ?_
    rintro r w14 ⟨rfl, hlf, -⟩
    have HSy := Lib.hid (hlf.sync (by omega))
    clear hlf HRn
    go_wp2_with fail
    refine HSy.out.mono ?_
    rintro r wX (⟨rfl, hlf, -⟩ | ⟨rfl, hfl, -⟩)
  case' inl =>
    obtain ⟨dn, hdn⟩ : ∃ dn : Bool, dn = false := ⟨_, rfl⟩
    have hdv : Dv w wX p 28 (fun f => f = [(nmF, g2)] ∨ (dn = true ∧ f = [(nmF, g1)])) 10 [] := (hlf.dv.imp fun f q => .inl q).more (by omega)
    clear hlf HSy
  rotate_left
  case' inr =>
    obtain ⟨dn, hdn⟩ : ∃ dn : Bool, dn = true := ⟨_, rfl⟩
    have hdv : Dv w wX p 28 (fun f => f = [(nmF, g2)] ∨ (dn = true ∧ f = [(nmF, g1)])) 10 [] := (hfl.dv.imp fun f q => q.elim (fun q => .inr ⟨hdn, q⟩) .inl).more (by omega)
    clear hfl HSy
  rotate_left
  case' inr =>
    obtain ⟨dn, hdn⟩ : ∃ dn : Bool, dn = true := ⟨_, rfl⟩
    have hdv : Dv w w13 p 28 (fun f => f = [(nmF, g2)] ∨ (dn = true ∧ f = [(nmF, g1)])) 10 [] := (hfl.dv.imp fun f q => .inr ⟨hdn, q⟩).more (by omega)
    clear hfl HAp
  all_goals
    have HMo := Lib.hid (HMT.out _ _ _ _ _ _ hdv (by omega))
    have HDN := Lib.hid hdn
    clear hdv hdn
    go_wp2_with fail
    refine HMo.out.mono ?_
    rintro r w20 ⟨v2, rfl, fs2, hP, hlv, -⟩
    obtain ⟨f, hgf, hNS, hfl, hcase⟩ : ∃ f, getA fs2 nmF = some f ∧ fs2.map (·.1) = [nmF] ∧ f.data.length ≤ 9000 ∧ (f.data = x2 ∨ (dn = true ∧ f.data = x1)) := by
      rcases hP with rfl | ⟨q, rfl⟩
      · exact ⟨g2, rfl, rfl, by rw [HG2.out, HR2.out.2.1]; omega, .inl HG2.out⟩
      · exact ⟨g1, rfl, rfl, by rw [HG1.out, HR1.out.2.1]; omega, .inr ⟨q, HG1.out⟩⟩
    have HRd := Lib.hid (hlv.readAll (by omega) ⟨#[102]⟩ HNM.out.2.2.1 (f := f) (by rw [HNM.out.1]; exact hgf) 9000 hfl)
    have HCS := Lib.hid (And.intro hNS hcase)
    clear hlv hP hgf hNS hfl hcase HMo
    go_wp2_with fail
    refine HRd.out.mono ?_
    rintro r w21 ⟨rv, rfl, ho, hlv, -⟩
    have HLi := Lib.hid hlv.list
    have HO := Lib.hid ho
    clear ho hlv HRd
    go_wp2_with fail
    refine HLi.out.mono ?_
    rintro r w22 ⟨u, rfl, hou, hu22, hlv⟩
    have ho22 := HO.out.upd hu22 (by simp)
    rw [HCS.out.1] at hou
    have hrt : RdT (w22.alloc (.cells #[.string ⟨#[102]⟩] 9)) (.slice (some ⟨w22.heap.size, 0, none⟩) 1 1) [nmF] := made_texts w22 [nmF] (by decide)
    have hst := same_texts _ ((OwnG.sl TT hou).keep (fun _ _ _ h j x hx => cell_keep ((Upd.refl [] w22).alloc _) (h j x hx))) hrt
    rw [decide_eq_true rfl] at hst
    have HST := Lib.hid hst
    have H22 := Lib.hid (And.intro ho22 hlv.upd)
    clear ho22 hou hu22 hlv HLi HO hrt hst
    go_wp2_with fail
    refine HST.out.mono ?_
    rintro r w23 ⟨rfl, hu23⟩
    have hu24 := ((Upd.refl [] w22).alloc _).trans hu23
    have hU := H22.out.2.trans hu24
    have htx := Rd.str (Ow.rd (H22.out.1.upd hu24 (by simp)))
    have hty := Rd.str (HR1.out.1.keep hU)
    have htz := Rd.str (HR2.out.1.keep hU)
    have hb1 := strOf_beq f.data x1
    have hb2 := strOf_beq f.data x2
    have HU := Lib.hid hU
    clear hu23 hu24 hU HST
    by_cases he : f.data = x2
    · rw [decide_eq_true he] at hb2
      clear he hb1
      generalize strOf f.data = s1 at *
      generalize strOf x1 = s2 at *
      generalize strOf x2 = s3 at *
      go_wp2_with fail
      go_ret
      exact ⟨by simp, HU.out⟩
    · obtain ⟨q1, q2⟩ := HCS.out.2.resolve_left he
      first
        | (exfalso; rw [HDN.out] at q1; cases q1; done)
        | (rw [decide_eq_false he] at hb2
           rw [decide_eq_true q2] at hb1
           clear he q1 q2
           generalize strOf f.data = s1 at *
           generalize strOf x1 = s2 at *
           generalize strOf x2 = s3 at *
           go_wp2_with fail
           go_ret
           exact ⟨by simp, HU.out⟩)
end Go.Proofs.YteepgehjkcahiaaGreat

namespace Go.Proofs.YteepgehjkcahiaaGreat
namespace fsdirSwaps
open Go.ChangeShapes Go.WideShapes Go.ChangeAt Go.RowKit
theorem laidOut : laidOutB Tryz.prog = true := by kernel_rfl
theorem own : ownKnob Tryz.prog.godebug = none := by kernel_rfl

set_option maxRecDepth 100000 in
theorem lifted (os : Os) (started : os.Started) (H : Type) (enc : TypeId × Value → H) :
    ReturnsInHanded {} Tryz.checked os 8 .any (Rows.fsdirSwapsSpec.pre6 enc Tryz.prog Tryz.f8 Rows.fsdirSwapsRow.domain false) (Rows.fsdirSwapsSpec.post enc Tryz.prog Tryz.f8 false true false false) := by
  refine returnsInHanded_of_change_sized (C := Tryz.checked) own started (by kernel_rfl) Tryz.func8
    (ChangeSpec.witness6 (enc := enc) (C := Tryz.checked) false ⟨#[], #[.slice none 0 0, .slice none 0 0, .int .i64 0, .slice none 0 0], []⟩ 8 (by kernel_rfl) (by kernel_rfl) (by kernel_rfl) (by kernel_rfl)) ?_
  intro W base args ds gs before hval0 hW _ hsz0 _
  have hval : ∀ (j : Nat) t v, Tryz.f8.params[j]? = some t → args[j]? = some v → Value.okWide Tryz.prog W .any base t v := hval0
  have hW' := hW
  obtain ⟨p, q, hA0, hV, rfl, hfz, hnd⟩ := hW
  have hA : DataW.TrodAll enc Tryz.prog W 0 (fun _ => true) true Tryz.f8.params.toList args.toList ds p := hA0
  obtain ⟨rfl, rfl⟩ := trodVars_none hV
  have hsz : (DataW.weightsEach Tryz.prog (Tryz.f8.params.toList ++ []) (ds ++ [])).all (· ≤ reachBytes) = true := hsz0
  rw [Tryz.params8] at hA hval hsz
  obtain ⟨v1, vs1, d1, ds1, p1, q1, hargs, rfl, rfl, h1, r1⟩ := trodAll_cons hA
  obtain ⟨v2, vs2, d2, ds2, p2, q2, rfl, rfl, rfl, h2, r2⟩ := trodAll_cons r1
  obtain ⟨v3, vs3, d3, ds3, p3, q3, rfl, rfl, rfl, h3, r3⟩ := trodAll_cons r2
  obtain ⟨v4, vs4, d4, ds4, p4, q4, rfl, rfl, rfl, h4, r4⟩ := trodAll_cons r3
  obtain ⟨rfl, rfl, rfl⟩ := trodAll_nil r4
  obtain rfl : args = #[v1, v2, v3, v4] := by cases args; simp_all
  obtain ⟨fu1, h1⟩ := h1
  obtain ⟨v, l, e1, hs, -, hs3⟩ := open_bs h1 (wt_arg hsz (j := 0) rfl rfl)
  obtain rfl := arg_sl Tryz.underlying32 (hval 0 32 v1 rfl rfl) rfl e1
  obtain ⟨fu2, h2⟩ := h2
  obtain ⟨v', l', e2, ht, -, ht3⟩ := open_bs h2 (wt_arg hsz (j := 1) rfl rfl)
  obtain rfl := arg_sl Tryz.underlying32 (hval 1 32 v2 rfl rfl) rfl e2
  obtain ⟨n, rfl, z3⟩ := arg_int (hval 2 3 v3 rfl rfl) h3
  obtain ⟨fu4, h4⟩ := h4
  obtain ⟨v5, l5, e5, hz1, -, hz3, hz4⟩ := open_zs h4 (wt_arg hsz (j := 3) rfl rfl)
  obtain rfl := arg_sl Tryz.underlying22 (hval 3 22 v4 rfl rfl) rfl e5
  obtain ⟨sa, sl, sc, rfl⟩ := okWide_slice Tryz.underlying32 (hval 0 32 v rfl rfl)
  obtain ⟨sb, tl, tc, rfl⟩ := okWide_slice Tryz.underlying32 (hval 1 32 v' rfl rfl)
  obtain ⟨qa, ql, qc, rfl⟩ := okWide_slice Tryz.underlying22 (hval 3 22 v5 rfl rfl)
  refine (fsswaps_walk W sa sb qa sl sc tl tc ql qc l l' n l5 hs ht hs3 ht3 z3 hz1 hz3 hz4).mono fun e W' ⟨he, hu⟩ => ?_
  subst he
  exact ⟨_, rfl, post_true (B := 4) rfl laidOut (by rw [Tryz.params8]; decide +kernel) rfl Tryz.underlying4 hW' hu rfl⟩

theorem over : Rows.fsdirSwapsRow.holds Tryz.pinned (OpenSpec.ofChange Rows.fsdirSwapsSpec) :=
  OpenClaim.holds_of_wide 8 Tryz.f8 rfl rfl rfl rfl rfl rfl rfl ⟨rfl, rfl, rfl, rfl, rfl⟩ rfl rfl rfl rfl rfl (by kernel_rfl) Tryz.func8 (by kernel_rfl)
    (of_decide_eq_true (by kernel_rfl)) (by unfold Func.isWrapper; first | (rw [if_pos (by decide +kernel)]; kernel_rfl) | (rw [if_neg (by decide +kernel)]; exact ⟨rfl, rfl⟩))
    (fun os started H enc _ => lifted os started H enc)

theorem proved : Rows.FsdirSwapsSaid := over
#print axioms proved
end fsdirSwaps
end Go.Proofs.YteepgehjkcahiaaGreat
