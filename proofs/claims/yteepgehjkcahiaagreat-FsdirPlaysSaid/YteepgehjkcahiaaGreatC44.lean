/- FsdirPlays: rows of calls; what Alike tells; the state between calls. FsdirPlays: the state behind a crash. FsdirPlays: the walk. -/
import Derived.Test.YteepgehjkcahiaaGreatC43
namespace Go.Proofs.YteepgehjkcahiaaGreat
open Go.RowKit Go.Maps
def cC (x : CallR) : List Value := [.int .i64 x.kind, .string x.nm, .string x.dst, x.dv, .int .i64 x.at_, .int .i64 x.n, x.pv]
theorem TC : RowT cC 7 104 47 49 where
 len := fun _ => rfl
 pos := by omega
 und := Tryz.underlying47
 info := by
  obtain ⟨i, h, h1, h2, h3⟩ := info_parts (show (Tryz.prog.info? 49).map (fun i => (i.zero, i.size, i.bytes)) = some (some (.agg #[.int .i64 0, .string ⟨#[]⟩, .string ⟨#[]⟩, .slice none 0 0, .int .i64 0, .int .i64 0, .slice none 0 0]), 7, 104) by kernel_rfl)
  exact ⟨i, _, h, h1, h2, h3, rfl⟩
structure CallS (w : World) (x : CallR) : Prop where
 rd : Rd w x.dv x.d
 rz : RdZ w x.pv x.pk
 ok : CallOk w x
theorem CallS.sl {w : World} {x : CallR} (h : CallS w x) : ∃ pa pl pc qa ql qc, x.dv = .slice pa pl pc ∧ x.pv = .slice qa ql qc := by
 obtain ⟨pa, pc, hpv, -⟩ := h.rd.slice
 obtain ⟨⟨qa, qc, hqv, -⟩, -⟩ := h.rz
 exact ⟨pa, _, pc, qa, _, qc, hpv, hqv⟩
theorem oneC {w : World} {l : List CallR} (h : ∀ x ∈ l, CallS w x) : ∀ x ∈ l, ∀ u ∈ cC x, u.oneCell' = true := by
 intro x hx u hu
 obtain ⟨pa, pl, pc, qa, ql, qc, e1, e2⟩ := (h x hx).sl
 simp only [cC, e1, e2, List.mem_cons, List.not_mem_nil, or_false] at hu
 rcases hu with rfl | rfl | rfl | rfl | rfl | rfl | rfl <;> rfl
theorem srcG_take {α : Type} {f : α → List Value} {w : World} {A : Option Addr} {l : List α} (h : SrcG f w A l) (i : Nat) : SrcG f w A (l.take i) := by
 refine ⟨fun q => by rw [h.1 q]; simp, fun ad q j u hu => h.2 ad q j u ?_⟩
 have e : flatG f l = flatG f (l.take i) ++ flatG f (l.drop i) := by rw [← flatG_app, List.take_append_drop]
 rw [e, List.getElem?_append_left]
 ·exact hu
 ·exact (List.getElem?_eq_some_iff.1 hu).1
theorem callAt_cells {w : World} {b o : Nat} {x : CallR} (h : CallAt w b o x) : CellsAt cC w b o x := fun j u hu => by
 have hj : j < 7 := (List.getElem?_eq_some_iff.1 hu).1
 rcases (show j = 0 ∨ j = 1 ∨ j = 2 ∨ j = 3 ∨ j = 4 ∨ j = 5 ∨ j = 6 by omega) with rfl | rfl | rfl | rfl | rfl | rfl | rfl
 ·cases hu; exact h.c0
 ·cases hu; exact h.c1
 ·cases hu; exact h.c2
 ·cases hu; exact h.c3
 ·cases hu; exact h.c4
 ·cases hu; exact h.c5
 ·cases hu; exact h.c6
abbrev OwC (w : World) (base : Nat) (v : Value) (l : List CallR) : Prop := OwnG cC 49 7 w base v l
def x11 : CallR := ⟨11, ⟨#[]⟩, ⟨#[]⟩, .slice none 0 0, [], 0, 39, .slice none 0 0, []⟩
theorem x11_ok (w : World) : CallS w x11 where
 rd := Rd.nil w
 rz := ⟨⟨none, 0, rfl, Nat.le_refl _, by unfold maxLen; omega, fun i hi => absurd hi (by simp [x11])⟩, fun n c e => by cases e; rfl⟩
 ok := ⟨by show (-9223372036854775808 : Int) ≤ 11 ∧ (11 : Int) ≤ 9223372036854775807; omega, Nat.zero_le _, Nat.zero_le _, Nat.zero_le _, fun q => absurd rfl q, by show (-9223372036854775808 : Int) ≤ 0 ∧ (0 : Int) ≤ 9223372036854775807; omega, by show (-9223372036854775808 : Int) ≤ 39 ∧ (39 : Int) ≤ 9223372036854775807; omega, Nat.zero_le _, by simp [x11], fun q => absurd rfl q⟩
theorem owC_at {w : World} {base : Nat} {a : Option Addr} {n c : Nat} {l : List CallR} (h : OwC w base (.slice a n c) l) {i : Nat} (hi : i < l.length) : ∃ g x, a = some ⟨g, 0, none⟩ ∧ x ∈ l ∧ w.cell? ⟨g, i * 7, none⟩ = some (.int .i64 x.kind) ∧ w.cell? ⟨g, i * 7 + 1, none⟩ = some (.string x.nm) ∧ w.cell? ⟨g, i * 7 + 2, none⟩ = some (.string x.dst) ∧ w.cell? ⟨g, i * 7 + 3, none⟩ = some x.dv ∧ w.cell? ⟨g, i * 7 + 4, none⟩ = some (.int .i64 x.at_) ∧ w.cell? ⟨g, i * 7 + 5, none⟩ = some (.int .i64 x.n) ∧ w.cell? ⟨g, i * 7 + 6, none⟩ = some x.pv := by
 obtain ⟨-, -, -, h3⟩ := OwnG.at TC h
 obtain ⟨g, e, -, -, hc⟩ := h3 i hi
 exact ⟨g, l[i], e, List.getElem_mem hi, hc 0 _ rfl, hc 1 _ rfl, hc 2 _ rfl, hc 3 _ rfl, hc 4 _ rfl, hc 5 _ rfl, hc 6 _ rfl⟩
theorem owC_cap {w : World} {base : Nat} {a : Option Addr} {n c : Nat} {l : List CallR} (h : OwC w base (.slice a n c) l) : n = l.length ∧ n ≤ c ∧ c ≤ 9223372036854775807 := by
 obtain ⟨h0, h1, h2, -⟩ := OwnG.at TC h
 exact ⟨h0, h1, by unfold maxLen at h2; omega⟩
theorem RAt.base {w : World} {a b rp room : Nat} {nv lv : Value} {now lst : List RF} (h : RAt w a rp room nv lv now lst) (hb : b ≤ a) : RAt w b rp room nv lv now lst :=
 ⟨h.box, h.now.base hb, h.lst.base hb, Nat.le_trans hb h.low, h.n1, h.n2, h.n3⟩
theorem same_simC {room : Nat} {fs last : Files} {now lst : List RF} (hok : FilesOk room fs) (h : Same room fs last now lst) (hsm : RSm now) (hnd : (now.map (·.nm)).Nodup) (hex : ∃ rl : List Bs, rl.Perm (now.map (·.nm)) ∧ rl.Pairwise leN) : SimC fs now := by
 obtain ⟨rl, hp, hs⟩ := hex
 have hn : namesF fs = rl := h.1 rl hp hs
 have hD : ∀ x ∈ now, x.data = (match getA fs x.nm with | some f => f.data | none => []) := fun x hx => by
  have hm : x.nm ∈ namesF fs := by rw [hn]; exact hp.mem_iff.2 (List.mem_map.2 ⟨x, hx, rfl⟩)
  obtain ⟨i, hi, he⟩ := List.getElem_of_mem hm
  have hil : i < fs.length := by simpa [namesF] using hi
  obtain ⟨f, hg, hfd, -⟩ := file_at hok hil
  have hgd : (namesF fs).getD i [] = x.nm := by rw [List.getD_eq_getElem?_getD, List.getElem?_eq_getElem hi]; exact he
  have hdq := h.2.2 i hil
  rw [hgd] at hdq hg
  rw [hg]
  dsimp only
  rw [hfd, ← hdq]
  cases hj : idxR now x.nm with
  | none => exact absurd rfl (idxR_none.1 hj x hx)
  | some j =>
   obtain ⟨a, b, y, hab, e1, e2, e3⟩ := idxR_some hj
   have hyx : y = x := by
    rw [hab] at hx hnd
    rw [List.map_append, List.map_cons, List.nodup_append] at hnd
    obtain ⟨-, hnd2, -⟩ := hnd
    rw [List.nodup_cons] at hnd2
    rcases List.mem_append.1 hx with q | q
    ·exact absurd rfl (e3 x q)
    ·rcases List.mem_cons.1 q with q | q
     ·exact q.symm
     ·exact absurd (List.mem_map.2 ⟨x, q, e2.symm⟩) hnd2.1
   have hgj : now.getD j RF.nil = x := by
    rw [hab, ← e1, List.getD_eq_getElem?_getD, List.getElem?_append_right (Nat.le_refl _), Nat.sub_self]
    exact hyx
   have hxl := (hsm.elt x hx).1
   unfold dataQ
   rw [hj]
   dsimp only
   rw [hgj, if_neg (by omega), show (0 : Int).toNat = 0 from rfl, List.drop_zero, List.take_of_length_le (by simp; omega)]
 have e1 : now.map (fun x => (x.nm, x.data)) = (now.map (·.nm)).map fun nm => (nm, match getA fs nm with | some f => f.data | none => []) := by
  rw [List.map_map]
  exact List.map_congr_left fun x hx => by show (x.nm, x.data) = (x.nm, _); rw [hD x hx]
 have e2 : fs.map (fun p => (p.1, p.2.data)) = (namesF fs).map fun nm => (nm, match getA fs nm with | some f => f.data | none => []) := by
  unfold namesF
  rw [List.map_map]
  exact List.map_congr_left fun p hp => by show (p.1, p.2.data) = (p.1, _); rw [getA_of_mem ordN hok.srt hp]
 unfold SimC
 rw [e1, e2, hn]
 exact hp.symm.map _
theorem simC_nodup {fs : Files} {room : Nat} {l : List RF} (hok : FilesOk room fs) (h : SimC fs l) : (l.map (·.nm)).Nodup := by
 have h1 := List.Perm.map (·.1) h
 rw [List.map_map, List.map_map] at h1
 refine (List.Perm.nodup_iff h1).2 ?_
 have := hok.srt
 unfold Srt at this
 show (fs.map (·.1)).Nodup
 rw [List.Nodup, List.pairwise_map]
 refine List.Pairwise.imp ?_ this
 intro a b hab e
 rw [e] at hab
 have := ordN.irrefl b.1
 rw [show ltN b.1 b.1 = true from hab] at this
 cases this
theorem simC_small {fs : Files} {room : Nat} {l : List RF} (hok : FilesOk room fs) (h : SimC fs l) : l.length ≤ 64 ∧ ∀ x ∈ l, x.data.length ≤ 32768 := by
 refine ⟨?_, fun x hx => ?_⟩
 ·have := List.Perm.length_eq h
  rw [List.length_map, List.length_map] at this
  have := hok.few
  omega
 ·have := (List.Perm.mem_iff h).1 (List.mem_map.2 ⟨x, hx, rfl⟩)
  obtain ⟨p, hp, e⟩ := List.mem_map.1 this
  have := (hok.ok p hp).most
  rw [← (Prod.mk.inj e).2]
  exact this
theorem syF_c (l : List RF) : (l.map syF).map (fun x => (x.nm, x.data)) = l.map fun x => (x.nm, x.data) := by rw [List.map_map]; rfl
def PS (w0 w : World) (v p room rp c : Nat) (half : Bool) (K : List Nat) : Prop :=
 (half = false ∧ ∃ fs last now lst nv lv, RS w0 w v p room rp fs last now lst nv lv c false K ∧ Sim fs last now lst) ∨
 (∃ (P : Files → Prop) (G : List Nat) (last : Files) (now lst : List RF) (nv lv : Value), Fl w0 w v p room P c G ∧ RAt w w0.heap.size rp room nv lv now lst ∧ (∀ i ∈ rfoot rp nv lv, i ∈ G) ∧ (∀ i ∈ K, i ∈ G) ∧ (∀ i ∈ K, i ∉ rfoot rp nv lv) ∧ RSm now ∧ SimC last lst ∧ FilesOk room last ∧ ∀ f, P f → f = last ∨ (half = true ∧ SimC f now ∧ FilesOk room f))
end Go.Proofs.YteepgehjkcahiaaGreat

namespace Go.Proofs.YteepgehjkcahiaaGreat
open Go.RowKit Go.Maps
theorem PS.upd {w0 w : World} {v p room rp c : Nat} {half : Bool} {K : List Nat} (h : PS w0 w v p room rp c half K) : Upd [] w0 w := by
 rcases h with ⟨-, fs, last, now, lst, nv, lv, h, -⟩ | ⟨P, G, last, now, lst, nv, lv, h, -⟩
 ·exact h.upd
 ·exact h.upd
theorem PS.guardF {w0 w w' : World} {v p room rp c : Nat} {half : Bool} {K F1 : List Nat} (h : PS w0 w v p room rp c half K) (u : Upd F1 w w') (h1 : ∀ i ∈ F1, i ∈ K ∧ w0.heap.size ≤ i) {K' : List Nat} (hg : ∀ b ∈ K', w.heap.size ≤ b ∧ b < w'.heap.size) : PS w0 w' v p room rp c half (K' ++ K) := by
 rcases h with ⟨e, fs, last, now, lst, nv, lv, h, hs⟩ | ⟨P, G, last, now, lst, nv, lv, h2, h3, h4, h5, h6, h7⟩
 ·exact .inl ⟨e, fs, last, now, lst, nv, lv, h.guardF u h1 hg, hs⟩
 ·refine .inr ⟨P, K' ++ G, last, now, lst, nv, lv, h2.guardF u (fun i hi => ⟨h5 i (h1 i hi).1, (h1 i hi).2⟩) hg, h3.upd u fun i hi q => h6 i (h1 i q).1 hi, fun i hi => List.mem_append_right _ (h4 i hi), fun i hi => ?_, fun i hi q => ?_, h7⟩
  ·rcases List.mem_append.1 hi with e | e
   ·exact List.mem_append_left _ e
   ·exact List.mem_append_right _ (h5 i e)
  ·rcases List.mem_append.1 hi with e | e
   ·have := (hg i e).1; have := (h3.lt i q).2; omega
   ·exact h6 i e q
structure RL (w0 w : World) (v p room rp : Nat) (fs last : Files) (now lst : List RF) (nv lv : Value) (c : Nat) (K : List Nat) : Prop where
 z : ∃ G, Lv w0 w v p room fs last c G ∧ (∀ i ∈ rfoot rp nv lv, i ∈ G) ∧ ∀ i ∈ K, i ∈ G
 r : RAt w w0.heap.size rp room nv lv now lst
 k : ∀ i ∈ K, i ∉ rfoot rp nv lv
section
variable {w0 w w' : World} {v p room rp rp2 : Nat} {fs last : Files} {c : Nat} {nv lv nv2 lv2 : Value} {now lst now2 lst2 : List RF} {K K2 : List Nat}
theorem RL.upd (h : RL w0 w v p room rp fs last now lst nv lv c K) : Upd [] w0 w := by
 obtain ⟨G, hz, -⟩ := h.z
 exact hz.upd
theorem RL.sub {K' : List Nat} (h : RL w0 w v p room rp fs last now lst nv lv c K) (hs : ∀ i ∈ K', i ∈ K) : RL w0 w v p room rp fs last now lst nv lv c K' := by
 obtain ⟨G, hz, h1, h2⟩ := h.z
 exact ⟨⟨G, hz, h1, fun i hi => h2 i (hs i hi)⟩, h.r, fun i hi => h.k i (hs i hi)⟩
theorem RL.guard (h : RL w0 w v p room rp fs last now lst nv lv c K) (u : Upd [] w w') {K' : List Nat} (hg : ∀ b ∈ K', w.heap.size ≤ b ∧ b < w'.heap.size) : RL w0 w' v p room rp fs last now lst nv lv c (K' ++ K) := by
 obtain ⟨G, hz, h2, h3⟩ := h.z
 refine ⟨⟨K' ++ G, hz.guard u hg, fun i hi => List.mem_append_right _ (h2 i hi), fun i hi => ?_⟩, h.r.keep u, fun i hi q => ?_⟩
 ·rcases List.mem_append.1 hi with e | e
  ·exact List.mem_append_left _ e
  ·exact List.mem_append_right _ (h3 i e)
 ·rcases List.mem_append.1 hi with e | e
  ·have := (hg i e).1; have := (h.r.lt i q).2; omega
  ·exact h.k i e q
theorem RL.rstep (h : RL w0 w v p room rp fs last now lst nv lv c K) {now' lst' : List RF} (hn : RNext w w0.heap.size rp room nv lv now' lst' w') : ∃ nv' lv', RL w0 w' v p room rp fs last now' lst' nv' lv' c K ∧ Stay K w w' := by
 obtain ⟨G, hz, h2, h3⟩ := h.z
 obtain ⟨nv', lv', q1, q2, q3⟩ := hn
 have hlt := hz.lt
 refine ⟨nv', lv', ⟨⟨(rfoot rp nv' lv').filter (fun i => decide (w.heap.size ≤ i)) ++ G, hz.guardF q2 (fun i hi => ⟨h2 i hi, (h.r.lt i hi).1⟩) fun b hb => ?_, fun i hi => ?_, fun i hi => List.mem_append_right _ (h3 i hi)⟩, q1, fun i hi q => ?_⟩, ⟨_, q2, h.k⟩⟩
 ·obtain ⟨q4, q5⟩ := List.mem_filter.1 hb
  exact ⟨by simpa using q5, (q1.lt b q4).2⟩
 ·rcases q3 i hi with e | e
  ·exact List.mem_append_right _ (h2 i e)
  ·exact List.mem_append_left _ (List.mem_filter.2 ⟨hi, by simpa using e⟩)
 ·rcases q3 i q with e | e
  ·exact h.k i hi e
  ·have := hlt i (h3 i hi); omega
theorem RAt.stay (h : RAt w w0.heap.size rp room nv lv now lst) (s : Stay K w w') (hK : ∀ i ∈ rfoot rp nv lv, i ∈ K) : RAt w' w0.heap.size rp room nv lv now lst := by
 obtain ⟨F, u, hF⟩ := s
 exact h.upd u fun i hi => hF i (hK i hi)
theorem RL.swap (h : RL w0 w v p room rp fs last now lst nv lv c (rfoot rp2 nv2 lv2 ++ K)) (h2 : RAt w w0.heap.size rp2 room nv2 lv2 now2 lst2) (hk : ∀ i ∈ K, i ∉ rfoot rp2 nv2 lv2) : RL w0 w v p room rp2 fs last now2 lst2 nv2 lv2 c (rfoot rp nv lv ++ K) := by
 obtain ⟨G, hz, h3, h4⟩ := h.z
 refine ⟨⟨G, hz, fun i hi => h4 i (List.mem_append_left _ hi), fun i hi => ?_⟩, h2, fun i hi q => ?_⟩
 ·rcases List.mem_append.1 hi with e | e
  ·exact h3 i e
  ·exact h4 i (List.mem_append_right _ e)
 ·rcases List.mem_append.1 hi with e | e
  ·exact h.k i (List.mem_append_left _ q) e
  ·exact hk i e q
theorem RL.rs (h : RL w0 w v p room rp fs last now lst nv lv c K) (h1 : 1 ≤ room) : RS w0 w v p room rp fs last now lst nv lv c false K := by
 obtain ⟨G, hz, h2, h3⟩ := h.z
 exact ⟨⟨G, LvF.of hz h1, h2, h3⟩, h.r, h.k⟩
theorem RL.inv (h : RL w0 w v p room rp fs last now lst nv lv c K) : ∃ (l : Nat → Cell) (k s : Nat), FsInv l room k s fs last := by
 obtain ⟨G, hz, -⟩ := h.z
 exact hz.inv
theorem RL.alike (h : RL w0 w v p room rp fs last now lst nv lv c K) (hc : c ≤ 1000000) (hroom : room ≤ 1000) (h1 : RSm now) (h2 : RSm lst) (hex : ∃ rl : List Bs, rl.Perm (now.map (·.nm)) ∧ rl.Pairwise leN) :
  Calls Tryz.prog 38 #[.pointer (some ⟨v, 0, none⟩), .pointer (some ⟨rp, 0, none⟩)] w fun r w' => ∃ b : Bool, r = .returned (.bool b) ∧ (b = true ↔ Same room fs last now lst) ∧ RL w0 w' v p room rp fs last now lst nv lv c K ∧ Stay (rfoot rp nv lv ++ K) w w' := by
 obtain ⟨G, hz, h3, h4⟩ := h.z
 obtain ⟨l, kk, s, hi⟩ := hz.inv
 refine (alike_ok (Lv.asks w0 v p room fs last c hc ⟨_, hi.now⟩) hz h.r h3 hroom h1 h2 hex).mono fun r w' q => ?_
 rcases q with ⟨b, e, hb, hl, hst⟩ | ⟨-, ht, -⟩
 ·refine ⟨b, e, hb, ⟨⟨G, hl, h3, h4⟩, h.r.stay hst h3, h.k⟩, hst.sub fun i hi => ?_⟩
  rcases List.mem_append.1 hi with q | q
  ·exact h3 i q
  ·exact h4 i q
 ·exact ht.elim
end
structure CrS (w0 w : World) (p room rp c : Nat) (half : Bool) (K : List Nat) (P : Files → Prop) (G : List Nat) (last : Files) (now lst : List RF) (nv lv : Value) : Prop where
 dv : Dv w0 w p room P c G
 r : RAt w w0.heap.size rp room nv lv now lst
 foot : ∀ i ∈ rfoot rp nv lv, i ∈ G
 kG : ∀ i ∈ K, i ∈ G
 k : ∀ i ∈ K, i ∉ rfoot rp nv lv
 sm : RSm now
 sim : SimC last lst
 ok : FilesOk room last
 p : ∀ f, P f → f = last ∨ (half = true ∧ SimC f now ∧ FilesOk room f)
theorem PS.crs {w0 w : World} {v p room rp c : Nat} {half : Bool} {K : List Nat} (h : PS w0 w v p room rp c half K) : ∃ P G last now lst nv lv, CrS w0 w p room rp c half K P G last now lst nv lv := by
 rcases h with ⟨e, fs, last, now, lst, nv, lv, h, hs⟩ | ⟨P, G, last, now, lst, nv, lv, h2, h3, h4, h5, h6, h7, h8, h9, h10⟩
 ·obtain ⟨l, kk, s, hi⟩ := h.inv
  obtain ⟨G, hz, h2, h3⟩ := h.z
  exact ⟨_, G, last, now, lst, nv, lv, LvF.dv hz, h.r, h2, h3, h.k, sim_small hs.now hi.now, hs.c.2, hi.was, fun f q => .inl q⟩
 ·exact ⟨P, G, last, now, lst, nv, lv, h2.dv, h3, h4, h5, h6, h7, h8, h9, h10⟩
theorem CrS.mount {w0 w : World} {p room rp c : Nat} {half : Bool} {K : List Nat} {P : Files → Prop} {G : List Nat} {last : Files} {now lst : List RF} {nv lv : Value} (h : CrS w0 w p room rp c half K P G last now lst nv lv) (hc : c ≤ 900000) {x : CallR} (hx : CallS w0 x) {qa : Option Addr} {ql qc : Nat} (hpv : x.pv = .slice qa ql qc) :
  Calls Tryz.prog 30 #[.pointer (some ⟨p, 0, none⟩), .int .i64 x.n, .slice qa ql qc] w fun r w' => ∃ v : Nat, r = .returned (.pointer (some ⟨v, 0, none⟩)) ∧ ∃ f : Files, P f ∧ RL w0 w' v p room rp f f now lst nv lv (c + 6) K ∧ Stay K w w' := by
 refine (mounted_ok w0 w h.dv hc x.n hx.ok.n (picks := x.pk) (by rw [← hpv]; exact hx.rz) hx.ok.pk (fun q b hb => hx.ok.pOwn q b (by rw [hpv]; exact hb))).mono fun r w' ⟨v, e, f, hP, hl, hst⟩ => ?_
 exact ⟨v, e, f, hP, ⟨⟨G, hl, h.foot, h.kG⟩, h.r.stay hst h.foot, h.k⟩, hst.sub h.kG⟩
def RTwo (w0 w : World) (v p room : Nat) (f : Files) (rp : Nat) (now lst : List RF) (rp2 : Nat) (now2 lst2 : List RF) (c : Nat) (K : List Nat) : Prop :=
 ∃ nv lv nv2 lv2, RL w0 w v p room rp f f now lst nv lv c (rfoot rp2 nv2 lv2 ++ K) ∧ RAt w w0.heap.size rp2 room nv2 lv2 now2 lst2 ∧ ∀ i ∈ K, i ∉ rfoot rp2 nv2 lv2
section
variable {w0 w w' : World} {v p room rp rp2 : Nat} {f : Files} {c : Nat} {now lst now2 lst2 : List RF} {K : List Nat}
theorem RTwo.swap (h : RTwo w0 w v p room f rp now lst rp2 now2 lst2 c K) : RTwo w0 w v p room f rp2 now2 lst2 rp now lst c K := by
 obtain ⟨nv, lv, nv2, lv2, h1, h2, h3⟩ := h
 exact ⟨nv2, lv2, nv, lv, h1.swap h2 h3, h1.r, fun i hi => h1.k i (List.mem_append_right _ hi)⟩
theorem RTwo.sync (h : RTwo w0 w v p room f rp now lst rp2 now2 lst2 c K) (hs : now.length ≤ 64 ∧ ∀ x ∈ now, x.data.length ≤ 32768) :
  Calls Tryz.prog 36 #[.pointer (some ⟨rp, 0, none⟩)] w fun r w' => r = .returned (.tuple #[]) ∧ RTwo w0 w' v p room f rp (now.map syF) (now.map syF) rp2 now2 lst2 c K ∧ Stay K w w' := by
 obtain ⟨nv, lv, nv2, lv2, h1, h2, h3⟩ := h
 refine (rsync_ok h1.r h1.upd.size (by omega) hs.2).mono fun r w' ⟨e, hn⟩ => ⟨e, ?_⟩
 obtain ⟨nv', lv', q1, q2⟩ := h1.rstep hn
 exact ⟨⟨nv', lv', nv2, lv2, q1, h2.stay q2 fun i hi => List.mem_append_left _ hi, h3⟩, q2.sub fun i hi => List.mem_append_right _ hi⟩
theorem RTwo.reset (h : RTwo w0 w v p room f rp now lst rp2 now2 lst2 c K) (hs : lst.length ≤ 64) :
  Calls Tryz.prog 37 #[.pointer (some ⟨rp, 0, none⟩)] w fun r w' => r = .returned (.tuple #[]) ∧ RTwo w0 w' v p room f rp lst lst rp2 now2 lst2 c K ∧ Stay K w w' := by
 obtain ⟨nv, lv, nv2, lv2, h1, h2, h3⟩ := h
 refine (rreset_ok h1.r h1.upd.size (by omega)).mono fun r w' ⟨e, hn⟩ => ⟨e, ?_⟩
 obtain ⟨nv', lv', q1, q2⟩ := h1.rstep hn
 exact ⟨⟨nv', lv', nv2, lv2, q1, h2.stay q2 fun i hi => List.mem_append_left _ hi, h3⟩, q2.sub fun i hi => List.mem_append_right _ hi⟩
theorem RTwo.alike (h : RTwo w0 w v p room f rp now lst rp2 now2 lst2 c K) (hc : c ≤ 1000000) (hroom : room ≤ 1000) (h1 : RSm now) (h2 : RSm lst) (hex : ∃ rl : List Bs, rl.Perm (now.map (·.nm)) ∧ rl.Pairwise leN) :
  Calls Tryz.prog 38 #[.pointer (some ⟨v, 0, none⟩), .pointer (some ⟨rp, 0, none⟩)] w fun r w' => ∃ b : Bool, r = .returned (.bool b) ∧ (b = true ↔ Same room f f now lst) ∧ RTwo w0 w' v p room f rp now lst rp2 now2 lst2 c K ∧ Stay K w w' := by
 obtain ⟨nv, lv, nv2, lv2, g1, g2, g3⟩ := h
 refine (g1.alike hc hroom h1 h2 hex).mono fun r w' ⟨b, e, hb, hl, hst⟩ => ⟨b, e, hb, ⟨nv, lv, nv2, lv2, hl, g2.stay hst fun i hi => ?_, g3⟩, hst.sub fun i hi => ?_⟩
 ·exact List.mem_append_right _ (List.mem_append_left _ hi)
 ·exact List.mem_append_right _ (List.mem_append_right _ hi)
theorem RL.copy {nv lv : Value} {fs : Files} (h : RL w0 w v p room rp fs fs now lst nv lv c K) (h1 : RSm now) (h2 : lst.length ≤ 64) :
  Calls Tryz.prog 35 #[.pointer (some ⟨rp, 0, none⟩)] w fun r w' => ∃ rp2 : Nat, r = .returned (.pointer (some ⟨rp2, 0, none⟩)) ∧ RTwo w0 w' v p room fs rp now lst rp2 now lst c K ∧ Stay K w w' := by
 refine (rcopy_ok h.r h.upd.size (by have := h1.len; omega) (by omega)).mono fun r w' ⟨rp2, e, nv2, lv2, hr, hu, hnew⟩ => ⟨rp2, e, ⟨nv, lv, nv2, lv2, h.guard hu fun b hb => ⟨hnew b hb, (hr.lt b hb).2⟩, hr, fun i hi q => ?_⟩, .of hu⟩
 obtain ⟨G, hz, -, hk⟩ := h.z
 have := hz.lt i (hk i hi)
 have := hnew i q
 omega
end
section
variable {w0 w w' : World} {v p room rp rp2 c : Nat} {half : Bool} {K : List Nat} {P : Files → Prop} {G : List Nat} {last : Files} {now lst : List RF} {nv lv : Value} {f : Files}
theorem simC_sm (hok : FilesOk room f) {l : List RF} (h : SimC f l) : RSm (l.map syF) := by
 obtain ⟨h1, h2⟩ := simC_small hok h
 refine ⟨by rw [List.length_map]; exact h1, fun x hx => ?_⟩
 obtain ⟨y, hy, rfl⟩ := List.mem_map.1 hx
 have := h2 y hy
 exact ⟨this, by show blocksN y.data.length ≤ 64; unfold blocksN; omega⟩
theorem simC_ex (hok : FilesOk room f) {l : List RF} (h : SimC f l) : ∃ rl : List Bs, rl.Perm ((l.map syF).map (·.nm)) ∧ rl.Pairwise leN := sim_ex hok (SimC.sync hok h).now
theorem simC_of (h : SimC f (now.map syF)) : SimC f now := by
 unfold SimC at h ⊢
 rwa [syF_c] at h
theorem RTwo.ps {l : List RF} {now2 lst2 : List RF} (h : RTwo w0 w v p room f rp (l.map syF) (l.map syF) rp2 now2 lst2 c K) (h1 : 1 ≤ room) (hok : FilesOk room f) (hs : SimC f l) : PS w0 w v p room rp c false K := by
 obtain ⟨nv, lv, nv2, lv2, g1, g2, g3⟩ := h
 exact .inl ⟨rfl, f, f, _, _, nv, lv, (g1.sub fun i hi => List.mem_append_right _ hi).rs h1, SimC.sync hok hs⟩
theorem RTwo.inv {now2 lst2 : List RF} (h : RTwo w0 w v p room f rp now lst rp2 now2 lst2 c K) : ∃ (l : Nat → Cell) (k s : Nat), FsInv l room k s f f := by
 obtain ⟨nv, lv, nv2, lv2, g1, g2, g3⟩ := h
 exact g1.inv
theorem CrS.yes (h : CrS w0 w p room rp c half K P G last now lst nv lv) {now2 lst2 : List RF} {c' : Nat} {r1 : Nat} (hz : RTwo w0 w' v p room f r1 (lst.map syF) (lst.map syF) rp2 now2 lst2 c' K) (hsame : Same room f f (lst.map syF) (lst.map syF)) : PS w0 w' v p room r1 c' false K := by
 obtain ⟨l, k, s, hi⟩ := hz.inv
 obtain ⟨rl, q1, q2⟩ := simC_ex h.ok h.sim
 have hn := simC_nodup h.ok h.sim
 have hn2 : ((lst.map syF).map (·.nm)).Nodup := by rw [List.map_map]; exact hn
 exact hz.ps h.dv.one hi.now (simC_of (same_simC hi.now hsame (simC_sm h.ok h.sim) hn2 ⟨rl, q1, q2⟩))
theorem CrS.no (h : CrS w0 w p room rp c half K P G last now lst nv lv) (hP : P f) {now2 lst2 : List RF} {c' : Nat} {r1 : Nat} (hz : RTwo w0 w' v p room f r1 (lst.map syF) (lst.map syF) rp2 now2 lst2 c' K) (hsame : ¬ Same room f f (lst.map syF) (lst.map syF)) : half = true ∧ SimC f now ∧ FilesOk room f ∧ Same room f f (now.map syF) (now.map syF) := by
 obtain ⟨l, k, s, hi⟩ := hz.inv
 rcases h.p f hP with rfl | ⟨e, q1, q2⟩
 ·exact absurd (sim_same hi (SimC.sync h.ok h.sim)) hsame
 ·exact ⟨e, q1, q2, sim_same hi (SimC.sync q2 q1)⟩
end
def PL (w0 w : World) (v p room rp c : Nat) (K : List Nat) : Prop := ∃ fs last now lst nv lv, RS w0 w v p room rp fs last now lst nv lv c false K ∧ Sim fs last now lst
def PF (w0 w : World) (v p room rp c : Nat) (half : Bool) (K : List Nat) : Prop :=
 ∃ (P : Files → Prop) (G : List Nat) (last : Files) (now lst : List RF) (nv lv : Value), Fl w0 w v p room P c G ∧ RAt w w0.heap.size rp room nv lv now lst ∧ (∀ i ∈ rfoot rp nv lv, i ∈ G) ∧ (∀ i ∈ K, i ∈ G) ∧ (∀ i ∈ K, i ∉ rfoot rp nv lv) ∧ RSm now ∧ SimC last lst ∧ FilesOk room last ∧ ∀ f, P f → f = last ∨ (half = true ∧ SimC f now ∧ FilesOk room f)
section
variable {w0 w w' : World} {v p room rp rp2 c : Nat} {half : Bool} {K : List Nat}
theorem Stay.ownC (h : Stay K w w') {base : Nat} {v : Value} {l : List CallR} (ho : OwC w base v l) (hg : ∀ g, v.ownBlock = some g → g ∈ K) : OwC w' base v l := by
 obtain ⟨F, u, hF⟩ := h
 exact ho.upd u fun i hi e => hF i (hg i e) hi
theorem PS.two (h : PS w0 w v p room rp c half K) : (half = false ∧ PL w0 w v p room rp c K) ∨ PF w0 w v p room rp c half K := h
theorem PL.ps (h : PL w0 w v p room rp c K) : PS w0 w v p room rp c false K := .inl ⟨rfl, h⟩
theorem PF.ps (h : PF w0 w v p room rp c half K) : PS w0 w v p room rp c half K := .inr h
theorem PS.sub {K' : List Nat} (h : PS w0 w v p room rp c half K) (hs : ∀ i ∈ K', i ∈ K) : PS w0 w v p room rp c half K' := by
 rcases h with ⟨e, fs, last, now, lst, nv, lv, h, q⟩ | ⟨P, G, last, now, lst, nv, lv, h2, h3, h4, h5, h6, h7⟩
 ·exact .inl ⟨e, fs, last, now, lst, nv, lv, h.sub hs, q⟩
 ·exact .inr ⟨P, G, last, now, lst, nv, lv, h2, h3, h4, fun i hi => h5 i (hs i hi), fun i hi => h6 i (hs i hi), h7⟩
theorem PF.down (h : PF w0 w v p room rp c half K) : Calls Tryz.prog 29 #[.pointer (some ⟨p, 0, none⟩)] w fun r w' => r = .returned (.bool true) ∧ w' = w := by
 obtain ⟨P, G, last, now, lst, nv, lv, h2, -⟩ := h
 exact h2.down
theorem PF.silent (h : PF w0 w v p room rp c half K) (x : CallR) (pa qa : Option Addr) (pl pc ql qc : Nat) (hdv : x.dv = .slice pa pl pc) (hpv : x.pv = .slice qa ql qc) : Calls Tryz.prog 39 #[.pointer (some ⟨v, 0, none⟩), aggC x] w fun r w' => r = .returned (.bool true) ∧ PF w0 w' v p room rp c half K ∧ Stay K w w' := by
 obtain ⟨P, G, last, now, lst, nv, lv, h2, h3, h4, h5, h6, h7⟩ := h
 exact (h2.silent x pa qa pl pc ql qc hdv hpv).mono fun r w' ⟨e, hl, hst⟩ => ⟨e, ⟨P, G, last, now, lst, nv, lv, hl, h3.stay hst h4, h4, h5, h6, h7⟩, hst.sub h5⟩
theorem PL.down (h : PL w0 w v p room rp c K) : Calls Tryz.prog 29 #[.pointer (some ⟨p, 0, none⟩)] w fun r w' => r = .returned (.bool false) ∧ w' = w := by
 obtain ⟨fs, last, now, lst, nv, lv, h, hs⟩ := h
 exact h.down.mono fun r w' ⟨a, b⟩ => ⟨a, b.symm⟩
theorem PL.fuse (h : PL w0 w v p room rp c K) (n : Int) (hn : In64 n) :
  Calls Tryz.prog 28 #[.pointer (some ⟨p, 0, none⟩), .int .i64 n] w fun r w' => r = .returned (.int .i64 0) ∧ PL w0 w' v p room rp c K ∧ Stay K w w' := by
 obtain ⟨fs, last, now, lst, nv, lv, h, hs⟩ := h
 exact (h.fuse n hn).mono fun r w' ⟨e, h', hst⟩ => ⟨e, ⟨fs, last, now, lst, nv, lv, h', hs⟩, hst⟩
def PY (w0 w : World) (v p room rp c : Nat) (K : List Nat) : Prop := ∃ fs now lst nv lv, RS w0 w v p room rp fs fs now lst nv lv c false K ∧ SimC fs now ∧ RSm now
theorem PL.sync (h : PL w0 w v p room rp c K) (hc : c ≤ 900000) :
  Calls Tryz.prog 18 #[.pointer (some ⟨v, 0, none⟩)] w fun r w' => (r = .returned (.int .i64 0) ∧ PY w0 w' v p room rp (c + 1) K ∧ Stay K w w') ∨ (r = .returned (.int .i64 2) ∧ PF w0 w' v p room rp (c + 1) true K ∧ Stay K w w') := by
 obtain ⟨fs, last, now, lst, nv, lv, h, hs⟩ := h
 obtain ⟨l, k, s, hi⟩ := h.inv
 refine (h.sync (by omega)).mono fun r w' q => ?_
 rcases q with ⟨e, h', hst⟩ | ⟨e, G, hf, hr, h1, h2, hst⟩
 ·exact .inl ⟨e, ⟨fs, now, lst, nv, lv, h', hs.c.1, sim_small hs.now hi.now⟩, hst⟩
 ·refine .inr ⟨e, ⟨_, G, last, now, lst, nv, lv, hf, hr, h1, h2, h.k, sim_small hs.now hi.now, hs.c.2, hi.was, fun f q => ?_⟩, hst⟩
  rcases q with q | rfl
  ·exact .inl q
  ·exact .inr ⟨rfl, hs.c.1, hi.now⟩
theorem PY.down (h : PY w0 w v p room rp c K) : Calls Tryz.prog 29 #[.pointer (some ⟨p, 0, none⟩)] w fun r w' => r = .returned (.bool false) ∧ w' = w := by
 obtain ⟨fs, now, lst, nv, lv, h, hs⟩ := h
 exact h.down.mono fun r w' ⟨a, b⟩ => ⟨a, b.symm⟩
theorem PY.rsync (h : PY w0 w v p room rp c K) :
  Calls Tryz.prog 36 #[.pointer (some ⟨rp, 0, none⟩)] w fun r w' => r = .returned (.tuple #[]) ∧ PL w0 w' v p room rp c K ∧ Stay K w w' := by
 obtain ⟨fs, now, lst, nv, lv, h, hs, hm⟩ := h
 obtain ⟨l, k, s, hi⟩ := h.inv
 refine (rsync_ok h.r h.upd.size (by have := hm.len; omega) (fun x hx => (hm.elt x hx).1)).mono fun r w' ⟨e, hn⟩ => ?_
 obtain ⟨nv', lv', q1, q2⟩ := h.rstep hn
 exact ⟨e, ⟨fs, fs, _, _, nv', lv', q1, SimC.sync hi.now hs⟩, q2⟩
def PZ (w0 w : World) (v p room rp c : Nat) (K : List Nat) : Prop := ∃ last now lst nv lv, RS w0 w v p room rp last last now lst nv lv c false K ∧ Sim last last lst lst ∧ lst.length ≤ 64
theorem PL.reset (h : PL w0 w v p room rp c K) :
  Calls Tryz.prog 32 #[.pointer (some ⟨v, 0, none⟩)] w fun r w' => r = .returned (.tuple #[]) ∧ PZ w0 w' v p room rp c K ∧ Stay K w w' := by
 obtain ⟨fs, last, now, lst, nv, lv, h, hs⟩ := h
 obtain ⟨l, k, s, hi⟩ := h.inv
 exact h.reset.mono fun r w' ⟨e, h', hst⟩ => ⟨e, ⟨last, now, lst, nv, lv, h', sim_reset hs, (sim_small hs.lst hi.was).len⟩, hst⟩
theorem PZ.rreset (h : PZ w0 w v p room rp c K) :
  Calls Tryz.prog 37 #[.pointer (some ⟨rp, 0, none⟩)] w fun r w' => r = .returned (.tuple #[]) ∧ PL w0 w' v p room rp c K ∧ Stay K w w' := by
 obtain ⟨last, now, lst, nv, lv, h, hs, hm⟩ := h
 refine (rreset_ok h.r h.upd.size (by omega)).mono fun r w' ⟨e, hn⟩ => ?_
 obtain ⟨nv', lv', q1, q2⟩ := h.rstep hn
 exact ⟨e, ⟨last, last, _, _, nv', lv', q1, hs⟩, q2⟩
def PB (w0 w : World) (v p room rp rp2 c : Nat) (K : List Nat) : Prop := ∃ fs last now lst nv lv nv2 lv2, RS w0 w v p room rp fs last now lst nv lv c false (rfoot rp2 nv2 lv2 ++ K) ∧ Sim fs last now lst ∧ RAt w w0.heap.size rp2 room nv2 lv2 now lst ∧ ∀ i ∈ K, i ∉ rfoot rp2 nv2 lv2
theorem PL.copy (h : PL w0 w v p room rp c K) :
  Calls Tryz.prog 35 #[.pointer (some ⟨rp, 0, none⟩)] w fun r w' => ∃ rp2 : Nat, r = .returned (.pointer (some ⟨rp2, 0, none⟩)) ∧ PB w0 w' v p room rp rp2 c K ∧ Stay K w w' := by
 obtain ⟨fs, last, now, lst, nv, lv, h, hs⟩ := h
 obtain ⟨l, k, s, hi⟩ := h.inv
 refine (rcopy_ok h.r h.upd.size (by have := (sim_small hs.now hi.now).len; omega) (by have := (sim_small hs.lst hi.was).len; omega)).mono fun r w' ⟨rp2, e, nv2, lv2, hr, hu, hnew⟩ => ⟨rp2, e, ⟨fs, last, now, lst, nv, lv, nv2, lv2, h.guardF hu (by simp) fun b hb => ⟨hnew b hb, (hr.lt b hb).2⟩, hs, hr, fun i hi q => ?_⟩, .of hu⟩
 have := h.lt i hi
 have := hnew i q
 omega
def PD (w0 w : World) (v p room rp rp2 c : Nat) (dn : Bool) (K : List Nat) : Prop := (dn = true → PF w0 w v p room rp2 c false K) ∧ (dn = false → PL w0 w v p room rp c K) ∧ Calls Tryz.prog 29 #[.pointer (some ⟨p, 0, none⟩)] w fun r w' => r = .returned (.bool dn) ∧ w = w'
theorem PB.doIt (h : PB w0 w v p room rp rp2 c K) (hc : c ≤ 900000) (hroom : room ≤ 1000) (x : CallR) (hx : CallS w0 x) {pa qa : Option Addr} {pl pc ql qc : Nat} (hdv : x.dv = .slice pa pl pc) (hpv : x.pv = .slice qa ql qc) :
  Calls Tryz.prog 40 #[.pointer (some ⟨p, 0, none⟩), .pointer (some ⟨v, 0, none⟩), .pointer (some ⟨rp, 0, none⟩), aggC x] w fun r w' => r = .returned (.bool true) ∧ ∃ (dn : Bool) (c' : Nat), PD w0 w' v p room rp rp2 c' dn K ∧ c' ≤ c + 1 ∧ Stay K w w' := by
 obtain ⟨fs, last, now, lst, nv, lv, nv2, lv2, h, hs, hr2, hk2⟩ := h
 obtain ⟨l, k, s, hi⟩ := h.inv
 refine (do_ok h hs hc hroom x hx.rd hx.ok hdv hpv).mono fun r w' ⟨e, dn, fs', now', nv', lv', c', h', hs', hc', hst⟩ => ⟨e, dn, c', ⟨fun q => ?_, fun q => ?_, h'.down⟩, hc', hst.sub fun i hi => List.mem_append_right _ hi⟩
 ·subst q
  obtain ⟨G, hz, hf, hk⟩ := h'.z
  exact ⟨_, G, last, now, lst, nv2, lv2, hz, hr2.stay hst fun i hi => List.mem_append_left _ hi, fun i hi => hk i (List.mem_append_left _ hi), fun i hi => hk i (List.mem_append_right _ hi), hk2, sim_small hs.now hi.now, hs.c.2, hi.was, fun f q => .inl q⟩
 ·subst q
  exact ⟨fs', last, now', lst, nv', lv', h'.sub fun i hi => List.mem_append_right _ hi, hs' rfl⟩
end
end Go.Proofs.YteepgehjkcahiaaGreat

namespace Go.Proofs.YteepgehjkcahiaaGreat
open Go.RowKit Go.Maps
set_option maxRecDepth 100000 in
set_option maxHeartbeats 16000000 in
theorem fsplays_walk (w : World) (blocks : Int) (sb : Option Addr) (tl tc : Nat) (m : List CallR) (ht : SlAt 7 CallAt w (.slice sb tl tc) m) (hot : ∀ x ∈ m, CallOk w x) (_ht : tl ≤ 9223372036854775807) (hb : In64 blocks) :
  Calls Tryz.prog 11 #[.int .i64 blocks, .slice sb tl tc] w fun r w' => r = .returned (.bool true) ∧ Upd [] w w' := by
 have HA := Lib.hid (awake_ok w)
 have HL := Lib.hid fun (X : World) (u : Upd [] w X) (n : Nat) (h1 : 64 ≤ n) (h2 : n ≤ 512) => lv_laid w u n h1 h2
 have HPk := Lib.hid fun X : World => pick_ok blocks 60 X hb.1 hb.2 (by omega) (by omega)
 obtain ⟨a', c', hv, hml, hcm, hel⟩ := id ht
 simp only [Value.slice.injEq] at hv
 obtain ⟨rfl, hmn, rfl⟩ := hv
 have htc : tc ≤ 9223372036854775807 := by unfold maxLen at hcm; omega
 obtain ⟨k, hk⟩ : ∃ k, k = min tl 60 := ⟨_, rfl⟩
 have hmin : min (tl : Int) 60 = (k : Int) := by omega
 have hkc : k ≤ tc := by omega
 have hk6 : k ≤ 60 := by omega
 have hlk : (m.take k).length = k := by rw [List.length_take]; omega
 have hcs : ∀ x ∈ m, CallS w x := fun x hx => by
  obtain ⟨i, hi, rfl⟩ := List.getElem_of_mem hx
  obtain ⟨b, off, -, hc⟩ := hel i hi
  exact ⟨hc.rd, hc.rz, hot _ hx⟩
 have HSR : Hid (∀ X, Upd [] w X → SrcG cC X sb (m.take k)) := Lib.hid fun X u => srcG_take (SlAt.srcG TC (fun b o x h => callAt_cells h) (SlAt.keep (fun _ _ _ h => h.keep u) ht)) k
 have HCS : Hid (∀ x ∈ m.take k ++ [x11], CallS w x) := Lib.hid fun x hx => by
  rcases List.mem_append.1 hx with q | q
  ·exact hcs x (List.mem_of_mem_take q)
  ·rw [List.mem_singleton.1 q]; exact x11_ok w
 have HLK := Lib.hid hlk
 clear ht hot hb hml hcm hel hmn hk hlk hcs
 go_enter Tryz.func11, Tryz.ntmps11
 go_wp2_with fail
 refine HA.out.mono ?_
 rintro r w1 ⟨rfl, hu1⟩
 have HU1 := Lib.hid hu1
 clear hu1
 go_wp2_with fail
 refine (HPk.out _).mono ?_
 rintro r w1' ⟨⟨rr, rfl, hr0, hr1⟩, rfl⟩
 obtain ⟨N, hNd⟩ : ∃ N : Nat, (64 : Int) + rr = (N : Int) := ⟨(64 + rr).toNat, by omega⟩
 have hN1 : 64 ≤ N := by omega
 have hN2 : N ≤ 123 := by omega
 go_wp2_with fail
 refine (HL.out _ HU1.out N hN1 (by omega)).mono ?_
 rintro r w2 ⟨p, v, rfl, hlv, -⟩
 have HNw := Lib.hid (rnew_ok w2 N (by omega) (by omega))
 have HLV := Lib.hid hlv
 clear hlv HL HA HPk
 go_wp2_with fail
 refine HNw.out.mono ?_
 rintro r w3 ⟨rfl, hra, hu3⟩
 obtain ⟨room, hroom⟩ : ∃ room, room = N - 36 := ⟨_, rfl⟩
 rw [← hroom] at hra HLV
 have hrb := hra.base (b := w.heap.size) HLV.out.upd.size
 have h3 : RS w w3 v p room w2.heap.size [] [] [] [] (.slice none 0 0) (.slice none 0 0) 0 false [] :=
  ⟨⟨_, LvF.of (HLV.out.guard hu3 (G' := [w2.heap.size]) (by intro b hb; obtain rfl := List.mem_singleton.1 hb; exact ⟨Nat.le_refl _, lt_of_blk hra.box⟩)) (by omega), fun i hi => by simpa [rfoot, Value.ownBlock] using hi, by simp⟩, hrb, by simp⟩
 have hr1000 : room ≤ 1000 := by omega
 have H3 := Lib.hid h3
 generalize w2.heap.size = rp at *
 have hu3a : Upd [] w3 (w3.alloc (.cells #[] 49)) := (Upd.refl [] w3).alloc _
 have HU3 := Lib.hid (And.intro hu3a (H3.out.upd.trans hu3a))
 clear hra hu3 hrb h3 HNw HLV hroom hu3a
 go_wp2_with (first
  | (at_builtin; go_loud (refine wpList_append_G TC rfl _ _ rfl (base := w3.heap.size) (l := []) (r := m.take k) rfl (OwnG.empty TC (heap_top _ _) (Nat.le_refl _)) (by rw [HLK.out]; rfl) (HSR.out _ HU3.out.2) (oneC fun x hx => HCS.out x (List.mem_append_left _ hx)) ?c1 ?c2 ?c3 ?_))
  | fail)
 case c1 => rw [HLK.out, List.length_nil]; omega
 case c2 => rw [HLK.out, List.length_nil]; omega
 case c3 => simp
 intro v4 w4 ho4 hg4 hn4
 obtain ⟨a4, k4, m4, hm4, rfl⟩ := ho4.sliceM
 have hu4 : Upd [] w3 w4 := HU3.out.1.grown hg4 (fun g hg => by cases hg; exact Nat.le_refl _)
 have HO4 : Hid (∀ X : Obj, OwC (w4.alloc X) w3.heap.size (.slice a4 m4 k4) ([] ++ m.take k)) := Lib.hid fun X => ho4.upd ((Upd.refl [] w4).alloc X) (by simp)
 have H4 := Lib.hid (And.intro hu4 (And.intro hm4 ho4.block))
 clear ho4 hg4 hn4 hm4 hu4 HU3
 go_wp2_with (first
  | (at_builtin; go_loud (refine wpList_append_G TC rfl _ _ rfl (base := w3.heap.size) (l := [] ++ m.take k) (r := [x11]) rfl (HO4.out _) rfl (src_new TC (ty := 49) (heap_top _ _)) (oneC fun x hx => HCS.out x (List.mem_append_right _ hx)) ?d1 ?d2 ?d3 ?_))
  | fail)
 case d1 => rw [List.nil_append, HLK.out]; simp; omega
 case d2 => rw [List.nil_append, HLK.out]; simp; omega
 case d3 => have := H4.out.1.size; simp; omega
 intro v5 w5 ho5 hg5 hn5
 obtain ⟨a5, k5, m5, hm5, rfl⟩ := ho5.sliceM
 have hu5 : Upd [] w3 w5 := (H4.out.1.alloc _).grown hg5 (fun g hg => (H4.out.2.2 g hg).1)
 try simp only [List.nil_append] at ho5 hm5
 have hm61 : m5 = k + 1 := by rw [hm5, List.length_append, HLK.out]; rfl
 have hps : PS w w5 v p room rp 0 false ((Value.slice a5 m5 k5).ownBlock.toList ++ []) := PS.guardF (.inl ⟨rfl, [], [], [], [], _, _, H3.out, ⟨List.Perm.nil, List.Perm.nil⟩⟩) hu5 (by simp) (fun b hb => ho5.block b (by simpa using hb))
 obtain ⟨-, hmk, hkm⟩ := owC_cap ho5
 have H5 := Lib.hid (And.intro hps (And.intro ho5 hm5))
 have hm562 : m5 ≤ 61 := by omega
 generalize hL : m.take k ++ [x11] = L at *
 generalize hK0 : (Value.slice a5 m5 k5).ownBlock.toList ++ [] = K0 at *
 have HK0 := Lib.hid (show ∀ g, (Value.slice a5 m5 k5).ownBlock = some g → g ∈ K0 from fun g hg => by rw [← hK0]; simp [hg])
 have hw35 := H3.out.upd.size
 clear ho5 hg5 hn5 hm5 hu5 hps hm61 HO4 H4 hL hK0
 generalize w3.heap.size = base at *
 go_wp2_with fail
 go_loopg [7, 8, 9, 10, 11, 12, 13, 14, 15] m5 (fun gh v7 v8 v9 v10 v11 v12 v13 v14 v15 wr => ∃ (i v rp c : Nat) (half : Bool), v7 = .pointer (some ⟨v, 0, none⟩) ∧ v8 = .pointer (some ⟨rp, 0, none⟩) ∧ v9 = .bool half ∧ v10 = .int .i64 i ∧ i ≤ m5 ∧ gh = m5 - i ∧ c ≤ 12 * i ∧ Hid (PS w wr v p room rp c half K0 ∧ OwC wr base (.slice a5 m5 k5) L))
 case atStart => exact ⟨0, v, rp, 0, false, rfl, rfl, rfl, rfl, by omega, rfl, by omega, Lib.hid ⟨H5.out.1, H5.out.2.1⟩⟩
 case round =>
  obtain ⟨i, v, rp, c, half, rfl, rfl, rfl, rfl, hi, rfl, hc, HS⟩ := hrel
  by_cases him : i < m5
  ·have him' : (i : Int) < (m5 : Int) := by omega
   obtain ⟨g, x, rfl, hxL, d0, d1, d2, d3, d4, d5, d6⟩ := owC_at HS.out.2 (i := i) (by have := H5.out.2.2; omega)
   have hcs := HCS.out x hxL
   obtain ⟨kind, nm, dst, dv, d, at_, n, pv, pk⟩ := x
   obtain ⟨pa, pl, pc, qa, ql, qc, e1, e2⟩ := hcs.sl
   dsimp only at d0 d1 d2 d3 d4 d5 d6 e1 e2
   subst e1 e2
   have HX := Lib.hid hcs
   clear hcs hxL
   go_upto_block 2 with fail
   obtain ⟨wb, hwb⟩ : ∃ wb, wb = wr.alloc (boxC ⟨kind, nm, dst, .slice pa pl pc, d, at_, n, .slice qa ql qc, pk⟩) := ⟨_, rfl⟩
   obtain ⟨B, hB⟩ : ∃ B, B = wr.heap.size := ⟨_, rfl⟩
   have hx0 : wb.heap[B]? = some (boxC ⟨kind, nm, dst, .slice pa pl pc, d, at_, n, .slice qa ql qc, pk⟩) := by rw [hwb, hB]; exact heap_top _ _
   have hup0 : Upd [] wr wb := by rw [hwb]; exact (Upd.refl [] wr).alloc _
   have hps0 : PS w wb v p room rp c half (B :: K0) := HS.out.1.guardF hup0 (by simp) (K' := [B]) (by intro b hb; obtain rfl := List.mem_singleton.1 hb; exact ⟨by omega, lt_of_blk hx0⟩)
   have H0 := Lib.hid (And.intro hx0 (And.intro hps0 hup0))
   rw [← hwb, ← hB]
   clear hwb hB hx0 hup0 hps0 d0 d1 d2 d3 d4 d5 d6
   go_cut [7, 8, 9, 12, 13, 14, 15] (fun v7 v8 v9 v12 v13 v14 v15 wx => ∃ (v' rp' c' : Nat) (half' : Bool), v7 = .pointer (some ⟨v', 0, none⟩) ∧ v8 = .pointer (some ⟨rp', 0, none⟩) ∧ v9 = .bool half' ∧ v12 = .bool true ∧ c' ≤ c + 12 ∧ Hid (PS w wx v' p room rp' c' half' (B :: K0) ∧ Stay (B :: K0) wb wx))
   case first =>
    obtain ⟨b0, b1, b2, b3, b4, b5, b6⟩ := boxC_at H0.out.1
    dsimp only at b0 b1 b2 b3 b4 b5 b6
    by_cases k11 : kind = 11
    ·subst k11
     obtain ⟨P, G, last, now, lst, nv, lv, hcr⟩ := H0.out.2.1.crs
     have HM := Lib.hid (hcr.mount (by omega) HX.out rfl)
     have HCR := Lib.hid hcr
     clear hcr b1 b2 b3 b4
     go_wp2_with fail
     refine HM.out.mono ?_
     rintro r w6 ⟨v', rfl, f, hPf, hrl6, hst6⟩
     have HPf := Lib.hid hPf
     have HSt := Lib.hid hst6
     have HCo := Lib.hid (hrl6.copy HCR.out.sm (simC_small HCR.out.ok HCR.out.sim).1)
     clear HM hPf hrl6 hst6 b0 b5 b6
     go_wp2_with fail
     refine HCo.out.mono ?_
     rintro r w7 ⟨rp2, rfl, hz7, hst7⟩
     have HSy := Lib.hid (hz7.swap.sync ⟨HCR.out.sm.len, fun x hx => (HCR.out.sm.elt x hx).1⟩)
     have HSt7 := Lib.hid (HSt.out.trans hst7)
     clear HCo HSt hz7 hst7
     go_wp2_with fail
     refine HSy.out.mono ?_
     rintro r w8 ⟨rfl, hz8, hst8⟩
     have HRe := Lib.hid (hz8.swap.reset (simC_small HCR.out.ok HCR.out.sim).1)
     have HSt8 := Lib.hid (HSt7.out.trans hst8)
     clear HSy HSt7 hz8 hst8
     go_wp2_with fail
     refine HRe.out.mono ?_
     rintro r w9 ⟨rfl, hz9, hst9⟩
     have HSy := Lib.hid (hz9.sync (simC_small HCR.out.ok HCR.out.sim))
     have HSt9 := Lib.hid (HSt8.out.trans hst9)
     clear HRe HSt8 hz9 hst9
     go_wp2_with fail
     refine HSy.out.mono ?_
     rintro r w10 ⟨rfl, hz10, hst10⟩
     have HAl := Lib.hid (hz10.alike (by omega) hr1000 (simC_sm HCR.out.ok HCR.out.sim) (simC_sm HCR.out.ok HCR.out.sim) (simC_ex HCR.out.ok HCR.out.sim))
     have HSt10 := Lib.hid (HSt9.out.trans hst10)
     clear HSy HSt9 hz10 hst10
     go_wp2_with fail
     refine HAl.out.mono ?_
     rintro r w11 ⟨b, rfl, hiff, hz11, hst11⟩
     have HIff := Lib.hid hiff
     have HZ := Lib.hid (And.intro hz11 (HSt10.out.trans hst11))
     clear HAl HSt10 hiff hz11 hst11
     cases b with
     | true =>
      have HEnd := Lib.hid (HCR.out.yes HZ.out.1 (HIff.out.1 rfl))
      go_wp2_with fail
      go_meet
      exact ⟨v', rp, c + 6, false, rfl, rfl, rfl, rfl, by omega, Lib.hid ⟨HEnd.out, HZ.out.2⟩⟩
     | false =>
      obtain ⟨hhalf, hsn, hokn, hsame⟩ := HCR.out.no HPf.out HZ.out.1 (fun q => by have := HIff.out.2 q; cases this)
      subst hhalf
      have HAl := Lib.hid (HZ.out.1.swap.alike (by omega) hr1000 (simC_sm hokn hsn) (simC_sm hokn hsn) (simC_ex hokn hsn))
      have HN := Lib.hid (And.intro hsn (And.intro hokn hsame))
      clear hsn hokn hsame
      go_wp2_with fail
      refine HAl.out.mono ?_
      rintro r w12 ⟨b, rfl, hiff, hz12, hst12⟩
      obtain rfl : b = true := hiff.2 HN.out.2.2
      have HEnd := Lib.hid (And.intro (hz12.ps HCR.out.dv.one HN.out.2.1 HN.out.1) (HZ.out.2.trans hst12))
      clear HAl hiff hz12 hst12
      go_wp2_with fail
      go_meet
      exact ⟨v', rp2, c + 6, false, rfl, rfl, rfl, rfl, by omega, Lib.hid HEnd.out⟩
    ·have g11 : (kind == 11) = false := by simpa using k11
     rcases H0.out.2.1.two with ⟨rfl, hpl⟩ | hpf
     ·have HDn := Lib.hid hpl.down
      have HPL := Lib.hid hpl
      clear hpl k11
      by_cases k8 : kind = 8
      ·subst k8
       have HSy := Lib.hid (HPL.out.sync (by omega))
       clear b1 b2 b3 b4 b5 b6
       go_wp2_with fail
       refine HDn.out.mono ?_
       rintro r w6 ⟨rfl, rfl⟩
       go_wp2_with fail
       refine HSy.out.mono ?_
       rintro r w7 (⟨rfl, hy, hst7⟩ | ⟨rfl, hf, hst7⟩)
       ·have HDn := Lib.hid hy.down
        have HRs := Lib.hid hy.rsync
        have HSt := Lib.hid hst7
        clear hy hst7 HSy
        go_wp2_with fail
        refine HDn.out.mono ?_
        rintro r w8 ⟨rfl, rfl⟩
        go_wp2_with fail
        refine HRs.out.mono ?_
        rintro r w9 ⟨rfl, hl9, hst9⟩
        have HEnd := Lib.hid (And.intro hl9.ps (HSt.out.trans hst9))
        clear hl9 hst9 HRs
        go_wp2_with fail
        go_meet
        exact ⟨v, rp, c + 1, false, rfl, rfl, rfl, rfl, by omega, Lib.hid HEnd.out⟩
       ·have HDn := Lib.hid hf.down
        have HEnd := Lib.hid (And.intro hf.ps hst7)
        clear hf hst7 HSy
        go_wp2_with fail
        refine HDn.out.mono ?_
        rintro r w8 ⟨rfl, rfl⟩
        go_wp2_with fail
        go_meet
        exact ⟨v, rp, c + 1, true, rfl, rfl, rfl, rfl, by omega, Lib.hid HEnd.out⟩
      have g8 : (kind == 8) = false := by simpa using k8
      clear k8
      by_cases k9 : kind = 9
      ·subst k9
       have HSy := Lib.hid HPL.out.reset
       clear b1 b2 b3 b4 b5 b6
       go_wp2_with fail
       refine HDn.out.mono ?_
       rintro r w6 ⟨rfl, rfl⟩
       go_wp2_with fail
       refine HSy.out.mono ?_
       rintro r w7 ⟨rfl, hz, hst7⟩
       have HRs := Lib.hid hz.rreset
       have HSt := Lib.hid hst7
       clear hz hst7 HSy
       go_wp2_with fail
       refine HRs.out.mono ?_
       rintro r w9 ⟨rfl, hl9, hst9⟩
       have HEnd := Lib.hid (And.intro hl9.ps (HSt.out.trans hst9))
       clear hl9 hst9 HRs
       go_wp2_with fail
       go_meet
       exact ⟨v, rp, c, false, rfl, rfl, rfl, rfl, by omega, Lib.hid HEnd.out⟩
      have g9 : (kind == 9) = false := by simpa using k9
      clear k9
      by_cases k10 : kind = 10
      ·subst k10
       have HSy := Lib.hid (HPL.out.fuse n HX.out.ok.n)
       clear b1 b2 b3 b4 b6
       go_wp2_with fail
       refine HDn.out.mono ?_
       rintro r w6 ⟨rfl, rfl⟩
       go_wp2_with fail
       refine HSy.out.mono ?_
       rintro r w7 ⟨rfl, hz, hst7⟩
       have HEnd := Lib.hid (And.intro hz.ps hst7)
       clear hz hst7 HSy
       go_wp2_with fail
       go_meet
       exact ⟨v, rp, c, false, rfl, rfl, rfl, rfl, by omega, Lib.hid HEnd.out⟩
      have g10 : (kind == 10) = false := by simpa using k10
      clear k10
      have HCo := Lib.hid HPL.out.copy
      clear b1 b2 b3 b4 b5 b6
      go_wp2_with fail
      refine HDn.out.mono ?_
      rintro r w6 ⟨rfl, rfl⟩
      go_wp2_with fail
      refine HCo.out.mono ?_
      rintro r w7 ⟨rp2, rfl, hb7, hst7⟩
      obtain ⟨b0', b1, b2, b3, b4, b5, b6⟩ := boxC_at ((hst7.block (lt_of_blk H0.out.1) (by simp)).trans H0.out.1)
      dsimp only at b0' b1 b2 b3 b4 b5 b6
      have HDo := Lib.hid (hb7.doIt (by omega) hr1000 _ HX.out rfl rfl)
      have HSt := Lib.hid hst7
      clear hb7 hst7 HCo HDn b0
      go_wp2_with fail
      refine HDo.out.mono ?_
      rintro r w8 ⟨rfl, dn, c', hd8, hc8, hst8⟩
      have HDn := Lib.hid hd8.2.2
      have HD := Lib.hid (And.intro hd8.1 hd8.2.1)
      have HSt8 := Lib.hid (HSt.out.trans hst8)
      clear hd8 hst8 HDo HSt b0' b1 b2 b3 b4 b5 b6
      go_wp2_with fail
      refine HDn.out.mono ?_
      rintro r w9 ⟨rfl, rfl⟩
      cases dn with
      | true =>
       have HEnd := Lib.hid (And.intro (HD.out.1 rfl).ps HSt8.out)
       go_wp2_with fail
       go_meet
       exact ⟨v, rp2, c', false, rfl, rfl, rfl, rfl, by omega, Lib.hid HEnd.out⟩
      | false =>
       have HEnd := Lib.hid (And.intro (HD.out.2 rfl).ps HSt8.out)
       go_wp2_with fail
       go_meet
       exact ⟨v, rp, c', false, rfl, rfl, rfl, rfl, by omega, Lib.hid HEnd.out⟩
     ·have HDn := Lib.hid hpf.down
      have HSi := Lib.hid (hpf.silent ⟨kind, nm, dst, .slice pa pl pc, d, at_, n, .slice qa ql qc, pk⟩ pa qa pl pc ql qc rfl rfl)
      clear hpf k11
      go_wp2_with fail
      refine HDn.out.mono ?_
      rintro r w6 ⟨rfl, rfl⟩
      go_wp2_with fail
      refine HSi.out.mono ?_
      rintro r w7 ⟨rfl, hf7, hst7⟩
      have HEnd := Lib.hid (And.intro hf7.ps hst7)
      clear hf7 hst7 HSi
      go_wp2_with fail
      go_meet
      exact ⟨v, rp, c, half, rfl, rfl, rfl, rfl, by omega, Lib.hid HEnd.out⟩
   case rest =>
    obtain ⟨v', rp', c', half', rfl, rfl, rfl, rfl, hc', HE⟩ := hcut
    have hst := (Stay.of (G := K0) H0.out.2.2).trans (HE.out.2.sub fun i hi => List.mem_cons_of_mem _ hi)
    have HR := Lib.hid (And.intro (HE.out.1.sub  fun i hi => List.mem_cons_of_mem _ hi) (hst.ownC HS.out.2 HK0.out))
    clear hst
    go_wp2_with fail
    go_roundg (m5 - (i + 1))
    case measure => omega
    case rel => exact ⟨i + 1, v', rp', c', half', rfl, rfl, rfl, by go_num, by omega, rfl, by omega, HR⟩
  ·have him' : ¬ (i : Int) < (m5 : Int) := by omega
   have HU := Lib.hid HS.out.1.upd
   go_wp2_with fail
   go_ret
   exact ⟨rfl, HU.out⟩
end Go.Proofs.YteepgehjkcahiaaGreat
