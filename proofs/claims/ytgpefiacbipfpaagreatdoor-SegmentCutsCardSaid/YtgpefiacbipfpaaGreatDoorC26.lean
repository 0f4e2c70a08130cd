/- Appending, in plain words and in memory: the free blocks that it takes, the node that grows. Append. The directory of no files: a map of none. Format. -/
import Derived.Shelf.SlIter.Nil
import Derived.Test.YtgpefiacbipfpaaGreatDoorC24
import Derived.Test.YtgpefiacbipfpaaGreatDoorC25
namespace Go.Proofs.YtgpefiacbipfpaaGreatDoor
open Go.RowKit Go.Maps
def freesF (room : Nat) (fs last : Files) : List Run := frees (freeB (marks room fs) (marks room last)) room 0
def freeN (room : Nat) (fs last : Files) : Nat := lenR (freesF room fs last)
def needN (f : Fil) (n : Nat) : Nat := blocksN (f.data.length + n) - blocksN f.data.length
def codeP (room : Nat) (fs last : Files) (nm : Bs) (n : Nat) : Nat := match getA fs nm with | none => 80 | some f => if 32768 < f.data.length + n then 84 else if freeN room fs last < needN f n then 85 else 0
def growF (room : Nat) (fs last : Files) (f : Fil) (d : Bs) : Fil := grown f (takeR (freesF room fs last) (needN f d.length)) d
def appF (room : Nat) (fs last : Files) (nm d : Bs) : Files := match getA fs nm with | none => fs | some f => putA ltN fs nm (growF room fs last f d)
theorem freeB_marks {room : Nat} (fs last : Files) {b : Nat} (h : b < room) : freeB (marks room fs) (marks room last) b = (!decide (b ∈ allBlks fs) && !decide (b ∈ allBlks last)) := by
 unfold freeB
 rw [List.getD_eq_getElem?_getD, List.getD_eq_getElem?_getD, marks_get fs h, marks_get last h]
 rfl
theorem mem_freesF {room : Nat} {fs last : Files} {b : Nat} : b ∈ expand (freesF room fs last) ↔ b < room ∧ b ∉ allBlks fs ∧ b ∉ allBlks last := by
 unfold freesF
 rw [expand_frees, mem_freeList]
 constructor
 ·rintro ⟨h1, h2⟩
  rw [freeB_marks fs last h1] at h2
  simp at h2
  exact ⟨h1, h2⟩
 ·rintro ⟨h1, h2, h3⟩
  exact ⟨h1, by rw [freeB_marks fs last h1]; simp [h2, h3]⟩
theorem FsInv.grow {l : Nat → Cell} {room k s : Nat} {fs last : Files} (h : FsInv l room k s fs last) {nm : Bs} {f : Fil} (hg : getA fs nm = some f) (n : Nat) : Grow room fs last nm f (takeR (freesF room fs last) n) where
 get := hg
 ok := h.now
 kins := h.kin
 was := fun q hq => blks_nodup h.was.nodup hq
 pos := takeR_pos _ _ fun r hr => (frees_pos _ _ _ r hr).1
 free := fun b hb => by
  rw [expand_takeR] at hb
  exact mem_freesF.1 (List.mem_of_mem_take hb)
 nodup := by
  rw [expand_takeR]
  have : (expand (freesF room fs last)).Nodup := by unfold freesF; rw [expand_frees]; exact nodup_freeList _ _
  exact this.sublist (List.take_sublist ..)
theorem take_add {room : Nat} {fs last : Files} (hr : room ≤ 512) {n : Nat} (hn : n ≤ 1000) : AddOk (takeR (freesF room fs last) n) := by
 have hp := takeR_pos (freesF room fs last) n fun r hr => (frees_pos _ _ _ r hr).1
 refine ⟨hp, takeR_le _ _ _ fun r hr' => ?_, ?_⟩
 ·have := (frees_pos _ _ _ r hr').2
  omega
 ·have h1 := runs_few hp
  have h2 : lenR (takeR (freesF room fs last) n) ≤ n := by rw [← expand_len, expand_takeR, List.length_take]; omega
  omega
theorem mem_all_put {fs : Files} (hs : Srt ltN fs) {nm : Bs} {g : Fil} {b : Nat} : b ∈ allBlks (putA ltN fs nm g) ↔ b ∈ g.blks ∨ ∃ p ∈ fs, p.1 ≠ nm ∧ b ∈ p.2.blks := by
 rw [(perm_all (putA_perm ordN hs nm g)).mem_iff]
 show b ∈ List.flatMap _ _ ↔ _
 rw [List.flatMap_cons, List.mem_append]
 constructor
 ·rintro (h | h)
  ·exact .inl h
  ·obtain ⟨p, hp, hb⟩ := List.mem_flatMap.1 h
   have := mem_delA.1 hp
   exact .inr ⟨p, this.1, this.2, hb⟩
 ·rintro (h | ⟨p, hp, hn, hb⟩)
  ·exact .inl h
  ·exact .inr (List.mem_flatMap.2 ⟨p, mem_delA.2 ⟨hp, hn⟩, hb⟩)
theorem mem_all_get {fs : Files} (hs : Srt ltN fs) {nm : Bs} {f : Fil} (hg : getA fs nm = some f) {b : Nat} : b ∈ allBlks fs ↔ b ∈ f.blks ∨ ∃ p ∈ fs, p.1 ≠ nm ∧ b ∈ p.2.blks := by
 constructor
 ·intro h
  obtain ⟨p, hp, hb⟩ := List.mem_flatMap.1 h
  by_cases e : p.1 = nm
  ·have := getA_of_mem ordN hs hp
   rw [e, hg] at this
   rw [Option.some.inj this]
   exact .inl hb
  ·exact .inr ⟨p, hp, e, hb⟩
 ·rintro (h | ⟨p, hp, -, hb⟩)
  ·exact mem_all (getA_mem hg) h
  ·exact mem_all hp hb
theorem marks_grown {room : Nat} {fs : Files} (hs : Srt ltN fs) {nm : Bs} {f : Fil} (hg : getA fs nm = some f) (rs : List Run) (d : Bs) : markL (marks room fs) rs = marks room (putA ltN fs nm (grown f rs d)) := by
 refine marks_ext (by rw [markL_len, marks_len]) fun b hb => ?_
 have h1 := markL_getD (marks room fs) rs b
 rw [List.getD_eq_getElem?_getD, List.getD_eq_getElem?_getD, marks_get fs hb] at h1
 have hl : (markL (marks room fs) rs)[b]? = some ((markL (marks room fs) rs)[b]'(by rw [markL_len, marks_len]; exact hb)) := List.getElem?_eq_getElem _
 rw [hl] at h1 ⊢
 simp only [Option.getD_some] at h1
 rw [h1]
 congr 1
 have hm : b ∈ allBlks (putA ltN fs nm (grown f rs d)) ↔ b ∈ allBlks fs ∨ b ∈ expand rs := by
  rw [mem_all_put hs, mem_all_get hs hg, grown_blks, List.mem_append]
  constructor
  ·rintro ((h | h) | h)
   ·exact .inl (.inl h)
   ·exact .inr h
   ·exact .inl (.inr h)
  ·rintro ((h | h) | h)
   ·exact .inl (.inl h)
   ·exact .inr h
   ·exact .inl (.inr h)
 rw [Bool.eq_iff_iff]
 simp [hm]
theorem entsL_same {fs : Files} (hs : Srt ltN fs) (A : Bs → Nat) {nm : Bs} {f g : Fil} (hg : getA fs nm = some f) : entsL (putA ltN fs nm g) A = entsL fs A := by
 refine srt_ext ordN (entsL_srt (srt_putA ordN hs nm g) _) (entsL_srt hs A) fun k => ?_
 rw [getA_ents, getA_putA ordN hs, getA_ents]
 by_cases h : nm = k
 ·subst h; rw [if_pos rfl, hg]; rfl
 ·rw [if_neg h]
theorem FilR.grow {w w' : World} {mf : Nat} {fs : Files} {A : Bs → Nat} {R : Bs → Value} {FM : List Nat} (h : FilR w mf fs A R FM) (hs : Srt ltN fs) {nm : Bs} {f g : Fil} {rv : Value} (hg : getA fs nm = some f) (u : Upd [A nm] w w')
  (hn : NodeR w' 0 (A nm) g.data.length rv g.runs) (hr : ∀ b, rv.ownBlock = some b → w.heap.size ≤ b) : FilR w' mf (putA ltN fs nm g) A (updF R nm rv) (rv.ownBlock.toList ++ FM) := by
 have hmem : ∀ p ∈ putA ltN fs nm g, (p = (nm, g)) ∨ (p ∈ fs ∧ p.1 ≠ nm) := fun p hp => put_mem hs hp
 have hf := getA_mem hg
 have e2 : updF R nm rv nm = rv := by simp [updF]
 have o2 : ∀ {k}, k ≠ nm → updF R nm rv k = R k := fun hk => by simp [updF, hk]
 have hAm : A nm ≠ mf := fun e => by
  obtain ⟨es, clock, hb, -⟩ := h.map
  have := (h.node _ hf).1
  simp only at this
  rw [e, hb] at this
  cases this
 refine ⟨by rw [entsL_same hs A hg]; exact owns_upd h.map u (by simp; exact fun e => hAm e.symm), fun p hp => ?_, by simp [h.mem], fun p hp => ?_, fun p hp b hb => ?_, fun p hp q hq hne => ?_, fun p hp q hq hne b hb => ?_, fun i hi => ?_⟩
 ·rcases hmem p hp with rfl | ⟨hp, hk⟩
  ·rw [e2]; exact hn
  ·rw [o2 hk]
   have hnd := h.node p hp
   have hne := h.apA p hp _ hf hk
   refine hnd.upd u (fun q => hne (List.mem_singleton.1 q)) (fun b hb q => ?_)
   rw [List.mem_singleton.1 q] at hb
   exact own_ne' hnd.2 (h.node _ hf).1 (by decide) hb
 ·rcases hmem p hp with rfl | ⟨hp, hk⟩
  ·simp [h.memA _ hf]
  ·simp [h.memA p hp]
 ·rcases hmem p hp with rfl | ⟨hp, hk⟩
  ·rw [e2] at hb; simp [hb]
  ·rw [o2 hk] at hb; simp [h.memR p hp b hb]
 ·rcases hmem p hp with rfl | ⟨hp, hk⟩
  ·rcases hmem q hq with rfl | ⟨hq, hk2⟩
   ·exact absurd rfl hne
   ·exact h.apA (nm, f) hf q hq hne
  ·rcases hmem q hq with rfl | ⟨hq, hk2⟩
   ·exact h.apA p hp (nm, f) hf hne
   ·exact h.apA p hp q hq hne
 ·rcases hmem p hp with rfl | ⟨hp, hk⟩
  ·rcases hmem q hq with rfl | ⟨hq, hk2⟩
   ·exact absurd rfl hne
   ·rw [e2] at hb; rw [o2 hk2]; intro e; have := h.lt _ (h.memR q hq b e); have := hr b hb; omega
  ·rw [o2 hk] at hb
   rcases hmem q hq with rfl | ⟨hq, hk2⟩
   ·rw [e2]; intro e; have := h.lt _ (h.memR p hp b hb); have := hr b e; omega
   ·rw [o2 hk2]; exact h.apR p hp q hq hne b hb
 ·simp only [List.mem_append, Option.mem_toList] at hi
  rcases hi with hi | hi
  ·exact (hn.2.block i hi).2
  ·exact Nat.lt_of_lt_of_le (h.lt i hi) u.size
theorem FsAt.used {w w' : World} {v p : Nat} {D : Dev} {room k s : Nat} {fs last : Files} {X : Fsd} (h : FsAt w v p D room k s fs last X) (u : Upd [v, X.j] w w') (hb : w'.heap[v]? = some (boxF X.j X.c X.q X.mf X.ml X.va false)) (hl : LogR w' X.j p (room + 16) k false) : FsAt w' v p D room k s fs last X := by
 have hv1 : ∀ {i x : Nat}, X.T i = x → x ≠ 1 → x ≠ 2 → i ∉ [v, X.j] := fun h1 h2 h3 hi => by
  simp only [List.mem_cons, List.not_mem_nil, or_false] at hi
  rcases hi with hi | hi
  ·exact tag_ne h1 h.sep.v h2 hi
  ·exact tag_ne h1 h.sep.j h3 hi
 exact ⟨hb, ⟨hl, h.log.dev.upd u fun i hi => hv1 (h.sep.F i hi) (by decide) (by decide), h.log.ca.upd u fun i hi => hv1 (h.sep.FC i hi) (by decide) (by decide), h.log.jF, h.log.jC, h.log.ap, h.log.nD, fun i hi => Nat.lt_of_lt_of_le (h.log.lt i hi) u.size⟩, h.fil.upd u fun i hi => hv1 (h.sep.FM i hi) (by decide) (by decide), h.las.upd u fun i hi => hv1 (h.sep.FL i hi) (by decide) (by decide),
  h.map.upd u (hv1 h.sep.q (by decide) (by decide)) (fun i hi e => hv1 (h.sep.nv _ e) (by decide) (by decide) hi) (fun i hi e => hv1 (h.sep.lv _ e) (by decide) (by decide) hi), h.dir.upd u (fun i hi e => hv1 (h.sep.va _ e) (by decide) (by decide) hi), h.up, h.inv, h.see, h.sep⟩
theorem FsAt.upd_used {w w' : World} {v : Nat} {X : Fsd} (u : Upd [v, X.j] w w') : Upd (X.fp v) w w' := upd_fp u fun i hi => by
 simp only [List.mem_cons, List.not_mem_nil, or_false] at hi
 rcases hi with rfl | rfl <;> exact mem_fp.2 (by simp)
theorem Stage.write {l : Nat → Cell} {room k s : Nat} {fs last : Files} {nm : Bs} {f : Fil} {rs : List Run} {d : Bs} {i kk : Nat} (h : Stage l room k s fs last nm f rs (f.data ++ d.take i)) (g : Grow room fs last nm f rs) {b fr : Nat} {old : Bs} (hi : i ≤ d.length) (hb : (f.blks ++ expand rs)[(f.data.length + i) / 512]? = some b)
  (hfr : fr = (f.data.length + i) % 512) (hk : kk = ((d.drop i).take (512 - fr)).length) (ho : old.length = 512) (hold : fr = 0 ∨ old = (l (36 + b)).view) :
  Stage (exec1 l (.write (36 + b) (pasteB old fr (d.drop i)))) room k s fs last nm f rs (f.data ++ d.take (i + kk)) := by
 have hk1 : kk ≤ 512 - fr := by rw [hk, List.length_take]; omega
 have hk2 : kk ≤ d.length - i := by rw [hk, List.length_take, List.length_drop]; omega
 have hk3 : kk = 512 - fr ∨ kk = d.length - i := by rw [hk, List.length_take, List.length_drop]; omega
 have hti : (d.take i).length = i := by rw [List.length_take]; omega
 have e : d.take (i + kk) = d.take i ++ (d.drop i).take kk := List.take_add
 have hlen : (f.data ++ (d.take i ++ (d.drop i).take kk)).length = f.data.length + i + kk := by
  rw [List.length_append, List.length_append, hti, List.length_take, List.length_drop]; omega
 rw [e]
 refine h.step g hb (by rw [List.length_append, hti]; omega) (by rw [hlen]; omega) (pasteB_len ho (by omega)) fun i' hi' hx => ?_
 rw [hlen] at hx
 by_cases q : i' < fr
 ·rw [pasteB_old q (by omega)]
  rcases hold with h0 | h0
  ·omega
  ·rw [h0]
   have h1 := h.part _ b i' hb hi' (by rw [List.length_append, hti]; omega)
   have h9 : (f.data ++ d.take i ++ (d.drop i).take kk)[512 * ((f.data.length + i) / 512) + i']? = (f.data ++ d.take i)[512 * ((f.data.length + i) / 512) + i']? := List.getElem?_append_left (by rw [List.length_append, hti]; omega)
   rw [show (l (36 + b)).view = dataV l b from rfl, h1, ← List.append_assoc, h9]
 ·rw [pasteB_new (by omega) (by omega) (by rw [List.length_drop]; omega) hi', ← List.append_assoc, List.getElem?_append_right (by rw [List.length_append, hti]; omega), List.length_append, hti, List.getElem?_take_of_lt (by omega)]
  congr 1
  omega
end Go.Proofs.YtgpefiacbipfpaaGreatDoor

namespace Go.Proofs.YtgpefiacbipfpaaGreatDoor
open Go.RowKit Go.Maps
def FAppPost (w : World) (v p : Nat) (D : Dev) (room k s : Nat) (fs last : Files) (X : Fsd) (nm d : Bs) (r : Ending) (w' : World) : Prop :=
 ∃ (e : Nat) (D' : Dev), r = .returned (.int .i64 (if e = 0 then codeP room fs last nm d.length else e : Nat)) ∧ Ran D e D' 40000 ∧
  (e = 0 → FsNext w v p room X D' k s (if codeP room fs last nm d.length = 0 then appF room fs last nm d else fs) last w') ∧
  (e ≠ 0 → FsDown w v p X D' w' ∧ ∀ l', CrashOf D'.blk l' → Rest l' room k last)
theorem Rd.naught {w : World} {v : Value} {l : Bs} (h : Rd w v l) (he : l = []) (w' : World) : Rd w' v l := by
 subst he
 obtain ⟨⟨a, c, rfl, h1, h2, -⟩, h4⟩ := h
 exact ⟨⟨a, c, rfl, h1, h2, fun i hi => absurd hi (by simp)⟩, h4⟩
theorem FsNext.same {w w' : World} {v p : Nat} {D : Dev} {room k s : Nat} {fs last : Files} {X : Fsd} (h : FsAt w' v p D room k s fs last X) (u : Upd (X.fp v) w w') : FsNext w v p room X D k s fs last w' := ⟨X, h, u, fun _i hi => .inl hi⟩
theorem Grow.grown_ok {room : Nat} {fs last : Files} {nm : Bs} {f : Fil} {rs : List Run} (g : Grow room fs last nm f rs) {d : Bs} (hlen : lenR rs = blocksN (f.data.length + d.length) - blocksN f.data.length) (hmost : f.data.length + d.length ≤ 32768) : FilOk room (grown f rs d) := by
 have hok := g.ok.ok _ g.mem
 have hb := grown_blks f rs d
 refine ⟨canon_foldl rs _ hok.canon g.pos, fun r hr => ?_, ?_, by show (f.data ++ d).length ≤ _; rw [List.length_append]; exact hmost⟩
 ·have hc : Canon (rs.foldl putRun f.runs) := canon_foldl rs _ hok.canon g.pos
  have hpos := canon_pos hc r hr
  have hm : r.1 + r.2 - 1 ∈ (grown f rs d).blks := mem_expand.2 ⟨r, hr, by omega, by omega⟩
  rw [hb] at hm
  have : r.1 + r.2 - 1 < room := by
   rcases List.mem_append.1 hm with q | q
   ·exact hok.blks_lt _ q
   ·exact (g.free _ q).1
  omega
 ·have h1 := hok.len
  have e1 : lenR (grown f rs d).runs = (f.blks ++ expand rs).length := by rw [← hb]; exact (expand_len _).symm
  rw [e1, List.length_append, Fil.blks, expand_len, expand_len]
  show _ = blocksN (f.data ++ d).length
  simp only at h1
  rw [h1, hlen, List.length_append]
  unfold blocksN; omega
structure AppSt (w4 : World) (v p : Nat) (D : Dev) (room k s : Nat) (fs last : Files) (X : Fsd) (nm : Bs) (f : Fil) (rs : List Run) (d : Bs) (i : Nat) (Di : Dev) (Fi : List Nat) (li : List (Bc.Nd Int SvB)) (FCi : List Nat) (Vi : Nat → Bs) (wr : World) : Prop where
 box : wr.heap[v]? = some (boxF X.j X.c X.q X.mf X.ml X.va false)
 log : LogA wr X.j p (room + 16) k X.c X.m false Di Fi li Vi FCi
 ran : Ran D 0 Di i
 stage : Stage Di.blk room k s fs last nm f rs (f.data ++ d.take i)
 see : ∀ b, b < room → Vi (16 + b) = (Di.blk (36 + b)).view
 upd : Upd (v :: X.j :: (X.F ++ X.FC)) w4 wr
 subF : ∀ a ∈ Fi, a ∈ X.F ∨ w4.heap.size ≤ a
 subC : ∀ a ∈ FCi, a ∈ X.FC ∨ w4.heap.size ≤ a
section
variable {w w4 wr : World} {v p : Nat} {D : Dev} {room k s : Nat} {fs last : Files} {X : Fsd} {nm : Bs} {f : Fil} {rs : List Run} {d : Bs} {i : Nat} {Di : Dev} {Fi : List Nat} {li : List (Bc.Nd Int SvB)} {FCi : List Nat} {Vi : Nat → Bs}
theorem AppSt.keep {w' : World} (h : AppSt w4 v p D room k s fs last X nm f rs d i Di Fi li FCi Vi wr) (u : Upd [] wr w') : AppSt w4 v p D room k s fs last X nm f rs d i Di Fi li FCi Vi w' :=
 ⟨heap_keepU u h.box, h.log.upd u (by simp) (by simp) (by simp), h.ran, h.stage, h.see, h.upd.trans (u.mono (by simp)), h.subF, h.subC⟩
theorem AppSt.keepG {w' : World} (h : AppSt w4 v p D room k s fs last X nm f rs d i Di Fi li FCi Vi wr) {G : List Nat} (u : Upd G wr w') (hG : ∀ a ∈ G, w4.heap.size ≤ a ∧ a ∉ Fi ∧ a ∉ FCi) (hv : v < w4.heap.size) (hj : X.j < w4.heap.size) : AppSt w4 v p D room k s fs last X nm f rs d i Di Fi li FCi Vi w' :=
 ⟨(u.block v (lt_of_blk h.box) (fun q => by have := (hG v q).1; omega)).trans h.box, h.log.upd u (fun q => by have := (hG _ q).1; omega) (fun a ha q => (hG a q).2.1 ha) (fun a ha q => (hG a q).2.2 ha), h.ran, h.stage, h.see, h.upd.next u (fun a ha hlt => by have := (hG a ha).1; omega), h.subF, h.subC⟩
theorem AppSt.dev (h : AppSt w4 v p D room k s fs last X nm f rs d i Di Fi li FCi Vi wr) : Di.down = false := by
 rcases h.ran.out with ⟨-, -, h, -⟩ | ⟨h, -⟩
 ·exact h
 ·cases h
theorem AppSt.off (h : AppSt w4 v p D room k s fs last X nm f rs d i Di Fi li FCi Vi wr) (H : FsAt w v p D room k s fs last X) (hsz : w.heap.size ≤ w4.heap.size) : v ∉ X.j :: (Fi ++ FCi) ∧ (∀ a ∈ X.j :: (Fi ++ FCi), a < w4.heap.size → a ∈ v :: X.j :: (X.F ++ X.FC)) := by
 obtain ⟨o1, o2, o3, -⟩ := H.off
 have hv := H.lt v (mem_fp.2 (by simp))
 constructor
 ·intro q
  simp only [List.mem_cons, List.mem_append] at q
  rcases q with q | q | q
  ·exact o1 q
  ·rcases h.subF v q with q | q
   ·exact o2 q
   ·omega
  ·rcases h.subC v q with q | q
   ·exact o3 q
   ·omega
 ·intro a q hlt
  simp only [List.mem_cons, List.mem_append] at q ⊢
  rcases q with q | q | q
  ·exact .inr (.inl q)
  ·rcases h.subF a q with q | q
   ·exact .inr (.inr (.inl q))
   ·omega
  ·rcases h.subC a q with q | q
   ·exact .inr (.inr (.inr q))
   ·omega
theorem AppSt.got (h : AppSt w4 v p D room k s fs last X nm f rs d i Di Fi li FCi Vi wr) (H : FsAt w v p D room k s fs last X) (hsz : w.heap.size ≤ w4.heap.size) {w7 : World} {D7 : Dev} {l7 : List (Bc.Nd Int SvB)} {FC7 : List Nat} (hE : Eff [] Di 0 D7)
  (hL : LogA w7 X.j p (room + 16) k X.c X.m (decide (0 = 2)) D7 Fi l7 Vi FC7) (hu : Upd (X.j :: (Fi ++ FCi)) wr w7) (hF : ∀ a ∈ FC7, a ∈ FCi ∨ wr.heap.size ≤ a) : AppSt w4 v p D room k s fs last X nm f rs d i D7 Fi l7 FC7 Vi w7 := by
 obtain ⟨a1, a2⟩ := h.off H hsz
 have hb : D7.blk = Di.blk := hE.up.2.2.2
 refine ⟨(hu.block v (lt_of_blk h.box) a1).trans h.box, hL, (h.ran.next (hE.ran (c := 0) (by simp))).more (by omega), by rw [hb]; exact h.stage, fun b hb' => by rw [hb]; exact h.see b hb', h.upd.next hu fun a ha hlt => a2 a ha hlt, h.subF, fun a ha => ?_⟩
 rcases hF a ha with q | q
 ·exact h.subC a q
 ·have := h.upd.size; exact .inr (by omega)
theorem AppSt.wrote (h : AppSt w4 v p D room k s fs last X nm f rs d i Di Fi li FCi Vi wr) (H : FsAt w v p D room k s fs last X) (hsz : w.heap.size ≤ w4.heap.size) {w8 : World} {D8 : Dev} {F8 FC8 : List Nat} {l8 : List (Bc.Nd Int SvB)} {b x kk : Nat} {xb : Bs} (hx : x = 16 + b) (hkk : 1 ≤ kk)
  (hE : Eff [.write (20 + x) xb] Di 0 D8) (hL : LogA w8 X.j p (room + 16) k X.c X.m (decide (0 = 2)) D8 F8 l8 (if 0 = 0 then setV Vi x xb else Vi) FC8) (hu : Upd (X.j :: (Fi ++ FCi)) wr w8) (hF : ∀ a ∈ F8, a ∈ Fi ∨ wr.heap.size ≤ a) (hC : ∀ a ∈ FC8, a ∈ FCi ∨ wr.heap.size ≤ a)
  (hst : Stage (exec1 Di.blk (.write (36 + b) xb)) room k s fs last nm f rs (f.data ++ d.take (i + kk))) : AppSt w4 v p D room k s fs last X nm f rs d (i + kk) D8 F8 l8 FC8 (setV Vi x xb) w8 := by
 obtain ⟨a1, a2⟩ := h.off H hsz
 have hb : D8.blk = exec1 Di.blk (.write (36 + b) xb) := by rw [hE.up.2.2.2, exec_cons, exec_nil, hx, show 20 + (16 + b) = 36 + b by omega]
 rw [if_pos rfl] at hL
 have hs := h.upd.size
 refine ⟨(hu.block v (lt_of_blk h.box) a1).trans h.box, hL, (h.ran.next (hE.ran (c := 1) (by simp))).more (by omega), by rw [hb]; exact hst, fun b' hb' => ?_, h.upd.next hu fun a ha hlt => a2 a ha hlt, fun a ha => ?_, fun a ha => ?_⟩
 ·rw [hb, hx]
  unfold setV
  by_cases e : b' = b
  ·subst e; rw [if_pos rfl, exec1_write, Cell.view_push]
  ·rw [if_neg (by omega), exec1_write_ne _ (by omega)]; exact h.see b' hb'
 ·rcases hF a ha with q | q
  ·exact h.subF a q
  ·exact .inr (by omega)
 ·rcases hC a ha with q | q
  ·exact h.subC a q
  ·exact .inr (by omega)
theorem AppSt.down (h : AppSt w4 v p D room k s fs last X nm f rs d i Di Fi li FCi Vi wr) (H : FsAt w v p D room k s fs last X) (hu04 : Upd (X.fp v) w w4) {t : List DOp} {w8 w9 : World} {D8 : Dev} {F8 FC8 : List Nat} {l8 : List (Bc.Nd Int SvB)} {V8 : Nat → Bs} {c : Nat} (hc : i + t.length ≤ c) (hE : Eff t Di 2 D8)
  (hL : LogA w8 X.j p (room + 16) k X.c X.m (decide (2 = 2)) D8 F8 l8 V8 FC8) (hu : Upd (X.j :: (Fi ++ FCi)) wr w8) (hF : ∀ a ∈ F8, a ∈ Fi ∨ wr.heap.size ≤ a) (hb9 : w9.heap[v]? = some (boxF X.j X.c X.q X.mf X.ml X.va (false || decide (2 = 2)))) (hu9 : Upd [v] w8 w9) (hC : ∀ p q, t = p ++ q → Core (exec p Di.blk) room k s last) :
  Ran D 2 D8 c ∧ FsDown w v p X D8 w9 ∧ ∀ l', CrashOf D8.blk l' → Rest l' room k last := by
 have hsz := hu04.size
 obtain ⟨a1, a2⟩ := h.off H hsz
 obtain ⟨o1, o2, o3, o4, o5, o6, o7, o8, -⟩ := H.off
 have hs := h.upd.size
 have hF8 : ∀ a ∈ F8, a ∈ X.F ∨ w4.heap.size ≤ a := fun a ha => by
  rcases hF a ha with q | q
  ·exact h.subF a q
  ·exact .inr (by omega)
 have hvl := H.lt v (mem_fp.2 (by simp))
 have hjl := H.lt X.j (mem_fp.2 (by simp))
 have hvF : v ∉ F8 := fun q => by
  rcases hF8 v q with q | q
  ·exact o2 q
  ·omega
 have hjF : X.j ∉ F8 := fun q => by
  rcases hF8 X.j q with q | q
  ·exact o7 q
  ·omega
 have hu49 : Upd (v :: X.j :: (X.F ++ X.FC)) w4 w9 := (h.upd.next hu fun a ha hlt => a2 a ha hlt).trans (hu9.mono (by simp))
 have hfew := H.inv.few
 refine ⟨(h.ran.next (hE.ran (Nat.le_refl _))).more hc, ⟨v :: X.j :: F8, ⟨⟨X.j, X.c, X.q, X.mf, X.ml, X.va, _, room + 16, _, _, hb9, hL.log.upd hu9 (by simp; exact fun e => o1 e.symm), ⟨F8, hL.dev.upd hu9 (fun a ha q => hvF (by rw [← List.mem_singleton.1 q]; exact ha)), fun a ha => by simp [ha], hvF, hjF⟩, by omega, o1, by simp, by simp⟩, (hE.dn (by omega)).2.2.1⟩, hu04.trans (hu49.mono fun a ha _ => ?_), fun a ha => ?_⟩, fun l' hcr => ?_⟩
 ·simp only [List.mem_cons, List.mem_append] at ha
  rcases ha with q | q | q | q <;> exact mem_fp.2 (by simp [q])
 ·simp only [List.mem_cons] at ha
  rcases ha with q | q | q
  ·exact .inl (mem_fp.2 (by simp [q]))
  ·exact .inl (mem_fp.2 (by simp [q]))
  ·rcases hF8 a q with q | q
   ·exact .inl (mem_fp.2 (by simp [q]))
   ·exact .inr (by omega)
 ·obtain ⟨-, -, -, p1, q1, he, hbk⟩ := hE.dn (by omega)
  rw [hbk] at hcr
  exact (hC p1 q1 he).crash hcr
end
set_option maxRecDepth 100000 in
set_option maxHeartbeats 8000000 in
theorem fappend_ok0 (w : World) {v p : Nat} {D : Dev} {room k s : Nat} {fs last : Files} {X : Fsd} (h : FsAt w v p D room k s fs last X) (hwr : D.wr ≤ 137438900000) (nm : ByteArray) (hs : nm.size ≤ maxLen) {dv : Value} {d : Bs} (hd : Rd w dv d) (hdo : d ≠ [] → ∀ g, dv.ownBlock = some g → g ∉ X.fp v ∧ g < w.heap.size) (hdl : d.length ≤ 140737488355328) :
  Calls Tryz.prog 13 #[.pointer (some ⟨v, 0, none⟩), .string nm, dv] w (FAppPost w v p D room k s fs last X nm.data.toList d) := by
 have hvl := lt_of_blk h.box
 obtain ⟨o1, o2, o3, o4, o5, o6, o7, o8, o9, o10, o11, o12, o13, o14, o15⟩ := h.off
 have hfew := h.inv.few
 have hU := ffind_ok w h.box h.log.log h.log.dev (by omega) o1 h.fil o4 o9 nm hs
 rw [h.up] at hU
 have HU := Lib.hid hU
 have H := Lib.hid h
 obtain ⟨ad, cd, hdv, -, -, -⟩ := hd.slice
 subst hdv
 have HD := Lib.hid (And.intro hd hdo)
 obtain ⟨n0, hn0⟩ : ∃ n0, n0 = d.length := ⟨_, rfl⟩
 rw [← hn0] at HD hdl ⊢
 have HN0 := Lib.hid hn0
 clear h hU hd hdo hn0
 go_enter Tryz.func13, Tryz.ntmps13
 go_wp2_with fail
 refine HU.out.mono ?_
 rintro r w1 ⟨rfl, hb1, hl1, hu1⟩
 simp only [Bool.false_or, Bool.false_eq_true, if_false] at hb1 hl1 ⊢
 have H1 := Lib.hid (And.intro (H.out.used hu1 hb1 (by simpa using hl1)) hu1)
 clear hb1 hl1 hu1 HU
 cases hg : getA fs nm.data.toList with
 | none =>
  have hc : codeP room fs last nm.data.toList d.length = 80 := by unfold codeP; rw [hg]
  have HC := Lib.hid hc
  clear hc
  go_wp2_with fail
  go_ret
  exact ⟨0, D, by rw [if_pos rfl, HC.out]; rfl, (Ran.refl H.out.up).more (by omega), fun _ => by rw [HC.out]; exact FsNext.same H1.out.1 (FsAt.upd_used H1.out.2), fun h => absurd rfl h⟩
 | some f =>
  have hfo := H.out.inv.now.ok _ (getA_mem hg)
  have hnd := H1.out.1.fil.node _ (getA_mem hg)
  have hsize := hfo.most
  simp only at hfo hnd hsize
  have HNE := Lib.hid (need_ok w1 hnd hsize n0 hdl)
  have HFO := Lib.hid hfo
  have HG := Lib.hid hg
  by_cases hlong : 32768 < f.data.length + n0
  ·have hc : codeP room fs last nm.data.toList d.length = 84 := by unfold codeP; rw [hg, ← HN0.out]; dsimp only; rw [if_pos hlong]
   have HC := Lib.hid hc
   rw [if_pos hlong, if_pos hlong] at HNE
   clear hc hnd hfo hg hlong
   go_wp2_with fail
   refine HNE.out.mono ?_
   rintro r w2 ⟨rfl, ha2⟩
   have hu2 : Upd [] w1 w2 := (Upd.refl [] w1).alike ha2
   go_wp2_with fail
   go_ret
   exact ⟨0, D, by rw [if_pos rfl, HC.out]; rfl, (Ran.refl H.out.up).more (by omega), fun _ => by rw [HC.out]; exact FsNext.same (H1.out.1.keep hu2 (by simp)) ((FsAt.upd_used H1.out.2).trans (hu2.mono (by simp))), fun h => absurd rfl h⟩
  ·rw [if_neg hlong, if_neg hlong] at HNE
   have hneed : needN f n0 = blksOf (f.data.length + n0) - blksOf f.data.length := rfl
   rw [← hneed] at HNE
   have hneed65 : needN f n0 ≤ 65 := by unfold needN blocksN; omega
   have HND := Lib.hid hneed
   generalize hnd0 : needN f n0 = need at *
   by_cases hfree : freeN room fs last < need
   ·have hc : codeP room fs last nm.data.toList d.length = 85 := by unfold codeP; rw [hg, ← HN0.out]; dsimp only; rw [if_neg hlong, hnd0, if_pos hfree]
    have HC := Lib.hid hc
    have HT := Lib.hid fun (Y : World) (u : Upd [] w1 Y) => atake_few Y (H1.out.1.keep u (by simp)).map (by rw [marks_len, marks_len]) (by rw [marks_len]; omega) need (by rw [marks_len]; exact hfree) (by omega)
    have c2 := cell_blk H1.out.1.box 2
    simp only [List.getElem?_toArray, List.getElem?_cons_zero, List.getElem?_cons_succ] at c2
    clear hc hnd hfo hg hlong hneed hfree
    go_wp2_with fail
    refine HNE.out.mono ?_
    rintro r w2 ⟨rfl, ha2⟩
    have hu2 : Upd [] w1 w2 := (Upd.refl [] w1).alike ha2
    have k2 := held1 hu2 c2
    have HU2 := Lib.hid hu2
    clear hu2 ha2
    go_wp2_with fail
    refine (HT.out w2 HU2.out).mono ?_
    rintro r w3 ⟨rfl, hu3⟩
    have hu13 := HU2.out.trans hu3
    go_wp2_with fail
    go_ret
    exact ⟨0, D, by rw [if_pos rfl, HC.out]; rfl, (Ran.refl H.out.up).more (by omega), fun _ => by rw [HC.out]; exact FsNext.same (H1.out.1.keep hu13 (by simp)) ((FsAt.upd_used H1.out.2).trans (hu13.mono (by simp))), fun h => absurd rfl h⟩
   ·have hc : codeP room fs last nm.data.toList d.length = 0 := by unfold codeP; rw [hg, ← HN0.out]; dsimp only; rw [if_neg hlong, hnd0, if_neg hfree]
    have HC := Lib.hid hc
    have hfree' : need ≤ lenR (frees (freeB (marks room fs) (marks room last)) (marks room fs).length 0) := by rw [marks_len]; exact Nat.le_of_not_lt hfree
    have HT := Lib.hid fun (Y : World) (u : Upd [] w1 Y) => atake_ok Y (H1.out.1.keep u (by simp)).map (by rw [marks_len, marks_len]) (by rw [marks_len]; omega) need hfree'
    have c2 := cell_blk H1.out.1.box 2
    simp only [List.getElem?_toArray, List.getElem?_cons_zero, List.getElem?_cons_succ] at c2
    have hle : f.data.length + n0 ≤ 32768 := by omega
    clear hc hnd hfo hg hlong hneed
    go_wp2_with fail
    refine HNE.out.mono ?_
    rintro r w2 ⟨rfl, ha2⟩
    have hu2 : Upd [] w1 w2 := (Upd.refl [] w1).alike ha2
    have k2 := held1 hu2 c2
    have HU2 := Lib.hid hu2
    clear hu2 ha2
    go_wp2_with fail
    refine (HT.out w2 HU2.out).mono ?_
    rintro r w3 ⟨rv3, rfl, hr3, hm3, hu3⟩
    rw [marks_len] at hr3 hm3
    have hrs : takeR (frees (freeB (marks room fs) (marks room last)) room 0) need = takeR (freesF room fs last) need := rfl
    rw [hrs] at hr3 hm3
    have hgrow := H.out.inv.grow HG.out need
    have hadd := take_add (fs := fs) (last := last) (by omega : room ≤ 512) (by omega : need ≤ 1000)
    have hlen : lenR (takeR (freesF room fs last) need) = need := lenR_takeR _ _ (by show need ≤ freeN room fs last; omega)
    have hgF : growF room fs last f d = grown f (takeR (freesF room fs last) need) d := by unfold growF; rw [← HN0.out, hnd0]
    generalize takeR (freesF room fs last) need = rs at *
    have h2 := H1.out.1.keep HU2.out (by simp)
    have hsep := H.out.sep
    have hoff8 : ∀ {a x : Nat}, X.T a = x → x ≠ 8 → a ∉ X.nv.ownBlock.toList := fun h1 h2 q => tag_ne h1 (hsep.nv _ (by simpa using q)) h2 rfl
    have hfil3 := h2.fil.upd hu3 fun i hi => hoff8 (hsep.FM i hi) (by decide)
    have hnd3 := hfil3.node _ (getA_mem HG.out)
    simp only at hnd3
    have hpos := runs_few (canon_pos HFO.out.canon)
    have hl64 : lenR f.runs ≤ 64 := by rw [HFO.out.len]; unfold blocksN; omega
    have HZ := Lib.hid (isize_ok w3 hnd3)
    have HEX := Lib.hid (extend_ok w3 hnd3 (Nat.zero_le _) hsize (HFO.out.small (by omega)) n0 (by omega) (OwnG.rd TR hr3) hadd (by rw [hlen]; exact HND.out) (by omega))
    have H3 := Lib.hid (And.intro hm3 (And.intro hu3 (And.intro h2 (And.intro hfil3 (And.intro hgrow (And.intro hlen hgF))))))
    clear hm3 hu3 h2 hfil3 hnd3 hgrow hlen hgF hr3 hadd hrs hpos hl64 HT HNE hfree hfree'
    go_wp2_with fail
    refine HZ.out.mono ?_
    rintro r w3' ⟨rfl, rfl⟩
    go_wp2_with fail
    refine HEX.out.mono ?_
    rintro r w4 ⟨rfl, rv4, hnd4, hu4, hn4⟩
    obtain ⟨hm3, hu3, h2, hfil3, hgrow, hlen, hgF⟩ := H3.out
    have hlenD : (grown f rs d).data.length = f.data.length + n0 := by show (f.data ++ d).length = _; rw [List.length_append, HN0.out]
    have hfil4 := hfil3.grow (g := grown f rs d) H.out.inv.now.srt HG.out hu4 (by rw [hlenD]; exact hnd4) hn4
    have hgok : FilOk room (grown f rs d) := hgrow.grown_ok (by rw [hlen, HND.out, HN0.out]; rfl) (by rw [← HN0.out]; omega)
    have hA5 : X.T (X.A nm.data.toList) = 5 := hsep.FM _ (H.out.fil.memA _ (getA_mem HG.out))
    have hu14 : Upd (X.A nm.data.toList :: X.nv.ownBlock.toList) w1 w4 := ((HU2.out.mono (by simp)).trans (hu3.mono (fun k hk _ => by simp only [List.mem_cons]; exact .inr hk))).trans (hu4.mono (fun k hk _ => by simp at hk; simp [hk]))
    have hoff4 : ∀ {a x : Nat}, X.T a = x → x ≠ 5 → x ≠ 8 → a ∉ X.A nm.data.toList :: X.nv.ownBlock.toList := fun h1 h2 h3 q => by
     rcases List.mem_cons.1 q with q | q
     ·exact tag_ne h1 hA5 h2 q
     ·exact hoff8 h1 h3 q
    have hmap4 : MapR w4 X.base X.q X.nv X.lv (marks room (putA ltN fs nm.data.toList (grown f rs d))) (marks room last) := by
     rw [marks_grown H.out.inv.now.srt HG.out rs d] at hm3
     exact hm3.upd hu4 (by simp; exact fun e => tag_ne hA5 hsep.q (by decide) e.symm) (fun i hi e => tag_ne hA5 (hsep.nv _ e) (by decide) (List.mem_singleton.1 hi).symm) (fun i hi e => tag_ne hA5 (hsep.lv _ e) (by decide) (List.mem_singleton.1 hi).symm)
    have hbox4 : w4.heap[v]? = some (boxF X.j X.c X.q X.mf X.ml X.va false) := (hu14.block v (lt_of_blk H1.out.1.box) (hoff4 hsep.v (by decide) (by decide))).trans H1.out.1.box
    have hlog4 := H1.out.1.log.upd hu14 (hoff4 hsep.j (by decide) (by decide)) (fun i hi => hoff4 (hsep.F i hi) (by decide) (by decide)) (fun i hi => hoff4 (hsep.FC i hi) (by decide) (by decide))
    have hlas4 := H1.out.1.las.upd hu14 (fun i hi => hoff4 (hsep.FL i hi) (by decide) (by decide))
    have hdir4 := H1.out.1.dir.upd hu14 (fun i hi e => hoff4 (hsep.va i e) (by decide) (by decide) hi)
    have hu04 : Upd (X.fp v) w w4 := (FsAt.upd_used H1.out.2).trans (hu14.mono fun k hk _ => by
     rcases List.mem_cons.1 hk with q | q
     ·rw [q]; exact mem_fp.2 (by simp [H.out.fil.memA _ (getA_mem HG.out)])
     ·exact mem_fp.2 (by simp at q; simp [q]))
    have hrd4 : Rd w4 (.slice ad n0 cd) d := by
     by_cases hde : d = []
     ·exact HD.out.1.naught hde w4
     ·exact HD.out.1.upd hu04 fun g hg => (HD.out.2 hde g hg).1
    have hst0 : AppSt w4 v p D room k s fs last X nm.data.toList f rs d 0 D X.F X.l X.FC X.V w4 := ⟨hbox4, hlog4, Ran.refl H.out.up, by simpa using Stage.start H.out.inv hgrow, H.out.see, Upd.refl _ _, fun a ha => .inl ha, fun a ha => .inl ha⟩
    have H4 := Lib.hid (And.intro hfil4 (And.intro hgok (And.intro hmap4 (And.intro hlas4 (And.intro hdir4 (And.intro hu04 (And.intro hgrow (And.intro hlen (And.intro hgF (And.intro hn4 hst0))))))))))
    have HRD4 := Lib.hid hrd4
    have hsz4 := hu04.size
    have hsz3 : w.heap.size ≤ w3'.heap.size := by have := H1.out.2.size; have := HU2.out.size; have := hu3.size; omega
    clear hfil4 hgok hmap4 hlas4 hdir4 hu04 hgrow hlen hgF hn4 hst0 hbox4 hlog4 hrd4 hoff8 hoff4 hu14 hm3 hu3 h2 hfil3 hnd4 hu4 HEX HZ hlenD c2 k2 H3 hA5
    generalize hSZ : f.data.length = size at *
    go_wp2_with fail
    go_loopg [2, 11] n0 (fun gh v2 v11 wr => ∃ (i : Nat) (Di : Dev) (Fi : List Nat) (li : List (Bc.Nd Int SvB)) (FCi : List Nat) (Vi : Nat → Bs) (a2 : Option Addr) (c2 : Nat), v2 = .slice a2 gh c2 ∧ v11 = .int .i64 (size + i : Nat) ∧ i + gh = n0 ∧
     Hid (AppSt w4 v p D room k s fs last X nm.data.toList f rs d i Di Fi li FCi Vi wr) ∧ Hid (Rd wr (.slice a2 gh c2) (d.drop i) ∧ ∀ g, (Value.slice a2 gh c2).ownBlock = some g → (Value.slice ad n0 cd).ownBlock = some g))
    case atStart => exact ⟨0, D, X.F, X.l, X.FC, X.V, ad, cd, rfl, by simp, by omega, Lib.hid H4.out.2.2.2.2.2.2.2.2.2.2, Lib.hid ⟨by simpa using HRD4.out, fun g hg => hg⟩⟩
    case round =>
     obtain ⟨i, Di, Fi, li, FCi, Vi, a2, c2, rfl, rfl, hign, HS, HR⟩ := hrel
     by_cases hr : 0 < gk
     ·have hlt : (0 : Int) < (gk : Int) := by omega
      have hgok := H4.out.2.1
      have hgl : (grown f rs d).data.length = size + n0 := by show (f.data ++ d).length = _; rw [List.length_append, HN0.out, hSZ]
      have hoff : ∀ a ∈ rv4.ownBlock.toList ++ X.FM, a ∉ v :: X.j :: (X.F ++ X.FC) := fun a ha q => by
       rcases List.mem_append.1 ha with ha | ha
       ·have h1 := H4.out.2.2.2.2.2.2.2.2.2.1 a (by simpa using ha)
        have h2 := H.out.lt a (mem_fp.2 (by simp only [List.mem_cons, List.mem_append] at q; rcases q with q | q | q | q <;> simp [q]))
        omega
       ·have h5 := hsep.FM a ha
        simp only [List.mem_cons, List.mem_append] at q
        rcases q with q | q | q | q
        ·exact tag_ne h5 hsep.v (by decide) q
        ·exact tag_ne h5 hsep.j (by decide) q
        ·exact tag_ne h5 (hsep.F a q) (by decide) rfl
        ·exact tag_ne h5 (hsep.FC a q) (by decide) rfl
      have hfilr := H4.out.1.upd HS.out.upd hoff
      have hndr := hfilr.node (nm.data.toList, grown f rs d) (getA_mem (by rw [getA_putA ordN H.out.inv.now.srt, if_pos rfl]))
      simp only at hndr
      have hndr : NodeR wr 0 (X.A nm.data.toList) (size + n0) (updF X.R nm.data.toList rv4 nm.data.toList) (grown f rs d).runs := by rw [← hgl]; exact hndr
      have hbx : (expand (grown f rs d).runs) = f.blks ++ expand rs := grown_blks f rs d
      have hbl : (f.blks ++ expand rs).length = blocksN (size + n0) := by
       have := hgok.blks_len
       rw [Fil.blks, hbx, hgl] at this; exact this
      obtain ⟨b, hb⟩ : ∃ b, (f.blks ++ expand rs)[(size + i) / 512]? = some b := ⟨_, List.getElem?_eq_getElem (by rw [hbl]; unfold blocksN; omega)⟩
      have hbr : b < room := by
       have hm : b ∈ (grown f rs d).blks := by rw [grown_blks]; exact List.mem_of_getElem? hb
       exact hgok.blks_lt b hm
      have hsm : Small (grown f rs d).runs 100000 := by
       have := hgok.small (by omega : room ≤ 512)
       exact ⟨this.one, this.sum, by have := this.len; omega⟩
      have hAT := iat_ok wr hndr (by omega) hsm (size + i) (by omega) (by rw [hbx]; exact hb)
      obtain ⟨fr, hfr⟩ : ∃ fr, fr = (size + i) % 512 := ⟨_, rfl⟩
      rw [← hfr] at hAT
      have HFr := Lib.hid hfr
      have HBb := Lib.hid hb
      have HAT := Lib.hid hAT
      have hfr5 : fr < 512 := by omega
      obtain ⟨x, hx⟩ : ∃ x : Nat, x = 16 + b := ⟨_, rfl⟩
      have Hx := Lib.hid hx
      have hx5 : x < room + 16 := by omega
      have e16 : (16 : Int) + (b : Int) = (x : Int) := by omega
      have HE16 := Lib.hid e16
      have hw16 : IntKind.i64.wrap (16 + (b : Int)) = 16 + (b : Int) := IntWalk.i64_in _ (by omega)
      have k0 := cell_blk HS.out.box 0
      have k1 := cell_blk HS.out.box 1
      simp only [List.getElem?_toArray, List.getElem?_cons_zero, List.getElem?_cons_succ] at k0 k1
      have hwri : Di.wr ≤ 137438950000 := by have := HS.out.ran.wr; omega
      have hdni : Di.down = false := by
       rcases HS.out.ran.out with ⟨-, -, h, -⟩ | ⟨h, -⟩
       ·exact h
       ·cases h
      have hVx : Vi x = (Di.blk (20 + x)).view := by rw [hx, HS.out.see b hbr, show 20 + (16 + b) = 36 + b by omega]
      have hV5 : (Vi x).length = 512 := by rw [hVx]; exact HS.out.stage.core.sized.view _
      have HVx := Lib.hid (And.intro hVx hV5)
      have HGet := Lib.hid fun (Y : World) (u : Upd [] wr Y) => get_ok Y (HS.out.log.upd u (by simp) (by simp) (by simp)) hdni (by omega) x (by omega) hVx hV5
      clear hgok hgl hoff hfilr hndr hbx hbl hb hsm hAT hfr hx e16 hVx hV5
      by_cases hfr0 : 0 < fr
      case' pos =>
       have hfr0' : (0 : Int) < (fr : Int) := by omega
       go_wp2_with fail
       refine HAT.out.mono ?_
       rintro r w5 ⟨rfl, hu5⟩
       have q0 := held1 hu5 k0
       have q1 := held1 hu5 k1
       have q0a : ∀ o, (w5.alloc o).cell? ⟨v, 0, none⟩ = some (.pointer (some ⟨X.j, 0, none⟩)) := fun o => held1 ((Upd.refl [] w5).alloc o) q0
       have q1a : ∀ o, (w5.alloc o).cell? ⟨v, 1, none⟩ = some (.pointer (some ⟨X.c, 0, none⟩)) := fun o => held1 ((Upd.refl [] w5).alloc o) q1
       have hb5 := heap_keepU hu5 HS.out.box
       have HU5 := Lib.hid hu5
       clear hu5 HAT
       go_wp2_with (first | (refine wpList_make_8 rfl _ _ rfl 512 (by omega) (l := zeroB) rfl rfl rfl rfl ?_) | fail)
       have hu6 : Upd [] wr (w5.alloc (.cells (flatG c8 zeroB).toArray 5)) := HU5.out.alloc _
       generalize (w5.alloc (.cells (flatG c8 zeroB).toArray 5)) = w6 at *
       rw [HE16.out]
       refine (HGet.out w6 hu6).mono ?_
       rintro r w7 ⟨e, D7, l7, FC7, v7, rfl, hE7, hL7, hu7, hF7, hok7, hbad7⟩
       have hEr := hE7.err
       have HS6 := Lib.hid (HS.out.keep hu6)
       rcases hEr with rfl | rfl
       case' inr =>
        obtain rfl := hbad7 (by omega)
        have hb7 := ((hu7.block v (lt_of_blk HS6.out.box) (HS6.out.off H.out hsz4).1)).trans HS6.out.box
        have HEN := Lib.hid (fended_ok w7 hb7 2)
        have H7 := Lib.hid (And.intro hE7 (And.intro hL7 (And.intro hu7 hF7)))
        clear hb7 hE7 hL7 hu7 hF7 hok7 hbad7
        go_wp2_with fail
        refine HEN.out.mono ?_
        rintro r w9 ⟨rfl, hb9, hu9⟩
        go_wp2_with fail
        go_ret
        obtain ⟨z1, z2, z3⟩ := HS6.out.down H.out H4.out.2.2.2.2.2.1 (t := []) (c := 40000) (by simp; omega) H7.out.1 H7.out.2.1 H7.out.2.2.1 (fun a ha => .inl ha) hb9 hu9 (fun p1 q1 e => by
         have : p1 = [] := (List.append_eq_nil_iff.1 e.symm).1
         subst this; exact HS.out.stage.core)
        exact ⟨2, D7, rfl, z1, fun h => absurd h (by omega), fun _ => ⟨z2, z3⟩⟩
       case' inl =>
        have hS7 := HS6.out.got H.out hsz4 hE7 hL7 hu7 hF7
        have HS7 := Lib.hid hS7
        obtain ⟨hrow, hrowC⟩ := hok7 rfl
        have hrd7 : Rd w7 (.slice a2 gk c2) (d.drop i) := (HR.out.1.keep hu6).upd hu7 fun g hg q => by
         have h1 := HD.out.2 (List.ne_nil_of_length_pos (by have := HN0.out; omega)) g (HR.out.2 g hg)
         have h2 := (HS.out.off H.out hsz4).2 g q (by omega)
         exact h1.1 (mem_fp.2 (by simp only [List.mem_cons, List.mem_append] at h2; rcases h2 with q | q | q | q <;> simp [q]))
        have hblk7 : D7.blk = Di.blk := hE7.up.2.2.2
        have HOLD : Hid ((Vi x).length = 512 ∧ (fr = 0 ∨ Vi x = (D7.blk (36 + b)).view)) := Lib.hid ⟨HVx.out.2, .inr (by rw [hblk7, HVx.out.1, Hx.out, show 20 + (16 + b) = 36 + b by omega])⟩
        generalize Vi x = old at *
        have hgr4 : wr.heap.size ≤ w6.heap.size := hu6.size
        have hrow' := hrow.base hgr4
        obtain ⟨-, g5, cc5, ty5, cur5, rfl, hcc5, hcm5, hgb5, -, -, -⟩ := hrow
        have HROW := Lib.hid (And.intro hrow' (And.intro (hrowC g5 rfl) (show wr.heap.size ≤ g5 by omega)))
        have HRD7 := Lib.hid hrd7
        have hmono5 : wr.heap.size ≤ w7.heap.size := by have := hu7.size; omega
        clear hE7 hL7 hu7 hF7 hok7 hbad7 hS7 hrowC hrow' hrd7 hblk7 HS6 HGet q0 q1 q0a q1a hb5 HU5 hu6 k0 k1 hwri hdni hfr0' hgr4 hgb5
        obtain ⟨D5, hD5⟩ : ∃ D5, D5 = D7 := ⟨_, rfl⟩
        subst hD5
        obtain ⟨l5, hl5⟩ : ∃ l5, l5 = l7 := ⟨_, rfl⟩
        subst hl5
        obtain ⟨FC5, hFC5⟩ : ∃ FC5, FC5 = FC7 := ⟨_, rfl⟩
        subst hFC5
        obtain ⟨W5, hW5⟩ : ∃ W5, W5 = w7 := ⟨_, rfl⟩
        subst hW5
        go_upto_region 19 with (fail)
      case' neg =>
       have hfr0' : ¬ (0 : Int) < (fr : Int) := by omega
       go_wp2_with fail
       refine HAT.out.mono ?_
       rintro r w5 ⟨rfl, hu5⟩
       have HU5 := Lib.hid hu5
       clear hu5 HAT k0 k1
       go_upto_region 19 with (first | (refine wpList_make_8 rfl _ _ rfl 512 (by omega) (l := zeroB) rfl rfl rfl rfl ?_) | fail)
       have hu6 : Upd [] wr (w5.alloc (.cells (flatG c8 zeroB).toArray 5)) := HU5.out.alloc _
       have hmono5 := hu6.size
       have hg5w := HU5.out.size
       have HROW' : Row8 (w5.alloc (.cells (flatG c8 zeroB).toArray 5)) wr.heap.size (.slice (some ⟨w5.heap.size, 0, none⟩) 512 512) zeroB := Ow.row8 (Ow.made (n := 512) (l := zeroB) hg5w (by omega) rfl) zeroB_len
       obtain ⟨W5, hW5⟩ : ∃ W5, W5 = w5.alloc (.cells (flatG c8 zeroB).toArray 5) := ⟨_, rfl⟩
       rw [← hW5] at hu6 hmono5 HROW' ⊢
       obtain ⟨g5, hg5⟩ : ∃ g5, g5 = w5.heap.size := ⟨_, rfl⟩
       rw [← hg5] at HROW' hg5w ⊢
       obtain ⟨cc5, hcc⟩ : ∃ cc5 : Nat, cc5 = 512 := ⟨_, rfl⟩
       have hcc5 : 512 ≤ cc5 := by omega
       rw [show Value.slice (some ⟨g5, 0, none⟩) 512 512 = Value.slice (some ⟨g5, 0, none⟩) 512 cc5 by rw [hcc]] at HROW' ⊢
       have HROW := Lib.hid (And.intro HROW' (And.intro (show g5 ∉ FCi from fun q => by have := HS.out.log.lt g5 q; omega) hg5w))
       have HS7 := Lib.hid (HS.out.keep hu6)
       have HRD7 := Lib.hid (HR.out.1.keep hu6)
       have HOLD : Hid (zeroB.length = 512 ∧ (fr = 0 ∨ zeroB = (Di.blk (36 + b)).view)) := Lib.hid ⟨zeroB_len, .inl (by omega)⟩
       obtain ⟨old, hold⟩ : ∃ old, old = zeroB := ⟨_, rfl⟩
       rw [← hold] at HROW HOLD
       obtain ⟨D5, hD5⟩ : ∃ D5, D5 = Di := ⟨_, rfl⟩
       rw [← hD5] at HS7 HOLD
       obtain ⟨l5, hl5⟩ : ∃ l5, l5 = li := ⟨_, rfl⟩
       rw [← hl5] at HS7
       obtain ⟨FC5, hFC5⟩ : ∃ FC5, FC5 = FCi := ⟨_, rfl⟩
       rw [← hFC5] at HS7 HROW
       clear hW5 hg5 hcc hold hD5 hl5 hFC5 HROW' hu6 HGet HU5 hfr0' hwri hdni hg5w
      all_goals
       have hne : d.drop i ≠ [] := fun e => by have := congrArg List.length e; rw [List.length_drop, ← HN0.out] at this; simp at this; omega
       obtain ⟨hl1, hl2, hl3, hl4⟩ := HRD7.out.cell
       obtain ⟨bd, od, rfl, -⟩ := hl4 hr
       obtain ⟨kk, hkk⟩ : ∃ kk, kk = ((d.drop i).take (512 - fr)).length := ⟨_, rfl⟩
       have hkk1 : kk ≤ gk := by rw [hkk, List.length_take, List.length_drop, ← HN0.out]; omega
       have hkk2 : 1 ≤ kk := by rw [hkk, List.length_take, List.length_drop, ← HN0.out]; omega
       have HKK := Lib.hid hkk
       have hfc1 : fr ≤ cc5 := by omega
       have hfc2 : ¬ cc5 = fr := by omega
       have hfc3 : fr ≤ 512 := by omega
       have hwr4 := HS.out.upd.size
       have hvl4 : v < w4.heap.size := by omega
       have hjl4 : X.j < w4.heap.size := by have := H.out.lt X.j (mem_fp.2 (by simp)); omega
       have hgF : g5 ∉ Fi := fun q => by have := HS.out.log.dev.lt g5 q; have := HROW.out.2.2; omega
       have hSw := fun (w8 : World) (u : Upd [g5] W5 w8) => HS7.out.keepG u (fun a ha => by rw [List.mem_singleton.1 ha]; exact ⟨by have := HROW.out.2.2; omega, hgF, HROW.out.2.1⟩) hvl4 hjl4
       have HSw := Lib.hid hSw
       clear hl1 hl2 hl3 hl4 hkk hSw
       go_wp2_with (first | (refine wpList_copy8 rfl (Operand.tmp 84) (Operand.tmp 85) rfl HROW.out.1 hfc3 HRD7.out hne HOLD.out.1 rfl rfl rfl ?_; intro w8 hrow8 hu8; rw [← HKK.out]; have HS8 := Lib.hid (HSw.out w8 hu8); have k0 := cell_blk HS8.out.box 0; have k1 := cell_blk HS8.out.box 1; simp only [List.getElem?_toArray, List.getElem?_cons_zero, List.getElem?_cons_succ] at k0 k1; have HR8 := Lib.hid (And.intro hrow8 hu8); clear hrow8 hu8) | fail)
       rw [HE16.out]
       refine (set_ok w8 HS8.out.log HS8.out.dev (by have := HS8.out.ran.wr; omega) x hx5 HR8.out.1.rd (pasteB_len HOLD.out.1 hfc3) hgF (by have := HROW.out.2.2; omega) HROW.out.2.1 (by have := HR8.out.1.lt g5 rfl; omega)).mono ?_
       rintro r w9 ⟨e, D9, F9, l9, FC9, rfl, hE9, hL9, hu9, hF9, hC9⟩
       have hEr := hE9.err
       have hst := HS8.out.stage.write (kk := kk) H4.out.2.2.2.2.2.2.1 (by rw [← HN0.out]; omega) (by rw [hSZ]; exact HBb.out) (by rw [hSZ]; exact HFr.out) HKK.out HOLD.out.1 HOLD.out.2
       rcases hEr with rfl | rfl
       case' inr =>
        have hb9 := ((hu9.block v (lt_of_blk HS8.out.box) (HS8.out.off H.out hsz4).1)).trans HS8.out.box
        have HEN := Lib.hid (fended_ok w9 hb9 2)
        have H9 := Lib.hid (And.intro hE9 (And.intro hL9 (And.intro hu9 (And.intro hF9 hst))))
        clear hb9 hE9 hL9 hu9 hF9 hC9 hst
        go_wp2_with fail
        refine HEN.out.mono ?_
        rintro r w10 ⟨rfl, hb10, hu10⟩
        go_wp2_with fail
        go_ret
        obtain ⟨hE9, hL9, hu9, hF9, hst⟩ := H9.out
        obtain ⟨z1, z2, z3⟩ := HS8.out.down H.out H4.out.2.2.2.2.2.1 (c := 40000) (by simp; omega) hE9 (by simpa using hL9) hu9 hF9 hb10 hu10 (fun p1 q1 e => by
         cases p1 with
         | nil => exact HS8.out.stage.core
         | cons o p2 =>
          rw [List.cons_append, List.cons.injEq] at e
          have : p2 = [] := (List.append_eq_nil_iff.1 e.2.symm).1
          subst this
          rw [← e.1, Hx.out, show 20 + (16 + b) = 36 + b by omega]
          exact hst.core)
        exact ⟨2, D9, rfl, z1, fun h => absurd h (by omega), fun _ => ⟨z2, z3⟩⟩
       case' inl =>
        have hS9 := HS8.out.wrote H.out hsz4 Hx.out hkk2 hE9 hL9 hu9 hF9 hC9 hst
        have hoffd : ∀ g, (Value.slice (some ⟨bd, od, none⟩) gk c2).ownBlock = some g → g ∉ [g5] ∧ g ∉ X.j :: (Fi ++ FC5) := fun g hg => by
         have h1 := HD.out.2 (List.ne_nil_of_length_pos (by have := HN0.out; omega)) g (HR.out.2 g hg)
         refine ⟨fun q => ?_, fun q => ?_⟩
         ·have := List.mem_singleton.1 q
          have := HROW.out.2.2
          omega
         ·have h2 := (HS8.out.off H.out hsz4).2 g q (by omega)
          exact h1.1 (mem_fp.2 (by simp only [List.mem_cons, List.mem_append] at h2; rcases h2 with q | q | q | q <;> simp [q]))
        have hrd9 := (HRD7.out.upd HR8.out.2 fun g hg => (hoffd g hg).1).upd hu9 fun g hg => (hoffd g hg).2
        have hdl : (d.drop i).length = gk := by rw [List.length_drop, ← HN0.out]; omega
        obtain ⟨a9, c9, -, hcut, -, hr9, hown9⟩ := hrd9.cut kk gk hkk1 (by omega)
        have hcut2 := hcut hdl.symm
        rw [List.drop_drop, List.take_of_length_le (by rw [List.length_drop, ← HN0.out]; omega)] at hr9
        have HS9 := Lib.hid hS9
        have HR9 := Lib.hid (And.intro hr9 hown9)
        clear hE9 hL9 hu9 hF9 hC9 hst hS9 hoffd hrd9 hdl hr9 hown9 k0 k1 hcut
        go_wp2_with fail
        go_quiet (fail)
        have hun : Upd [] w9 (w9.drewN nq) := (Upd.refl [] w9).drewN nq
        have HS10 := Lib.hid (HS9.out.keep hun)
        have HR10 := Lib.hid (And.intro (HR9.out.1.keep hun) HR9.out.2)
        generalize w9.drewN nq = w10 at *
        clear hun
        go_wp2_with fail
        go_roundg (gk - kk)
        case measure => omega
        case rel => exact ⟨i + kk, D9, F9, l9, FC9, _, a9, c9, rfl, by go_num, by omega, HS10, Lib.hid ⟨HR10.out.1, fun g hg => HR.out.2 g (HR10.out.2 g hg)⟩⟩
     ·obtain rfl : gk = 0 := by omega
      go_wp2_with fail
      go_ret
      obtain ⟨hfil4, hgok, hmap4, hlas4, hdir4, hu04, hgrow, hlen, hgF, hn4, -⟩ := H4.out
      have hS := HS.out
      have hin : i = d.length := by rw [← HN0.out]; omega
      have happ : appF room fs last nm.data.toList d = putA ltN fs nm.data.toList (grown f rs d) := by unfold appF; rw [HG.out]; dsimp only; rw [hgF]
      have hlt := H.out.lt
      have hrv : ∀ g, rv4.ownBlock = some g → w3'.heap.size ≤ g ∧ g < w4.heap.size := fun g hg => ⟨hn4 g hg, hfil4.lt g (by simp [hg])⟩
      have hoffT : ∀ {a x : Nat}, X.T a = x → x ≠ 1 → x ≠ 2 → x ≠ 3 → x ≠ 4 → a ∉ v :: X.j :: (X.F ++ X.FC) := fun h1 h2 h3 h4 h5 q => by
       simp only [List.mem_cons, List.mem_append] at q
       rcases q with q | q | q | q
       ·exact tag_ne h1 hsep.v h2 q
       ·exact tag_ne h1 hsep.j h3 q
       ·exact tag_ne h1 (hsep.F _ q) h4 rfl
       ·exact tag_ne h1 (hsep.FC _ q) h5 rfl
      have hoff : ∀ a ∈ rv4.ownBlock.toList ++ X.FM, a ∉ v :: X.j :: (X.F ++ X.FC) := fun a ha q => by
       rcases List.mem_append.1 ha with ha | ha
       ·have h1 := hrv a (by simpa using ha)
        have h2 := hlt a (mem_fp.2 (by simp only [List.mem_cons, List.mem_append] at q; rcases q with q | q | q | q <;> simp [q]))
        omega
       ·exact hoffT (hsep.FM a ha) (by decide) (by decide) (by decide) (by decide) q
      have hinv : FsInv Di.blk room k s (putA ltN fs nm.data.toList (grown f rs d)) last := by
       have hst := hS.stage
       rw [hin, List.take_length] at hst
       exact hst.done hgrow (by rw [hlen, HND.out, ← HN0.out, hSZ]; rfl) (by rw [← HN0.out, hSZ]; omega)
      have hran : Ran D 0 Di 40000 := hS.ran.more (by omega)
      have hfpU : Upd (X.fp v) w wr := hu04.trans (hS.upd.mono fun a ha _ => by
       simp only [List.mem_cons, List.mem_append] at ha
       rcases ha with q | q | q | q <;> exact mem_fp.2 (by simp [q]))
      refine ⟨0, Di, by rw [if_pos rfl, HC.out]; rfl, hran, fun _ => ?_, fun h => absurd rfl h⟩
      rw [HC.out, if_pos rfl, happ]
      refine ⟨{ X with F := Fi, FC := FCi, l := li, V := Vi, FM := rv4.ownBlock.toList ++ X.FM, R := updF X.R nm.data.toList rv4, T := fun a => if w4.heap.size ≤ a then (if a ∈ FCi then 4 else 3) else if w.heap.size ≤ a then 5 else X.T a }, ⟨hS.box, hS.log, hfil4.upd hS.upd hoff, hlas4.upd hS.upd (fun a ha => hoffT (hsep.FL a ha) (by decide) (by decide) (by decide) (by decide)),
       hmap4.upd hS.upd (hoffT hsep.q (by decide) (by decide) (by decide) (by decide)) (fun a ha e => hoffT (hsep.nv a e) (by decide) (by decide) (by decide) (by decide) ha) (fun a ha e => hoffT (hsep.lv a e) (by decide) (by decide) (by decide) (by decide) ha),
       hdir4.upd hS.upd (fun a ha e => hoffT (hsep.va a e) (by decide) (by decide) (by decide) (by decide) ha), hS.dev, hinv, hS.see, ?_⟩, hfpU, ?_⟩
      ·have old : ∀ {a x : Nat}, a ∈ X.fp v → X.T a = x → (if w4.heap.size ≤ a then (if a ∈ FCi then 4 else 3) else if w.heap.size ≤ a then 5 else X.T a) = x := fun h1 h2 => by
        have := hlt _ h1
        rw [if_neg (by omega), if_neg (by omega), h2]
       exact {
        v := old (mem_fp.2 (by simp)) hsep.v
        j := old (mem_fp.2 (by simp)) hsep.j
        F := fun a ha => by
         show (if _ then _ else _) = _
         rcases hS.subF a ha with q | q
         ·exact old (mem_fp.2 (by simp [q])) (hsep.F a q)
         ·rw [if_pos q, if_neg (fun e => hS.log.ap a e ha)]
        FC := fun a ha => by
         show (if _ then _ else _) = _
         rcases hS.subC a ha with q | q
         ·exact old (mem_fp.2 (by simp [q])) (hsep.FC a q)
         ·rw [if_pos q, if_pos ha]
        FM := fun a ha => by
         show (if _ then _ else _) = _
         rcases List.mem_append.1 ha with q | q
         ·have := hrv a (by simpa using q)
          rw [if_neg (by omega), if_pos (by omega)]
         ·exact old (mem_fp.2 (by simp [q])) (hsep.FM a q)
        FL := fun a ha => old (mem_fp.2 (by simp [ha])) (hsep.FL a ha)
        q := old (mem_fp.2 (by simp)) hsep.q
        nv := fun g hg => old (mem_fp.2 (by simp [hg])) (hsep.nv g hg)
        lv := fun g hg => old (mem_fp.2 (by simp [hg])) (hsep.lv g hg)
        va := fun g hg => old (mem_fp.2 (by simp [hg])) (hsep.va g hg) }
      ·intro a ha
       rcases mem_fp.1 ha with q | q | q | q | q | q | q | q | q | q
       ·exact .inl (mem_fp.2 (by simp [q]))
       ·exact .inl (mem_fp.2 (by simp at q; simp [q]))
       ·exact .inl (mem_fp.2 (by simp at q; simp [q]))
       ·rcases hS.subF a q with q | q
        ·exact .inl (mem_fp.2 (by simp [q]))
        ·exact .inr (by omega)
       ·rcases hS.subC a q with q | q
        ·exact .inl (mem_fp.2 (by simp [q]))
        ·exact .inr (by omega)
       ·rcases List.mem_append.1 q with q | q
        ·have := hrv a (by simpa using q); exact .inr (by omega)
        ·exact .inl (mem_fp.2 (by simp [q]))
       ·exact .inl (mem_fp.2 (by simp at q; simp [q]))
       ·exact .inl (mem_fp.2 (by simp at q; simp [q]))
       ·exact .inl (mem_fp.2 (by simp at q; simp [q]))
       ·exact .inl (mem_fp.2 (by simp at q; simp [q]))
end Go.Proofs.YtgpefiacbipfpaaGreatDoor

namespace Go.Proofs.YtgpefiacbipfpaaGreatDoor
open Go.RowKit Go.Maps Go.Sort Go.Shelf
set_option maxHeartbeats 2000000 in
theorem sortedN_ok (w : World) :
  Calls Tryz.prog 96 #[.func (.func 146) #[] #[.pointer (some ⟨w.heap.size, 0, none⟩)]] (w.alloc (.cells #[.map none] 82)) fun e w' => ∃ v, e = .returned v ∧ OwT w' (w.heap.size + 1) v [] ∧ Upd [] (w.alloc (.cells #[.map none] 82)) w' := by
 have hseq : SeqGives Fence.wide 2 Tryz.prog 146 #[.pointer (some ⟨w.heap.size, 0, none⟩)] encStr (fun ss : List (List UInt8) => ss = []) 0 (w.alloc (.cells #[.map none] 82)) :=
  AnyZ.keys_gives_nil (ρ := keysS_ren) { keysS with } Fence.wide _ trivial rfl w.heap.size _ (by simp) (by simp)
 have cS := AnyZ.sorted_in sortedS Fence.wide 5 trivial trivial trivial trivial rfl (by omega) (sortsS _) (enters_of Tryz.func145 (by kernel_rfl) rfl) 146 #[.pointer (some ⟨w.heap.size, 0, none⟩)] trivial (enters_of Tryz.func146 (by kernel_rfl) rfl) _ _ (by unfold maxLen; omega) (by omega) _ hseq
 refine (callsIn_wide.1 cS).mono ?_
 rintro e w' ⟨v, ss, rfl, rfl, hrow, hnil, hb⟩
 refine ⟨v, rfl, ?_, ⟨hb.os, hb.output, hb.size, fun k hk _ => hb.block k (by exact hk)⟩⟩
 have e4 : (w.alloc (.cells #[.map none] 82)).heap.size = w.heap.size + 1 := by simp
 have e3 : (([] : List (List UInt8)).mergeSort (fun x y => decide (x ≤ y))).map encStr = flatG cT [] := by simp [flatG]
 rw [e4, e3] at hrow
 exact hrow
set_option maxRecDepth 100000 in
set_option maxHeartbeats 4000000 in
theorem laid_nil (w : World) : Calls Tryz.prog 49 #[.map none] w fun e w' => ∃ v, e = .returned v ∧ Ow w' w.heap.size v (dirB []) ∧ Upd [] w w' := by
 have HK := Lib.hid fun (X : World) (B : Nat) (ty : TypeId) (fz : Nat × Nat) (hB : X.heap[B]? = some (.cells #[.int .u8 102, .int .u8 105, .int .u8 108, .int .u8 101, .int .u8 115] ty fz)) => putUint_ok X (show Rd X (.slice (some ⟨B, 0, none⟩) 5 5) magicF from rd_new (l := magicF) hB (by decide)) 0 (by omega) (by decide)
 have hcvt := fun W : World => Go.Lib.run_convert_bytes_const W 23 5 #[.int .u8 102, .int .u8 105, .int .u8 108, .int .u8 101, .int .u8 115] 5 5 T8.und Tryz.underlying5
 have hu1 : Upd [] w (w.alloc (.cells #[.int .u8 102, .int .u8 105, .int .u8 108, .int .u8 101, .int .u8 115] 5 (5, 6))) := (Upd.refl [] w).alloc _
 have hb1 := heap_top w (.cells #[.int .u8 102, .int .u8 105, .int .u8 108, .int .u8 101, .int .u8 115] 5 (5, 6))
 have hum := Tryz.underlying82
 go_enter Tryz.func49, Tryz.ntmps49
 go_wp2_with fail
 generalize w.alloc (.cells #[.int .u8 102, .int .u8 105, .int .u8 108, .int .u8 101, .int .u8 115] 5 (5, 6)) = w1 at *
 refine (HK.out _ _ _ _ hb1).mono ?_
 rintro e w2 ⟨v2, rfl, ho2, hu2⟩
 obtain ⟨a2, c2, m2, hm2, rfl⟩ := ho2.sliceM
 have hU2 := hu1.trans hu2
 have HKS := keysS_ok none w2
 have HSS := sortedN_ok w2
 have H2 := Lib.hid (And.intro (ho2.base hu1.size) (And.intro hU2 hm2))
 clear ho2 hu1 hu2 hU2 hb1 hcvt hm2
 go_wp2_with fail
 refine HKS.mono ?_
 rintro e w3 ⟨rfl, rfl⟩
 go_wp2_with fail
 refine HSS.mono ?_
 rintro e w4 ⟨v4, rfl, ho4, hu4⟩
 obtain ⟨a4, c4, m4, hm4, rfl⟩ := ho4.sliceM
 obtain rfl : m4 = 0 := hm4
 have hU4 : Upd [] w w4 := (H2.out.2.1.alloc _).trans hu4
 have H4 := Lib.hid (And.intro (H2.out.1.upd (((Upd.refl [] w2).alloc _).trans hu4) (by simp)) hU4)
 clear ho4 hu4 hU4 HKS HSS
 go_wp2_with fail
 go_loopg [3, 16] 0 (fun gh v3 v16 wr => gh = 0 ∧ v3 = .slice a2 m2 c2 ∧ v16 = .int .i64 0 ∧ wr = w4)
 case atStart => exact ⟨rfl, rfl, rfl, rfl⟩
 case round =>
  obtain ⟨rfl, rfl, rfl, rfl⟩ := hrel
  have hp0 : putU 0 = [0] := by unfold putU; simp
  have hm6 : (magicF ++ putU 0).length = 6 := by rw [hp0]; rfl
  have hm2 : m2 = 6 := by rw [H2.out.2.2, hm6]
  have HP0 := Lib.hid hp0
  obtain ⟨k, hk⟩ : ∃ k, k = 8192 - m2 := ⟨_, rfl⟩
  have hsub : IntKind.i64.wrap (8192 - (m2 : Int)) = (k : Int) := by rw [IntWalk.i64_in _ (by omega)]; omega
  have HM := Lib.hid (And.intro hm2 (And.intro hk hm6))
  clear hm2 hk hp0 hm6
  go_wp2_with (refine wpList_append_zeros rfl _ _ rfl (l := magicF ++ putU 0) (k := k) rfl H4.out.1 (by simp [magicF]) rfl (by have := HM.out; omega) H4.out.2.size ?_)
  intro v8 w8 ho8 hg8 _
  obtain ⟨a8, c8, m8, hm8, rfl⟩ := ho8.sliceM
  have hu8 : Upd [] w w8 := H4.out.2.grown hg8 (fun g hg => (H4.out.1.block g hg).1)
  have HO8 := Lib.hid ho8
  clear hm8 ho8 hg8
  go_wp2_with fail
  go_ret
  refine ⟨_, rfl, ?_, hu8⟩
  have h1 := HO8.out
  have e1 : magicF ++ putU 0 ++ List.replicate k 0 = dirB [] := by
   have h6 : (dirRaw []).length = 6 := by show (magicF ++ putU 0 ++ []).length = 6; rw [HP0.out]; rfl
   unfold dirB
   rw [h6, show k = 8192 - 6 by have := HM.out; omega]
   show _ = magicF ++ putU 0 ++ [] ++ _
   rw [List.append_nil]
  rw [List.append_assoc] at e1
  rw [e1] at h1
  exact h1
end Go.Proofs.YtgpefiacbipfpaaGreatDoor

namespace Go.Proofs.YtgpefiacbipfpaaGreatDoor
open Go.RowKit Go.Maps
def zeroDir : Bs := List.replicate 8192 0
theorem zeroDir_len : zeroDir.length = 8192 := List.length_replicate ..
theorem run_make_8192 (W : World) : (Instr.makeSlice 23 (.int .i64 8192) (.int .i64 8192)).run Tryz.prog W = .ok (.slice (some ⟨W.heap.size, 0, none⟩) 8192 8192) (W.alloc (.cells (flatG c8 zeroDir).toArray 5)) := by
 obtain ⟨i, h0, h1, h2, h3⟩ := info_parts (show (Tryz.prog.info? 5).map (fun i => (i.zero, i.size, i.bytes)) = some (some (.int .u8 0), 1, 1) by kernel_rfl)
 have hrun := run_make (P := Tryz.prog) W 23 5 i _ T8.und h0 h1 .i64 .i64 ((8192 : Nat) : Int) ((8192 : Nat) : Int) (by omega) (Int.le_refl _) (by rw [h3]; omega) (by omega)
 rw [h2] at hrun
 rw [Int.toNat_natCast, made8] at hrun
 exact hrun
def formatAll (n : Nat) : List DOp := fmtT n ++ (openT 0 1 [] ++ commitT 2 0 (writesF zeroDir (dirB [])))
def FFormatPost (w : World) (p : Nat) (D : Dev) (F : List Nat) (r : Ending) (w' : World) : Prop :=
 ∃ (e : Nat) (D' : Dev) (F' : List Nat), r = .returned (.int .i64 e) ∧ Eff (formatAll D.n) D e D' ∧ DevAt w' p D' F' ∧ Upd F w w' ∧ ∀ i ∈ F', i ∈ F ∨ w.heap.size ≤ i
set_option maxRecDepth 100000 in
set_option maxHeartbeats 4000000 in
theorem fformat_ok (w : World) {p : Nat} {D : Dev} {F : List Nat} (h : DevAt w p D F) (hdn : D.down = false) (hwr : D.wr ≤ 137438940000) (hsz : Sized D.blk) :
  Calls Tryz.prog 32 #[.pointer (some ⟨p, 0, none⟩)] w (FFormatPost w p D F) := by
 have hbn := h.bounds
 have HJ := Lib.hid (jformat_ok w h (by omega) hdn)
 have HFl := h.lt
 have HSZ := Lib.hid hsz
 clear h hsz
 go_enter Tryz.func32, Tryz.ntmps32
 go_wp2_with fail
 refine HJ.out.mono ?_
 rintro r w1 ⟨e, D1, F1, rfl, hE1, hD1, hU1, hF1⟩
 have hEr := hE1.err
 have hE1' : Eff (fmtT D.n) D e D1 := hE1
 have hw1 := hE1.wr
 have hfl : (formatT D.n).length ≤ 600 := by unfold formatT; simp [zeroT_len]; omega
 have H1 := Lib.hid (And.intro hE1' (And.intro hD1 (And.intro hU1 hF1)))
 clear hE1 hE1' hD1 hU1 hF1 HJ
 rcases hEr with rfl | rfl
 ·obtain ⟨hq1, hq2, hq3⟩ := fmt_quiet (n := D.n) (by omega) HSZ.out
  have hb1 := H1.out.1.up.2.2.2
  have hn1 : D1.n = D.n := H1.out.1.n
  have HO := Lib.hid (open_ok w1 H1.out.2.1 H1.out.1.up.2.1 (by omega) (k := 0) (s := 1) (ws := []) (g := fun _ => zeroB) (by omega) (.inl ⟨rfl, by rw [hb1]; exact hq1⟩) (by omega))
  have HQ := Lib.hid (And.intro hq1 (And.intro hq2 hb1))
  clear hq1 hq2 hq3 hb1
  go_wp2_with fail
  refine HO.out.mono ?_
  rintro r w2 ⟨e, D2, F2, v2, rfl, hE2, hD2, hU2, hF2, hbad2, hok2⟩
  have hEr := hE2.err
  have hw2 := hE2.wr
  have hol : (openT 0 1 []).length ≤ 10 := by decide
  have H2 := Lib.hid (And.intro hE2 (And.intro hD2 (And.intro hU2 hF2)))
  have hn2 : D2.n = D.n := by rw [hE2.n, hn1]
  clear hE2 hD2 hU2 hF2 HO
  rcases hEr with rfl | rfl
  ·obtain ⟨j, rfl, hlog, hj, hjF⟩ := hok2 rfl
   have hb2 := H2.out.1.up.2.2.2
   have hqo := (quiet_open HQ.out.1 (by omega)).2
   have hqq : Quiet D2.blk 1 0 (blkOf zeroDir) := by
    rw [hb2, HQ.out.2.2]
    exact hqo.congr fun i hi => blkOf_zeros hi
   have hd := (FilesOk.nil (D.n - 36)).dir_len (by omega)
   have ho := over_writesF (a := zeroDir) hd
   rw [hn1] at hlog
   have hHL := fun (Y : World) => laid_nil Y
   have HWR := Lib.hid fun (Y : World) (va vb : Value) (ha : Rd Y va zeroDir) (hb : Rd Y vb (dirB [])) (hG : ∀ g, vb.ownBlock = some g → g ∉ j :: F2 ∧ g < Y.heap.size) (hGl : ∀ i ∈ j :: F2, i < Y.heap.size) => fwrites_ok Y ha hb zeroDir_len hd (j :: F2) hG hGl
   have HCM := Lib.hid fun (Y : World) (u : Upd [] w2 Y) (vw : Value) (hw : WrsAt Y (j :: F2) vw (writesF zeroDir (dirB []))) => commit_ok Y (H2.out.2.1.upd u (by simp)) H2.out.1.up.2.1 (by omega) (hlog.upd u (by simp)) hjF (by omega) (by omega) hqq.slots hw ho.wok (fun x hx => by have := ho.low x hx; omega)
   have HLD := Lib.hid hHL
   have hmk := run_make_8192
   have hGl : ∀ i ∈ j :: F2, i < w2.heap.size := fun i hi => by
    rcases List.mem_cons.1 hi with q | q
    ·rw [q]; exact lt_of_blk hlog
    ·exact H2.out.2.1.lt i q
   have hjl : w1.heap.size ≤ j := hj
   have HX := Lib.hid (And.intro hGl (And.intro hqq (And.intro hd ho)))
   have HZ := Lib.hid fun (Y : World) (u : Upd [] (w2.alloc (.cells (flatG c8 zeroDir).toArray 5)).drew Y) => And.intro (Ow.rd (((Ow.made (w := w2) (base := 0) (n := 8192) (l := zeroDir) (Nat.zero_le _) (by omega) rfl).upd (Upd.refl [] _).drew (by simp)).upd u (by simp))) ((((Upd.refl [] w2).alloc _).drew).trans u)
   have HZb := Lib.hid fun (Y : World) (u : Upd [] w2.drew Y) => And.intro (Ow.rd (Ow.made (w := Y) (base := 0) (n := 8192) (l := zeroDir) (Nat.zero_le _) (by omega) rfl)) ((((Upd.refl [] w2).drew).trans u).alloc (.cells (flatG c8 zeroDir).toArray 5))
   have HS2 := Lib.hid (((Upd.refl [] w2).alloc (.cells (flatG c8 zeroDir).toArray 5)).drew).size
   clear hHL hbad2 hok2 hlog hb2 hqo hqq hd ho hGl hj
   go_wp2_with fail
   go_region_held3 (fun _ => True)
    (trivial)
    (first
     | (go_at_call 49; (with_reducible refine (HLD.out _).mono ?_); rintro e w7 ⟨v7, rfl, ho7, hu7⟩; obtain ⟨a7, c7, m7, hm7, rfl⟩ := ho7.sliceM; have HO7 := Lib.hid (ho7.base (b := w2.heap.size) (by first | exact HS2.out | exact Nat.le_refl _)); have HU7 := Lib.hid hu7; clear ho7 hu7 hm7)
     | (go_at_call 51; (first | (have HQ7 := Lib.hid (HZ.out w7 HU7.out)) | (have HQ7 := Lib.hid (HZb.out w7 HU7.out))); (with_reducible refine (HWR.out _ _ _ HQ7.out.1 ?_ ?_ ?_).mono ?_); (first | (exact Ow.rd HO7.out) | (exact (Ow.rd HO7.out).keep ((Upd.refl [] w7).alloc _))); (exact fun g hg => ⟨fun q => by have h1 := HX.out.1 g q; have h2 := (HO7.out.block g hg).1; omega, Nat.lt_of_lt_of_le (HO7.out.block g hg).2 (by first | exact Nat.le_refl _ | exact ((Upd.refl [] w7).alloc _).size)⟩); (exact fun i hi => Nat.lt_of_lt_of_le (HX.out.1 i hi) HQ7.out.2.size); rintro e w8 ⟨v8, rfl, hw8, hu8⟩; have HW8 := Lib.hid (And.intro hw8 (HQ7.out.2.trans hu8)); clear hw8 hu8)
     | (go_at_call 50; (with_reducible refine (HCM.out _ HW8.out.2 _ HW8.out.1).mono ?_); rintro r w9 ⟨e9, D9, F9, rfl, hE9, hD9, hL9, hu9, hF9⟩))
   all_goals
    go_wp2_with fail
    go_ret
    have hn2' := H2.out.1.n
    refine ⟨e9, D9, F9, rfl, H1.out.1.next (H2.out.1.next hE9), hD9, ?_, ?_⟩
    ·have hs1 := H1.out.2.2.1.size
     have hs2 := H2.out.2.2.1.size
     refine ((H1.out.2.2.1.next H2.out.2.2.1 (fun i hi hlt => ?_)).trans (HW8.out.2.mono (by simp))).next hu9 (fun i hi hlt => ?_)
     ·rcases H1.out.2.2.2 i hi with q | q
      ·exact q
      ·omega
     ·rcases List.mem_cons.1 hi with q | q
      ·omega
      ·rcases H2.out.2.2.2 i q with q | q
       ·rcases H1.out.2.2.2 i q with q | q
        ·exact q
        ·omega
       ·omega
    ·intro i hi
     have hs1 := H1.out.2.2.1.size
     have hs2 := H2.out.2.2.1.size
     have hs8 := HW8.out.2.size
     rcases hF9 i hi with q | q
     ·rcases H2.out.2.2.2 i q with q | q
      ·exact H1.out.2.2.2 i q
      ·exact .inr (by omega)
     ·exact .inr (by omega)
  ·obtain rfl := hbad2 (by omega)
   go_wp2_with fail
   go_ret
   have hs1 := H1.out.2.2.1.size
   refine ⟨2, D2, F2, rfl, H1.out.1.next (H2.out.1.stop _ (by omega)), H2.out.2.1, H1.out.2.2.1.next H2.out.2.2.1 (fun i hi hlt => ?_), fun i hi => ?_⟩
   ·rcases H1.out.2.2.2 i hi with q | q
    ·exact q
    ·omega
   ·rcases H2.out.2.2.2 i hi with q | q
    ·exact H1.out.2.2.2 i q
    ·exact .inr (by omega)
 ·go_wp2_with fail
  go_ret
  exact ⟨2, D1, F1, rfl, H1.out.1.stop _ (by omega), H1.out.2.1, H1.out.2.2.1, H1.out.2.2.2⟩
end Go.Proofs.YtgpefiacbipfpaaGreatDoor
