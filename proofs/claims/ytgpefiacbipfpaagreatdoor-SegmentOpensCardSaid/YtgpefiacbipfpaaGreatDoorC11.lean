/- A node's Copy. -/
import Derived.Deep.DeepCutAuto
import Derived.Test.YtgpefiacbipfpaaGreatDoorC10
set_option maxRecDepth 100000
set_option maxHeartbeats 2000000
namespace Go.Proofs.YtgpefiacbipfpaaGreatDoor
open Go.RowKit Go.Maps
theorem Mz (w : World) {base q size : Nat} {rv : Value} {runs : List aR} (h : iG w base q size rv runs) (hl : runs.length ≤ 1000000) :
  Calls Tryz.prog 113 #[.pointer (some ⟨q, 0, none⟩)] w fun e w' => ∃ q' rv', e = .returned (.pointer (some ⟨q', 0, none⟩)) ∧ iG w' w.heap.size q' size rv' runs ∧ w.heap.size ≤ q' ∧ aB [] w w' := by
 have c0 := aD h.1 0
 have c1 := aD h.1 1
 simp only [bA, bB, bS] at c0 c1
 have hrd := aK.rd TR h.2
 obtain ⟨a, c, m, hm, rfl⟩ := h.2.sliceM
 have HC := aA fun (W : World) (u : aB [] w W) => Fc W (hrd.keep TR u) (by omega)
 clear h hrd hm
 go_in
 go_wp2_with fail
 go_region_held3 (fun w' => w'.cell? ⟨q, 0, none⟩ = some (.int .i64 size) ∧ w'.cell? ⟨q, 1, none⟩ = some (.slice a m c))
  (first
   | (with_reducible exact iT (aB.refl [] w).drew ⟨c0, c1⟩)
   | (with_reducible exact iT hv6 ⟨c0, c1⟩)
   | (with_reducible exact iT (hv6.alloc _) ⟨c0, c1⟩))
  (first
   | (go_at_call 139; (with_reducible refine (HC.out _ ?_).mono ?_); (exact (aB.refl [] w).drew); rintro e w6 ⟨v6, rfl, ho6, hu6⟩; obtain ⟨a6, c6, m6, hm6, rfl⟩ := ho6.sliceM; have hv6 : aB [] w w6 := (aB.refl [] w).drew.trans hu6; have HO6 := aA ho6; clear hm6))
 go_wp2_with fail
 go_ret
 exact ⟨w6.heap.size, _, rfl, ⟨aX _ _, HO6.out.upd ((aB.refl [] w6).alloc _) (by simp)⟩, hv6.size, hv6.alloc _⟩
abbrev vR (nv lv : Value) : Obj := .cells #[nv, lv] 151 (0, 0)
abbrev eV (w : World) (base : Nat) (v : Value) (l : List Bool) : Prop := aK cB 4 1 w base v l
structure fJ (w : World) (base q : Nat) (nv lv : Value) (now last : List Bool) : Prop where
 box : w.heap[q]? = some (vR nv lv)
 now : eV w base nv now
 last : eV w base lv last
 ne1 : ∀ g, nv.ownBlock = some g → g ≠ q
 ne2 : ∀ g, lv.ownBlock = some g → g ≠ q
 fit : base ≤ w.heap.size
 sep : ∀ g, nv.ownBlock = some g → lv.ownBlock ≠ some g
theorem MA (w : World) {base q : Nat} {nv lv : Value} {now last : List Bool} (h : fJ w base q nv lv now last) : Calls Tryz.prog 133 #[.pointer (some ⟨q, 0, none⟩)] w fun e w' => e = .returned (.int .i64 now.length) ∧ w' = w := by
 have c0 := aD h.box 0
 simp only [bA, bB] at c0
 obtain ⟨a, c, m, hm, rfl⟩ := h.now.sliceM
 rw [← hm]
 clear h hm
 go_in
 go_wp2_with fail
 go_ret
 exact ⟨rfl, rfl⟩
theorem MB {w : World} {q : Nat} {nv lv : Value} (h : w.heap[q]? = some (vR nv lv)) (v : Value) : (w.setCell ⟨q, 1, none⟩ v).heap[q]? = some (vR nv v) := by
 rw [bJ, aF rfl, h]; rfl
theorem MC {w : World} {q : Nat} {nv lv : Value} (h : w.heap[q]? = some (vR nv lv)) (v : Value) : (w.setCell ⟨q, 0, none⟩ v).heap[q]? = some (vR v lv) := by
 rw [bJ, aF rfl, h]; rfl
theorem FZ (w : World) {base q : Nat} {nv lv : Value} {now last : List Bool} (h : fJ w base q nv lv now last) (hl : now.length ≤ 1000000) :
  Calls Tryz.prog 52 #[.pointer (some ⟨q, 0, none⟩)] w fun e w' => e = .returned (.tuple #[]) ∧ ∃ lv', fJ w' base q nv lv' now now ∧ aB [q] w w' ∧ ∀ g, lv'.ownBlock = some g → w.heap.size ≤ g := by
 have c0 := aD h.box 0
 simp only [bA, bB] at c0
 have HM := aA h
 have hq := aH h.box
 have HC := aA (zL w (aK.rd TB h.now) (by omega))
 clear h
 go_in
 go_wp2_with fail
 refine HC.out.mono ?_
 rintro e w1 ⟨v1, rfl, ho, hu⟩
 obtain ⟨a1, k1, m1, hm1, rfl⟩ := ho.sliceM
 have hb1 := (hu.block q hq (by simp)).trans HM.out.box
 have HB1 := aA hb1
 have d1 := aD hb1 1
 have f1 := aZ hb1 1
 simp only [bA, bB, bS] at d1
 have H1 := aA (aC ho hu)
 clear ho hu hb1 hm1 HC
 go_wp2_with fail
 go_end0
 have hU : aB [q] w1 (w1.setCell ⟨q, 1, none⟩ (.slice a1 m1 k1)) := (aB.refl _ _).setCell (by simp) _ _
 have hlow : ∀ g, (Value.slice a1 m1 k1).ownBlock = some g → w.heap.size ≤ g := fun g hg => (H1.out.1.block g hg).1
 refine ⟨rfl, _, ⟨MB HB1.out _, (HM.out.now.upd H1.out.2 (by simp)).upd hU (fun j hj e => ?_), ?_, HM.out.ne1, fun g hg => by have := hlow g hg; omega, bG HM.out.fit (bG H1.out.2.size hU.size), fun g h1 h2 => by have := (HM.out.now.block g h1).2; have := hlow g h2; omega⟩, (H1.out.2.mono (by simp)).trans hU, hlow⟩
 ·exact HM.out.ne1 j e (aM.1 hj)
 have ho2 := H1.out.1.upd hU (fun j hj e => by have := hlow j e; simp at hj; omega)
 exact ho2.base HM.out.fit
theorem MD (n : Nat) : aP cB (List.replicate n false) = List.replicate n (.bool false) := by
 induction n with
 | zero => rfl
 | succ n ih => rw [wJ, wJ, ← ih]; rfl
theorem ME (n : Nat) : madeCells #[.bool false] (n * 1) = (aP cB (List.replicate n false)).toArray := by
 rw [MD]
 apply Array.ext
 ·rw [size_madeCells]; simp
 intro i h1 h2
 simp [madeCells, Nat.mod_one]
theorem Ga (w : World) (n : Nat) (hn : n ≤ 1000000) : (Instr.makeSlice 149 (.int .i64 n) (.int .i64 n)).run Tryz.prog w = .ok (.slice (some ⟨w.heap.size, 0, none⟩) n n) (w.alloc (.cells (aP cB (List.replicate n false)).toArray 4)) := by
 obtain ⟨i, h0, h1, h2, h3⟩ := kD (show (Tryz.prog.info? 4).map (fun i => (i.zero, i.size, i.bytes)) = some (some (.bool false), 1, 1) by kernel_rfl)
 have hrun := run_make (P := Tryz.prog) w 149 4 i _ TB.und h0 h1 .i64 .i64 (n : Int) (n : Int) (by omega) (Ba _) (by rw [h3]; omega) (by omega)
 rw [h2, oP] at hrun
 have e : madeCells (Value.bool false).cells (n * 1) = (aP cB (List.replicate n false)).toArray := ME n
 rw [e] at hrun
 exact hrun
theorem nC (w : World) (o : Obj) (B : Nat) (h : B = w.heap.size) : (w.alloc o).heap[B]? = some o := by rw [h]; exact aX _ _
theorem MF (w : World) (X Y Z : Obj) : (((w.alloc X).alloc Y).alloc Z).heap[w.heap.size]? = some X := by
 rw [heap_alloc, aE (by simp; omega), heap_alloc, aE (by simp), heap_alloc, aF rfl]
theorem MG (w : World) (X Y Z : Obj) : (((w.alloc X).alloc Y).alloc Z).heap[w.heap.size + 1]? = some Y := by
 rw [heap_alloc, aE (by simp), heap_alloc, aF (by simp)]
theorem eV.made {W : World} {base B n : Nat} (h : W.heap[B]? = some (.cells (aP cB (List.replicate n false)).toArray 4 (0, 0))) (hb : base ≤ B) (hn : n ≤ 1000000) : eV W base (.slice (some ⟨B, 0, none⟩) n n) (List.replicate n false) := by
 have e : (List.replicate n false).length = n := pN ..
 refine ⟨by rw [gJ TB], .inr ⟨B, n, _, by rw [e], hb, h, by rw [e]; exact aQ _, by unfold maxLen; omega, by rw [lI, gJ TB, e], ?_⟩⟩
 exact dY (by rw [gJ TB]; exact aQ _)
theorem MH (w : World) (n : Nat) (hn : n ≤ 512) : Calls Tryz.prog 82 #[.int .i64 n] w fun e w' => ∃ nv lv, e = .returned (.pointer (some ⟨w.heap.size + 1 + 1, 0, none⟩)) ∧ aB [] w w' ∧ fJ w' w.heap.size (w.heap.size + 1 + 1) nv lv (List.replicate n false) (List.replicate n false) := by
 have hmk := fun W : World => Ga W n (by omega)
 go_in
 go_wp2_with fail
 go_region
 all_goals
  go_wp2_with fail
  go_ret
  refine ⟨_, _, rfl, ?_, ⟨nC _ _ _ (by simp), eV.made ?_ ?_ (by omega), eV.made ?_ ?_ (by omega), ?_, ?_, by simp; omega, ?_⟩⟩
 all_goals first
  | exact ((((aB.refl [] w).alloc _).alloc _).alloc _).drew
  | (rw [oY]; exact MF _ _ _ _)
  | (rw [oY]; exact MG _ _ _ _)
  | exact aQ _
  | exact tQ _
  | (intro g hg; simp only [Value.ownBlock, fY] at hg; omega)
  | (intro g h1 h2; simp only [Value.ownBlock, fY] at h1 h2; omega)
end Go.Proofs.YtgpefiacbipfpaaGreatDoor
namespace Go.Proofs.YtgpefiacbipfpaaGreatDoor
open Go.RowKit
theorem MI (w : World) {v : Value} {l : Bs} (h : Rd w v l) : Calls Tryz.prog 36 #[v] w fun e w' => e = .returned (.int .u32 (jU l)) ∧ w' = w := by
 obtain ⟨a, c, rfl, h1, h2, h3⟩ := h.slice
 obtain ⟨n, hn⟩ : ∃ n, n = l.length := ⟨_, rfl⟩
 have HR := aA h
 have HN := aA hn
 rw [← hn] at h1 h3 HR ⊢
 clear h hn
 go_in
 go_wp2_with fail
 go_loopg [3, 4, 5, 6] (n + 1) (fun gh s3 s4 s5 s6 wr => wr = w ∧ ∃ i x : Nat, s4 = .int .i64 i ∧ s3 = .int .u32 x ∧ i ≤ n ∧ gh = n + 1 - i ∧ x < 4294967296 ∧ Hid (x = (l.take i).foldl mF 0xffffffff))
 case atStart => exact ⟨rfl, 0, 4294967295, rfl, rfl, by omega, rfl, by omega, aA rfl⟩
 case round =>
  obtain ⟨rfl, i, x, rfl, rfl, hi, rfl, hx, HX⟩ := hrel
  by_cases hin : i < n
  ·have hin' : (i : Int) < (n : Int) := by omega
   have hil : i < l.length := by rw [← HN.out]; exact hin
   obtain ⟨-, -, -, hcell⟩ := HR.out.cell
   obtain ⟨b, off, rfl, hc⟩ := hcell (by omega)
   have hcb := hc i hil
   obtain ⟨d, hd⟩ : ∃ d : Nat, d = l[i].toNat := ⟨_, rfl⟩
   have hd8 : d < 256 := by rw [hd]; exact l[i].toNat_lt
   rw [← hd] at hcb
   obtain ⟨x0, hx0⟩ : ∃ y : Nat, y = x ^^^ d := ⟨_, rfl⟩
   have hx0l : x0 < 4294967296 := by rw [hx0]; exact wI (n := 32) hx (by omega)
   have e0 : bits .xor .u32 (x : Int) (d : Int) = (x0 : Int) := by rw [hx0]; exact (oZ hx (by omega)).2.2
   have HS : Hid ((l.take (i + 1)).foldl mF 0xffffffff = wS 8 x0) := aA (by rw [EZ l i hil, ← HX.out, KC, ← hd, ← hx0])
   clear hc hcell hd hx0
   go_wp2_with fail
   go_loopg [3, 5, 6] 9 (fun gh s3 s5 s6 wq => wq = wr ∧ ∃ k y : Nat, s5 = .int .i64 k ∧ s3 = .int .u32 y ∧ k ≤ 8 ∧ gh = 9 - k ∧ y < 4294967296 ∧ Hid (y = wS k x0))
   case atStart => exact ⟨rfl, 0, x0, rfl, rfl, by omega, rfl, hx0l, aA rfl⟩
   case round =>
    obtain ⟨rfl, k, y, rfl, rfl, hk, rfl, hy, HY⟩ := hrel
    by_cases hk8 : k < 8
    ·have hk8' : (k : Int) < 8 := by omega
     obtain ⟨z, hz⟩ : ∃ z, z = fN y := ⟨_, rfl⟩
     have hzl : z < 4294967296 := by rw [hz]; exact vD hy
     have HZ : Hid (z = wS (k + 1) x0) := aA (by rw [hz, HY.out]; rfl)
     have hbit := KD hy
     rw [← hz] at hbit
     obtain ⟨hf, hhf⟩ : ∃ hf, hf = y / 2 := ⟨_, rfl⟩
     rw [← hhf] at hbit
     have hf1 : hf < 4294967296 := by omega
     have q1 : (y : Int) / 2 = (hf : Int) := by omega
     clear hz
     by_cases ho : y % 2 = 1
     ·have q2 : (y : Int) % 2 = 1 := by omega
      rw [aF ho] at hbit
      have e1 : bits .xor .u32 (hf : Int) 2197175160 = (z : Int) := by rw [hbit]; exact (oZ hf1 (b := 2197175160) (by omega)).2.2
      clear hbit hhf ho
      go_wp2_with fail
      go_roundg (9 - (k + 1))
      case measure => omega
      case rel => exact ⟨rfl, k + 1, z, by go_num, rfl, by omega, rfl, hzl, HZ⟩
     have q2 : ¬ (y : Int) % 2 = 1 := by omega
     rw [aE ho] at hbit
     have q3 : (hf : Int) = (z : Int) := by omega
     clear hbit hhf ho
     go_wp2_with fail
     go_roundg (9 - (k + 1))
     case measure => omega
     case rel => exact ⟨rfl, k + 1, z, by go_num, by first | rfl | rw [q3], by omega, rfl, hzl, HZ⟩
    obtain rfl : k = 8 := by omega
    have HX2 : Hid (y = (l.take (i + 1)).foldl mF 0xffffffff) := aA (by rw [HS.out, HY.out])
    go_wp2_with fail
    go_roundg (n + 1 - (i + 1))
    case measure => omega
    case rel => exact ⟨rfl, i + 1, y, by go_num, rfl, by omega, rfl, hy, HX2⟩
  obtain rfl : i = n := by omega
  have hin' : ¬ (i : Int) < (i : Int) := Int.lt_irrefl _
  have e : bits .xor .u32 (x : Int) 4294967295 = ((x ^^^ 4294967295 : Nat) : Int) := (oZ (b := 4294967295) hx (by omega)).2.2
  have HE : Hid (x ^^^ 4294967295 = jU l) := aA (by
   have h := HX.out
   rw [HN.out, rL] at h
   rw [h, Nat.xor_comm]; rfl)
  go_wp2_with fail
  go_ret
  exact ⟨by rw [HE.out]; rfl, rfl⟩
end Go.Proofs.YtgpefiacbipfpaaGreatDoor
