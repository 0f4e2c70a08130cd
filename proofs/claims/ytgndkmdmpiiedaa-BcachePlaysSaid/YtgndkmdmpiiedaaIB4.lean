/- The contracts of Keys and Dirty at one pair of types: the keys, that first which was used longest ago. -/
import Derived.Test.YtgndkmdmpiiedaaIB2
namespace Go.Proofs.Ytgndkmdmpiiedaa.IB
open Go.RowKit

theorem infoK : (Try.prog.info? 3).map (fun i => (i.zero, i.size, i.bytes)) = some (some (.int .i64 0), 1, 8) := by kernel_rfl

/-- A function value that asks one thing of a node and turns nothing. -/
def Asks (F : Nat) (want : It Int Bool → Bool) : Prop := ∀ (w : World) (a : Nat) (it : It Int Bool) (p q : Option Nat), w.heap[a]? = some (nodeObj cfg it p q) →
  Calls Try.prog F #[.pointer (some ⟨a, 0, none⟩)] w fun e w' => e = .returned (.bool (want it)) ∧ w = w'

def kept (want : It Int Bool → Bool) (l : List (Nd Int Bool)) : List Value := (l.filter fun n => want n.it).map fun n => cfg.ek n.it.k

theorem kept_snoc (want : It Int Bool → Bool) (l : List (Nd Int Bool)) (n : Nd Int Bool) : kept want (l ++ [n]) = kept want l ++ (if want n.it then [cfg.ek n.it.k] else []) := by
  unfold kept
  rw [List.filter_append, List.map_append]
  by_cases h : want n.it <;> simp [h]

theorem kept_len (want : It Int Bool → Bool) (l : List (Nd Int Bool)) : (kept want l).length ≤ l.length := by
  unfold kept; rw [List.length_map]; exact List.length_filter_le _ _

def SomePost (want : It Int Bool → Bool) (l : List (Nd Int Bool)) (w : World) (e : Ending) (w' : World) : Prop :=
  ∃ v, e = .returned v ∧ w'.ownsRow w.heap.size 3 1 v (kept want l).length (kept want l) ∧ Upd [] w w'

set_option maxRecDepth 100000 in
set_option maxHeartbeats 1000000 in
theorem some_ok (F : Nat) (want : It Int Bool → Bool) (hF : Asks F want) (hcall : ∀ (v : Value) (w : World), (callFunc F #[v]).run Try.prog w = .ok (.enter F #[v]) w) (w : World) {c m : Nat} {most : Int} {l : List (Nd Int Bool)} (h : Rep cfg w c m most l) (hl : l.length ≤ 1024) :
    Calls Try.prog 37 #[.pointer (some ⟨c, 0, none⟩), .func (.func F) #[] #[]] w (SomePost want l w) := by
  obtain ⟨-, -, c2, -, fc⟩ := lay_cells cfg h.lay
  have HF := Lib.hid hF
  have H := Lib.hid h
  clear hF h
  go_enter Try.func37, Try.ntmps37
  go_wp2_with fail
  go_loopg [5, 6] l.length (fun n v x wr => ∃ a b, l = a ++ b ∧ x = pt (hd b none) ∧ n = b.length ∧ wr.ownsRow w.heap.size 3 1 v (kept want a).length (kept want a) ∧ Upd [] w wr)
  case atStart => exact ⟨[], l, rfl, rfl, rfl, World.ownsRow_nil _ _ _ _, Upd.refl _ _⟩
  case round =>
    obtain ⟨a, b, hab, rfl, rfl, hown, hU⟩ := hrel
    rcases b with _ | ⟨n, b⟩
    · simp only [hd_nil, pt_none]
      have hla : l = a := by simpa using hab
      subst hla
      clear hab
      go_wp2_with fail
      go_ret
      exact ⟨_, rfl, hown, hU⟩
    · have hR : Rep cfg wr c m most (a ++ n :: b) := by
        have := H.out.keep hU (by simp)
        rw [hab] at this; exact this
      obtain ⟨n0, -, -, -, -, n5, -⟩ := node_cells cfg hR.node
      have hn := hR.node
      have hlen : (kept want a).length + 1 ≤ 1025 := by have := kept_len want a; have : a.length ≤ l.length := by rw [hab]; simp
                                                        omega
      have HN := Lib.hid hn
      have HA := Lib.hid hab
      have HU := Lib.hid hU
      have HO := Lib.hid hown
      have HSN := Lib.hid (kept_snoc want a n)
      clear hR hn hab hU hown
      simp only [hd_cons, pt_some]
      go_wp2_with fail
      refine (HF.out wr n.a n.it _ _ HN.out).mono ?_
      rintro e w1 ⟨rfl, rfl⟩
      by_cases hw : want n.it = true
      · obtain ⟨i0, hi, hz0, hz1, hz2⟩ := info_parts infoK
        rw [hw]
        go_wp2_with (at_builtin; refine wpList_append_own _ rfl _ _ 22 rfl w.heap.size 3 i0 (.int .i64 0) 1 8 Try.underlying22 hi hz0 hz1 hz2 rfl (by decide) _ _ _ rfl (HO.out.alloc _) ⟨wr.heap.size, 0, none⟩ 1 1 [cfg.ek n.it.k] rfl rfl ?c1 ?c2 ?c3 ?c4 ?c5 ?_)
        case c2 => simp [Value.oneCell']
        case c3 => unfold maxLen; omega
        case c4 => omega
        case c5 => have := HU.out.size; simp; omega
        intro v' w1 hown' hgrow _
        have hU1 := (HU.out.alloc (.cells #[cfg.ek n.it.k] 3)).grown hgrow (ownBlock_ge (HO.out))
        have n5' : w1.cell? ⟨n.a, 5, none⟩ = some (pt (hd b none)) := by
          have hR : Rep cfg w1 c m most (a ++ n :: b) := by
            have := H.out.keep hU1 (by simp)
            rw [HA.out] at this; exact this
          exact (node_cells cfg hR.node).2.2.2.2.2.1
        have HU1 := Lib.hid hU1
        have HO1 := Lib.hid hown'
        clear hU1 hown' hgrow n0 n5 HU HO
        go_wp2_with fail
        go_roundg b.length
        case measure => simp
        case rel =>
          refine ⟨a ++ [n], b, by rw [HA.out]; simp, rfl, rfl, ?_, HU1.out⟩
          rw [HSN.out, hw]; simpa using HO1.out
      · have hw' : want n.it = false := by simpa using hw
        rw [hw']
        clear n0
        go_wp2_with fail
        go_roundg b.length
        case measure => simp
        case rel =>
          refine ⟨a ++ [n], b, by rw [HA.out]; simp, rfl, rfl, ?_, HU.out⟩
          rw [HSN.out, hw']; simpa using HO.out

theorem keys_asks : Asks 38 (fun _ => true) := by
  intro w a it p q h
  clear h
  go_enter Try.func38, Try.ntmps38
  go_wp2_with fail
  go_ret
  exact ⟨rfl, rfl⟩

theorem keys_call (v : Value) (w : World) : (callFunc 38 #[v]).run Try.prog w = .ok (.enter 38 #[v]) w := by simp [go_sem]

theorem keys_ok (w : World) {c m : Nat} {most : Int} {l : List (Nd Int Bool)} (h : Rep cfg w c m most l) (hl : l.length ≤ 1024) :
    Calls Try.prog 11 #[.pointer (some ⟨c, 0, none⟩)] w (SomePost (fun _ => true) l w) := by
  go_enter Try.func11, Try.ntmps11
  go_wp2_with fail
  refine (some_ok 38 _ keys_asks keys_call w h hl).mono ?_
  rintro e w1 ⟨v, rfl, hR, hU⟩
  have HR := Lib.hid hR
  clear hR
  go_wp2_with fail
  go_ret
  exact ⟨v, rfl, HR.out, hU⟩

end Go.Proofs.Ytgndkmdmpiiedaa.IB
