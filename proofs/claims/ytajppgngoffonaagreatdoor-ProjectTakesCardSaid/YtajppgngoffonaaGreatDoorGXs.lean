/- Expressions: trees of nodes, in memory and in mind; how many nodes there are. What expressions, conditions, commands and events come to: in mind. What is wrong with a table: in mind. Tables in memory. Sums, differences and products, as both texts reckon them. The small functions of the rules: need, field, text, within, arity, asks. -/
import Derived.WalkLawsBesides
import Derived.Test.YtajppgngoffonaaGreatDoorGSh
namespace Go.Proofs.YtajppgngoffonaaGreatDoor
open Go.RowKit

/-- Arguments of an expression: a forest. -/
inductive Ex where
  | nil : Ex
  | cons (kd n : Int) (s : ByteArray) (av : Value) (kids rest : Ex) : Ex

/-- An expression. -/
structure Xp where
  kd : Int
  n : Int
  s : ByteArray
  av : Value
  kids : Ex

def Ex.list : Ex → List Xp
  | .cons kd n s av kids rest => ⟨kd, n, s, av, kids⟩ :: rest.list
  | .nil => []

def Ex.of : List Xp → Ex
  | x :: l => .cons x.kd x.n x.s x.av x.kids (Ex.of l)
  | [] => .nil

theorem Ex.list_of (l : List Xp) : (Ex.of l).list = l := by
  induction l with
  | nil => rfl
  | cons x l ih => simp only [Ex.of, Ex.list, ih]

abbrev aggX (x : Xp) : Value := .agg #[.int .i64 x.kd, .int .i64 x.n, .string x.s, x.av]

/-- An expression's four cells. -/
def X4 (w : World) (b o : Nat) (x : Xp) : Prop :=
  w.cell? ⟨b, o, none⟩ = some (.int .i64 x.kd) ∧ w.cell? ⟨b, o + 1, none⟩ = some (.int .i64 x.n) ∧ w.cell? ⟨b, o + 2, none⟩ = some (.string x.s) ∧ w.cell? ⟨b, o + 3, none⟩ = some x.av

theorem X4.lt {w : World} {b o : Nat} {x : Xp} (h : X4 w b o x) : b < w.heap.size := World.block_lt_of_cell? _ _ h.1

theorem X4.keep {w w' : World} {b o : Nat} {x : Xp} (h : X4 w b o x) (u : Upd [] w w') : X4 w' b o x := by
  have e : ∀ p, w'.cell? ⟨b, p, none⟩ = w.cell? ⟨b, p, none⟩ := fun p => World.cell?_of_block (u.block b h.lt (by simp))
  unfold X4
  rw [e, e, e, e]
  exact h

def XsAt (w : World) : Ex → Option Addr → Nat → Prop
  | .cons kd n s av kids rest, a, i =>
    (∃ b off, a = some ⟨b, off, none⟩ ∧ X4 w b (off + i * 4) ⟨kd, n, s, av, kids⟩) ∧
    (∃ a' cap, av = .slice a' kids.list.length cap ∧ kids.list.length ≤ cap ∧ cap ≤ maxLen ∧ XsAt w kids a' 0) ∧ XsAt w rest a (i + 1)
  | .nil, _, _ => True

/-- A row of arguments. -/
def KidsAt (w : World) (av : Value) (kids : Ex) : Prop :=
  ∃ a' cap, av = .slice a' kids.list.length cap ∧ kids.list.length ≤ cap ∧ cap ≤ maxLen ∧ XsAt w kids a' 0

def XpAt (w : World) (b o : Nat) (x : Xp) : Prop := X4 w b o x ∧ KidsAt w x.av x.kids

abbrev ExAt (w : World) (v : Value) (l : List Xp) : Prop := SlAt 4 XpAt w v l

theorem xsAt_iff (w : World) : ∀ (f : Ex) (a : Option Addr) (i : Nat), XsAt w f a i ↔ ∀ j (h : j < f.list.length), ∃ b off, a = some ⟨b, off, none⟩ ∧ XpAt w b (off + (i + j) * 4) f.list[j] := by
  intro f
  induction f with
  | nil => exact fun a i => ⟨fun _ j h => absurd h (by simp [Ex.list]), fun _ => trivial⟩
  | cons kd n s av kids rest _ ih =>
    intro a i
    constructor
    · rintro ⟨⟨b, off, e, h4⟩, hk, hr⟩ j hj
      cases j with
      | zero => exact ⟨b, off, e, h4, hk⟩
      | succ j =>
        obtain ⟨b', off', e', h'⟩ := (ih a (i + 1)).1 hr j (by simpa [Ex.list] using hj)
        exact ⟨b', off', e', by rw [show i + (j + 1) = i + 1 + j by omega]; exact h'⟩
    · intro h
      obtain ⟨b, off, e, h4, hk⟩ := h 0 (by simp [Ex.list])
      refine ⟨⟨b, off, e, h4⟩, hk, (ih a (i + 1)).2 fun j hj => ?_⟩
      obtain ⟨b', off', e', h'⟩ := h (j + 1) (by simpa [Ex.list] using hj)
      exact ⟨b', off', e', by rw [show i + 1 + j = i + (j + 1) by omega]; exact h'⟩

theorem kidsAt_iff (w : World) (av : Value) (f : Ex) : KidsAt w av f ↔ ExAt w av f.list := by
  unfold KidsAt ExAt SlAt
  constructor
  · rintro ⟨a, cap, e, h1, h2, h3⟩
    refine ⟨a, cap, e, h1, h2, fun i hi => ?_⟩
    obtain ⟨b, off, e', h'⟩ := (xsAt_iff w f a 0).1 h3 i hi
    exact ⟨b, off, e', by simpa using h'⟩
  · rintro ⟨a, cap, e, h1, h2, h3⟩
    refine ⟨a, cap, e, h1, h2, (xsAt_iff w f a 0).2 fun i hi => ?_⟩
    obtain ⟨b, off, e', h'⟩ := h3 i hi
    exact ⟨b, off, e', by simpa using h'⟩

theorem Ex.ind {P : Xp → Prop} (h : ∀ x : Xp, (∀ y ∈ x.kids.list, P y) → P x) : ∀ x, P x := by
  have H : ∀ f : Ex, ∀ y ∈ f.list, P y := by
    intro f
    induction f with
    | nil => intro y hy; simp [Ex.list] at hy
    | cons kd n s av kids rest ih1 ih2 =>
      intro y hy
      simp only [Ex.list, List.mem_cons] at hy
      rcases hy with rfl | hy
      · exact h _ ih1
      · exact ih2 y hy
  exact fun x => h x (H x.kids)

theorem XpAt.keep {w w' : World} (u : Upd [] w w') : ∀ (x : Xp) {b o : Nat}, XpAt w b o x → XpAt w' b o x := by
  refine Ex.ind fun x ih b o h => ⟨h.1.keep u, ?_⟩
  obtain ⟨a, cap, e, h1, h2, h3⟩ := (kidsAt_iff w x.av x.kids).1 h.2
  refine (kidsAt_iff w' x.av x.kids).2 ⟨a, cap, e, h1, h2, fun i hi => ?_⟩
  obtain ⟨b', off, e', h'⟩ := h3 i hi
  exact ⟨b', off, e', ih _ (List.getElem_mem hi) h'⟩

theorem ExAt.keep {w w' : World} {v : Value} {l : List Xp} (h : ExAt w v l) (u : Upd [] w w') : ExAt w' v l := SlAt.keep (fun _ _ x hx => hx.keep u x) h
theorem KidsAt.keep {w w' : World} {v : Value} {f : Ex} (h : KidsAt w v f) (u : Upd [] w w') : KidsAt w' v f := (kidsAt_iff _ _ _).2 (ExAt.keep ((kidsAt_iff _ _ _).1 h) u)

/-- How many nodes, added to some; it ends behind 64. -/
def Ex.cnt : Ex → Nat → Nat
  | .cons _ _ _ _ kids rest, m => if 64 < m then m else rest.cnt (kids.cnt (m + 1))
  | .nil, m => m

def cntX (x : Xp) (m : Nat) : Nat := x.kids.cnt (m + 1)

def cntL : List Xp → Nat → Nat
  | x :: l, m => if 64 < m then m else cntL l (cntX x m)
  | [], m => m

theorem cnt_list : ∀ (f : Ex) (m : Nat), f.cnt m = cntL f.list m := by
  intro f
  induction f with
  | nil => intro m; rfl
  | cons kd n s av kids rest _ ih => intro m; simp only [Ex.cnt, Ex.list, cntL, cntX, ih]

theorem cnt_le : ∀ (f : Ex) (m : Nat), m ≤ 65 → f.cnt m ≤ 65 := by
  intro f
  induction f with
  | nil => exact fun m h => h
  | cons kd n s av kids rest ih1 ih2 =>
    intro m h
    simp only [Ex.cnt]
    split
    · exact h
    · exact ih2 _ (ih1 _ (by omega))

theorem cntX_le (x : Xp) (m : Nat) (h : m ≤ 64) : cntX x m ≤ 65 := cnt_le _ _ (by omega)
theorem cntL_stop (l : List Xp) (m : Nat) (h : 64 < m) : cntL l m = m := by
  cases l with
  | nil => rfl
  | cons x l => simp [cntL, h]
theorem cntL_drop (l : List Xp) (m j : Nat) (hj : j < l.length) (h : m ≤ 64) : cntL (l.drop j) m = cntL (l.drop (j + 1)) (cntX l[j] m) := by
  rw [List.drop_eq_getElem_cons hj, cntL, if_neg (by omega)]

/-- How many arguments a kind has. -/
def arityN (kd : Int) : Int := if 1 ≤ kd ∧ kd ≤ 5 then 0 else if 6 ≤ kd ∧ kd ≤ 9 then 2 else if kd = 10 ∨ kd = 11 then 1 else -1

def Ex.form : Ex → Bool
  | .cons kd _ _ _ kids rest => decide ((kids.list.length : Int) = arityN kd) && kids.form && rest.form
  | .nil => true

def formX (x : Xp) : Bool := decide ((x.kids.list.length : Int) = arityN x.kd) && x.kids.form

theorem form_list : ∀ f : Ex, f.form = f.list.all formX := by
  intro f
  induction f with
  | nil => rfl
  | cons kd n s av kids rest _ ih => simp only [Ex.form, Ex.list, List.all_cons, formX, ih]

theorem formX_eq (x : Xp) : formX x = (decide ((x.kids.list.length : Int) = arityN x.kd) && x.kids.list.all formX) := by
  rw [← form_list]; rfl

/-- Names of fields. -/
def asksN (kd : Int) : Bool := decide (kd = 3) || decide (kd = 4)
def Ex.names : Ex → Bool
  | .cons kd _ s _ kids rest => (!asksN kd || nameOk s) && kids.names && rest.names
  | .nil => true
def namesX (x : Xp) : Bool := (!asksN x.kd || nameOk x.s) && x.kids.names
theorem names_list : ∀ f : Ex, f.names = f.list.all namesX := by
  intro f
  induction f with
  | nil => rfl
  | cons kd n s av kids rest _ ih => simp only [Ex.names, Ex.list, List.all_cons, namesX, ih]
theorem namesX_eq (x : Xp) : namesX x = ((!asksN x.kd || nameOk x.s) && x.kids.list.all namesX) := by
  rw [← names_list]; rfl

/-- Texts that are short. -/
def longN (kd : Int) (s : ByteArray) : Bool := decide (kd = 2) && decide (200 < s.size)
def Ex.short : Ex → Bool
  | .cons kd _ s _ kids rest => !longN kd s && kids.short && rest.short
  | .nil => true
def shortX (x : Xp) : Bool := !longN x.kd x.s && x.kids.short
theorem short_list : ∀ f : Ex, f.short = f.list.all shortX := by
  intro f
  induction f with
  | nil => rfl
  | cons kd n s av kids rest _ ih => simp only [Ex.short, Ex.list, List.all_cons, shortX, ih]
theorem shortX_eq (x : Xp) : shortX x = (!longN x.kd x.s && x.kids.list.all shortX) := by
  rw [← short_list]; rfl

/-- What memory grants: integers are of their kind, texts have a length. -/
def In64 (n : Int) : Prop := -9223372036854775808 ≤ n ∧ n ≤ 9223372036854775807
def Ex.fit : Ex → Prop
  | .cons kd n s _ kids rest => (In64 kd ∧ In64 n ∧ s.size ≤ 140737488355328) ∧ kids.fit ∧ rest.fit
  | .nil => True
def fitX (x : Xp) : Prop := (In64 x.kd ∧ In64 x.n ∧ x.s.size ≤ 140737488355328) ∧ x.kids.fit
theorem fit_list : ∀ f : Ex, f.fit ↔ ∀ y ∈ f.list, fitX y := by
  intro f
  induction f with
  | nil => exact ⟨fun _ y hy => absurd hy (by simp [Ex.list]), fun _ => trivial⟩
  | cons kd n s av kids rest _ ih =>
    constructor
    · intro h y hy
      simp only [Ex.list, List.mem_cons] at hy
      rcases hy with rfl | hy
      · exact ⟨h.1, h.2.1⟩
      · exact ih.1 h.2.2 y hy
    · intro h
      have h0 := h ⟨kd, n, s, av, kids⟩ (by simp [Ex.list])
      exact ⟨h0.1, h0.2, ih.2 fun y hy => h y (by simp [Ex.list, hy])⟩
end Go.Proofs.YtajppgngoffonaaGreatDoor

namespace Go.Proofs.YtajppgngoffonaaGreatDoor
open Go.RowKit

abbrev eB : ByteArray := ByteArray.empty
def txF (s : ByteArray) : Fd := ⟨eB, true, 0, s⟩
def nuF (n : Int) : Fd := ⟨eB, false, n, eB⟩

/-- Where an expression is evaluated. -/
structure Pl where
  st : ByteArray
  state : List Fd
  given : List Fd

abbrev Rs := Except Int Fd

def fieldV (l : List Fd) (k : ByteArray) : Rs := match getF l k with
  | some f => .ok ⟨eB, f.tx, f.n, f.s⟩
  | none => .error 133

def opN (kd a b : Int) : Int := if kd = 6 then a + b else if kd = 7 then a - b else a * b

def twoV (kd : Int) (a b : Fd) : Rs :=
  if kd = 9 then
    if a.tx = true ∧ b.tx = true then (if 200 < a.s.size + b.s.size then .error 135 else .ok (txF (a.s ++ b.s))) else .error 134
  else if a.tx = true ∨ b.tx = true then .error 134
  else if withinB (opN kd a.n b.n) then .ok (nuF (opN kd a.n b.n)) else .error 135

def evalV (P : Pl) (kd n : Int) (s : ByteArray) (rs : List Rs) : Rs :=
  if kd = 1 then .ok (nuF n)
  else if kd = 2 then .ok (txF s)
  else if kd = 3 then fieldV P.state s
  else if kd = 4 then fieldV P.given s
  else if kd = 5 then .ok (txF P.st)
  else match rs with
    | [] => .error 132
    | .error e :: _ => .error e
    | .ok a :: rest =>
      if kd = 10 then (if a.tx = true then .ok (nuF a.s.size) else .error 134)
      else if kd = 11 then (if a.tx = true then .error 134 else .ok (txF (itoaB a.n)))
      else match rest with
        | [] => .error 132
        | .error e :: _ => .error e
        | .ok b :: _ => twoV kd a b

def Ex.vals (P : Pl) : Ex → List Rs
  | .cons kd n s _ kids rest => evalV P kd n s (kids.vals P) :: rest.vals P
  | .nil => []

def evalX (P : Pl) (x : Xp) : Rs := evalV P x.kd x.n x.s (x.kids.vals P)

theorem vals_list (P : Pl) : ∀ f : Ex, f.vals P = f.list.map (evalX P) := by
  intro f
  induction f with
  | nil => rfl
  | cons kd n s av kids rest _ ih => simp only [Ex.vals, Ex.list, List.map_cons, evalX, ih]

/-- Any expression's value. -/
def valueX (P : Pl) (x : Xp) : Rs := if 64 < cntX x 0 then .error 132 else if formX x then evalX P x else .error 132

/-- A condition. -/
structure Cd where
  kd : Int
  nt : Bool
  a : Xp
  b : Xp

def hasC (c : Cd) : Bool := if c.kd = 4 then asksN c.a.kd else decide (c.kd = 1 ∨ c.kd = 2 ∨ c.kd = 3)

def eqF (a b : Fd) : Bool := decide (a.nm = b.nm ∧ a.tx = b.tx ∧ a.n = b.n ∧ a.s = b.s)
def ltB (a b : ByteArray) : Bool := Op.bytesLess a.toList b.toList
def lessF (a b : Fd) : Bool := if a.tx then ltB a.s b.s else decide (a.n < b.n)
def sameF (a b : Fd) : Bool := if a.tx then decide (a.s = b.s) else decide (a.n = b.n)

def holdsX (P : Pl) (c : Cd) : Except Int Bool :=
  if hasC c then
    if c.kd = 4 then .ok ((getF (if c.a.kd = 4 then P.given else P.state) c.a.s).isSome != c.nt)
    else match valueX P c.a with
      | .error e => .error e
      | .ok a => match valueX P c.b with
        | .error e => .error e
        | .ok b =>
          if c.kd = 1 then .ok (eqF a b != c.nt)
          else if a.tx = b.tx then .ok ((lessF a b || sameF a b && decide (c.kd = 3)) != c.nt)
          else .error 134
  else .error 132

/-- Assignments, events, cases, needs, handlers, evolves, tables. -/
structure Asg where
  nm : ByteArray
  e : Xp
structure Emt where
  ty : ByteArray
  sv : Value
  sets : List Asg
structure Cse where
  wv : Value
  when : List Cd
  refuse : ByteArray
  ev : Value
  emits : List Emt
structure Ned where
  nm : ByteArray
  tx : Bool
structure Hdl where
  cmd : ByteArray
  nv : Value
  needs : List Ned
  cv : Value
  cases : List Cse
structure Evo where
  ty : ByteArray
  sv : Value
  sets : List Asg
  dv : Value
  drops : List ByteArray
structure Rls where
  hv : Value
  hs : List Hdl
  ev : Value
  es : List Evo

/-- An event that is made (its version is 0). -/
structure Evt where
  ty : ByteArray
  fs : List Fd

/-- What a command comes to. -/
inductive Dcn where
  | refused (reason : ByteArray)
  | events (l : List Evt)

def setsX (P : Pl) : List Asg → List Fd → Except Int (List Fd)
  | [], acc => .ok acc
  | a :: l, acc => match valueX P a.e with
    | .error e => .error e
    | .ok f => setsX P l (setF acc ⟨a.nm, f.tx, f.n, f.s⟩)

def emitsX (P : Pl) : List Emt → List Evt → Except Int (List Evt)
  | [], acc => .ok acc
  | m :: l, acc => match setsX P m.sets [] with
    | .error e => .error e
    | .ok fs => emitsX P l (acc ++ [⟨m.ty, fs⟩])

/-- Do all conditions hold? It ends at the first that does not, or cannot be told. -/
def allX (P : Pl) : List Cd → Except Int Bool
  | [] => .ok true
  | c :: l => match holdsX P c with
    | .error e => .error e
    | .ok true => allX P l
    | .ok false => .ok false

abbrev sNoCase : ByteArray := ⟨#[110, 111, 32, 99, 97, 115, 101]⟩

def casesX (P : Pl) : List Cse → Except Int Dcn
  | [] => .ok (.refused sNoCase)
  | c :: l => match allX P c.when with
    | .error e => .error e
    | .ok false => casesX P l
    | .ok true => if c.emits.length = 0 then .ok (.refused c.refuse) else match emitsX P c.emits [] with
      | .error e => .error e
      | .ok es => .ok (.events es)

def needB (given : List Fd) (n : Ned) : Bool := match getF given n.nm with
  | some f => f.tx == n.tx
  | none => false
def needsB (l : List Ned) (given : List Fd) : Bool := decide (l.length = given.length) && l.all (needB given)

def decideX (hs : List Hdl) (P : Pl) (cmd : ByteArray) : Except Int Dcn := match hs.find? (fun h => decide (h.cmd = cmd)) with
  | none => .error 136
  | some h => if needsB h.needs P.given then casesX P h.cases else .error 137

def foldSets (P : Pl) : List Asg → List Fd → List Fd
  | [], acc => acc
  | a :: l, acc => foldSets P l (match valueX P a.e with
    | .error _ => acc
    | .ok f => if (setF acc ⟨a.nm, f.tx, f.n, f.s⟩).length ≤ 16 then setF acc ⟨a.nm, f.tx, f.n, f.s⟩ else acc)

def foldX (es : List Evo) (P : Pl) (ty : ByteArray) : List Fd := match es.find? (fun h => decide (h.ty = ty)) with
  | none => P.state
  | some h => h.drops.foldl dropF (foldSets P h.sets P.state)
end Go.Proofs.YtajppgngoffonaaGreatDoor

namespace Go.Proofs.YtajppgngoffonaaGreatDoor
open Go.RowKit

/-- Is a name in a list twice, or may one not be? -/
def twL : List ByteArray → List ByteArray → Bool
  | _, [] => false
  | pre, s :: l => (!nameOk s || pre.any (fun x => decide (x = s))) || twL (pre ++ [s]) l
def twice (l : List ByteArray) : Bool := twL [] l

def bigX (x : Xp) : Bool := decide (64 < cntX x 0)

def condXs (c : Cd) : List Xp := if c.kd = 4 then [c.a] else [c.a, c.b]
def setXs (l : List Asg) : List Xp := l.map Asg.e
def caseXs (c : Cse) : List Xp := c.when.flatMap condXs ++ c.emits.flatMap (fun m => setXs m.sets)
def tableXs (hs : List Hdl) (es : List Evo) : List Xp := hs.flatMap (fun h => h.cases.flatMap caseXs) ++ es.flatMap (fun e => setXs e.sets)

def manyS (l : List Asg) : Bool := decide (16 < l.length)
def manyC (c : Cse) : Bool := decide (16 < c.when.length) || decide (16 < c.emits.length) || c.emits.any (fun m => manyS m.sets)
def manyH (h : Hdl) : Bool := decide (16 < h.cases.length) || decide (16 < h.needs.length) || h.cases.any manyC
def manyE (e : Evo) : Bool := manyS e.sets || decide (16 < e.drops.length)
def manyR (hs : List Hdl) (es : List Evo) : Bool := decide (32 < hs.length) || decide (32 < es.length) || hs.any manyH || es.any manyE || (tableXs hs es).any bigX

def nameM (m : Emt) : Bool := !nameOk m.ty || twice (m.sets.map Asg.nm)
def nameH (h : Hdl) : Bool := twice (h.needs.map Ned.nm) || h.cases.any (fun c => c.emits.any nameM)
def nameE (e : Evo) : Bool := (e.sets.map Asg.nm ++ e.drops).any (fun s => !nameOk s)
def nameR (hs : List Hdl) (es : List Evo) : Bool := hs.any nameH || es.any nameE || twice (hs.map Hdl.cmd) || twice (es.map Evo.ty) || (tableXs hs es).any (fun x => !namesX x)

def formC (c : Cse) : Bool := decide (200 < c.refuse.size) || (decide (c.refuse.size = 0) != decide (0 < c.emits.length)) || c.when.any (fun x => !hasC x)
def formR (hs : List Hdl) (es : List Evo) : Bool := (tableXs hs es).any (fun x => !formX x || !shortX x) || hs.any (fun h => h.cases.any formC)

def checkR (hs : List Hdl) (es : List Evo) : Int := if manyR hs es then 130 else if nameR hs es then 131 else if formR hs es then 132 else 0

/-- The flags that a look gathers. -/
structure Lk where
  m : Bool
  n : Bool
  f : Bool

def Lk.or (a b : Lk) : Lk := ⟨a.m || b.m, a.n || b.n, a.f || b.f⟩

def lkX (x : Xp) : Lk := if bigX x then ⟨true, false, false⟩ else ⟨false, !namesX x, !formX x || !shortX x⟩
def lkL {α : Type} (f : α → Lk) : List α → Lk
  | [] => ⟨false, false, false⟩
  | x :: l => (f x).or (lkL f l)
def lkS (l : List Asg) : Lk := Lk.or ⟨manyS l, false, false⟩ (lkL (fun a => lkX a.e) l)
def lkC (c : Cd) : Lk := Lk.or ⟨false, false, !hasC c⟩ (Lk.or (lkX c.a) (if c.kd = 4 then ⟨false, false, false⟩ else lkX c.b))
def lkM (m : Emt) : Lk := Lk.or ⟨false, !nameOk m.ty, false⟩ (Lk.or (lkS m.sets) ⟨false, twice (m.sets.map Asg.nm), false⟩)
def lkK (c : Cse) : Lk := Lk.or ⟨decide (16 < c.when.length) || decide (16 < c.emits.length), false, decide (200 < c.refuse.size) || (decide (c.refuse.size = 0) != decide (0 < c.emits.length))⟩ (Lk.or (lkL lkC c.when) (lkL lkM c.emits))
def lkH (h : Hdl) : Lk := Lk.or ⟨decide (16 < h.cases.length) || decide (16 < h.needs.length), twice (h.needs.map Ned.nm), false⟩ (lkL lkK h.cases)
def lkE (e : Evo) : Lk := Lk.or (Lk.or ⟨decide (16 < e.drops.length), false, false⟩ (lkS e.sets)) ⟨false, (e.sets.map Asg.nm ++ e.drops).any (fun s => !nameOk s), false⟩
def lkR (hs : List Hdl) (es : List Evo) : Lk :=
  Lk.or (Lk.or (Lk.or ⟨decide (32 < hs.length) || decide (32 < es.length), false, false⟩ (lkL lkH hs)) (lkL lkE es)) ⟨false, twice (hs.map Hdl.cmd) || twice (es.map Evo.ty), false⟩

def Lk.code (k : Lk) : Int := if k.m then 130 else if k.n then 131 else if k.f then 132 else 0

theorem lkL_m {α : Type} (f : α → Lk) (l : List α) : (lkL f l).m = l.any (fun x => (f x).m) := by
  induction l with
  | nil => rfl
  | cons x l ih => simp only [lkL, Lk.or, List.any_cons, ih]
theorem lkL_n {α : Type} (f : α → Lk) (l : List α) : (lkL f l).n = l.any (fun x => (f x).n) := by
  induction l with
  | nil => rfl
  | cons x l ih => simp only [lkL, Lk.or, List.any_cons, ih]
theorem lkL_f {α : Type} (f : α → Lk) (l : List α) : (lkL f l).f = l.any (fun x => (f x).f) := by
  induction l with
  | nil => rfl
  | cons x l ih => simp only [lkL, Lk.or, List.any_cons, ih]

theorem lkX_m (x : Xp) : (lkX x).m = bigX x := by
  unfold lkX
  split <;> simp_all

theorem any_flat {α β : Type} (l : List α) (f : α → List β) (p : β → Bool) : (l.flatMap f).any p = l.any (fun x => (f x).any p) := by
  induction l with
  | nil => rfl
  | cons x l ih => simp only [List.flatMap_cons, List.any_append, List.any_cons, ih]

theorem any_congr {α : Type} (l : List α) {p q : α → Bool} (h : ∀ x ∈ l, p x = q x) : l.any p = l.any q := by
  induction l with
  | nil => rfl
  | cons x l ih => rw [List.any_cons, List.any_cons, h x (by simp), ih (fun y hy => h y (by simp [hy]))]

theorem any_or {α : Type} (l : List α) (p q : α → Bool) : l.any (fun x => p x || q x) = (l.any p || l.any q) := by
  induction l with
  | nil => rfl
  | cons x l ih => simp only [List.any_cons, ih]; cases p x <;> cases q x <;> simp

theorem lkS_m (l : List Asg) : (lkS l).m = (manyS l || (setXs l).any bigX) := by
  unfold lkS
  simp only [Lk.or, lkL_m, lkX_m, setXs, List.any_map]
  rfl

theorem lkC_m (c : Cd) : (lkC c).m = (condXs c).any bigX := by
  unfold lkC condXs
  split <;> simp [Lk.or, lkX_m]

theorem lkM_m (m : Emt) : (lkM m).m = (manyS m.sets || (setXs m.sets).any bigX) := by
  simp [lkM, Lk.or, lkS_m]

theorem lkK_m (c : Cse) : (lkK c).m = (manyC c || (caseXs c).any bigX) := by
  unfold lkK manyC caseXs
  simp only [Lk.or, lkL_m, lkC_m, lkM_m, List.any_append, any_flat, any_or]
  cases decide (16 < c.when.length) <;> cases decide (16 < c.emits.length) <;> cases (c.emits.any fun m => manyS m.sets) <;> simp

theorem lkH_m (h : Hdl) : (lkH h).m = (manyH h || (h.cases.flatMap caseXs).any bigX) := by
  unfold lkH manyH
  simp only [Lk.or, lkL_m, lkK_m, any_flat, any_or]
  cases decide (16 < h.cases.length) <;> cases decide (16 < h.needs.length) <;> simp

theorem lkE_m (e : Evo) : (lkE e).m = (manyE e || (setXs e.sets).any bigX) := by
  unfold lkE manyE
  simp only [Lk.or, lkS_m]
  cases decide (16 < e.drops.length) <;> cases manyS e.sets <;> simp

theorem lkR_m (hs : List Hdl) (es : List Evo) : (lkR hs es).m = manyR hs es := by
  unfold lkR manyR tableXs
  simp only [Lk.or, lkL_m, lkH_m, lkE_m, any_or, List.any_append, any_flat]
  cases decide (32 < hs.length) <;> cases decide (32 < es.length) <;> cases hs.any manyH <;> cases es.any manyE <;> simp

/-- Where nothing is too much, the other flags are the document's. -/
theorem lkX_n {x : Xp} (h : bigX x = false) : (lkX x).n = !namesX x := by simp [lkX, h]
theorem lkX_f {x : Xp} (h : bigX x = false) : (lkX x).f = (!formX x || !shortX x) := by simp [lkX, h]

theorem lkS_n {l : List Asg} (h : (setXs l).any bigX = false) : (lkS l).n = (setXs l).any (fun x => !namesX x) := by
  unfold lkS setXs at *
  simp only [Lk.or, lkL_n, List.any_map, Bool.false_or] at *
  exact any_congr _ fun x hx => lkX_n (by rw [List.any_eq_false] at h; simpa using h x hx)
theorem lkS_f {l : List Asg} (h : (setXs l).any bigX = false) : (lkS l).f = (setXs l).any (fun x => !formX x || !shortX x) := by
  unfold lkS setXs at *
  simp only [Lk.or, lkL_f, List.any_map, Bool.false_or] at *
  exact any_congr _ fun x hx => lkX_f (by rw [List.any_eq_false] at h; simpa using h x hx)

theorem lkC_n {c : Cd} (h : (condXs c).any bigX = false) : (lkC c).n = (condXs c).any (fun x => !namesX x) := by
  unfold lkC condXs at *
  split <;> simp_all [Lk.or, lkX_n]
theorem lkC_f {c : Cd} (h : (condXs c).any bigX = false) : (lkC c).f = (!hasC c || (condXs c).any (fun x => !formX x || !shortX x)) := by
  unfold lkC condXs at *
  split <;> simp_all [Lk.or, lkX_f]

theorem lkM_n {m : Emt} (h : (setXs m.sets).any bigX = false) : (lkM m).n = (nameM m || (setXs m.sets).any (fun x => !namesX x)) := by
  unfold lkM nameM
  simp only [Lk.or, lkS_n h]
  cases nameOk m.ty <;> cases twice (m.sets.map Asg.nm) <;> simp
theorem lkM_f {m : Emt} (h : (setXs m.sets).any bigX = false) : (lkM m).f = (setXs m.sets).any (fun x => !formX x || !shortX x) := by
  simp [lkM, Lk.or, lkS_f h]

theorem flat_false {α β : Type} {l : List α} {f : α → List β} {p : β → Bool} (h : (l.flatMap f).any p = false) : ∀ x ∈ l, (f x).any p = false := by
  intro x hx
  rw [any_flat, List.any_eq_false] at h
  simpa using h x hx

theorem lkK_n {c : Cse} (h : (caseXs c).any bigX = false) : (lkK c).n = (c.emits.any nameM || (caseXs c).any (fun x => !namesX x)) := by
  unfold caseXs at *
  rw [List.any_append, Bool.or_eq_false_iff] at h
  unfold lkK
  simp only [Lk.or, lkL_n, List.any_append, any_flat]
  rw [any_congr c.when (fun x hx => lkC_n (flat_false h.1 x hx)), any_congr c.emits (fun x hx => lkM_n (flat_false h.2 x hx)), any_or]
  cases (c.when.any fun x => (condXs x).any fun y => !namesX y) <;> cases c.emits.any nameM <;> simp
theorem lkK_f {c : Cse} (h : (caseXs c).any bigX = false) : (lkK c).f = (formC c || (caseXs c).any (fun x => !formX x || !shortX x)) := by
  unfold caseXs at *
  rw [List.any_append, Bool.or_eq_false_iff] at h
  unfold lkK formC
  simp only [Lk.or, lkL_f, List.any_append, any_flat]
  rw [any_congr c.when (fun x hx => lkC_f (flat_false h.1 x hx)), any_congr c.emits (fun x hx => lkM_f (flat_false h.2 x hx)), any_or]
  cases decide (200 < c.refuse.size) <;> cases (decide (c.refuse.size = 0) != decide (0 < c.emits.length)) <;> cases (c.when.any fun x => !hasC x) <;> simp

theorem lkR_code (hs : List Hdl) (es : List Evo) : (lkR hs es).code = checkR hs es := by
  unfold Lk.code checkR
  rw [lkR_m]
  cases hm : manyR hs es with
  | true => rfl
  | false =>
    have hx : (tableXs hs es).any bigX = false := by
      unfold manyR at hm
      simp only [Bool.or_eq_false_iff] at hm
      exact hm.2
    unfold tableXs at hx
    rw [List.any_append, Bool.or_eq_false_iff] at hx
    have hn : (lkR hs es).n = nameR hs es := by
      unfold lkR nameR tableXs lkH lkE nameH nameE
      simp only [Lk.or, lkL_n, List.any_append, any_flat]
      have e1 : ∀ h ∈ hs, (h.cases.any fun x => (lkK x).n) = (h.cases.any (fun c => c.emits.any nameM) || h.cases.any (fun x => (caseXs x).any fun y => !namesX y)) := fun h hh => by
        rw [any_congr h.cases (fun x hx' => lkK_n (flat_false (flat_false hx.1 h hh) x hx')), any_or]
      have e2 : ∀ e ∈ es, (lkS e.sets).n = (setXs e.sets).any (fun x => !namesX x) := fun e he => lkS_n (flat_false hx.2 e he)
      rw [any_congr hs (fun h hh => by rw [e1 h hh]), any_congr es (fun e he => by rw [e2 e he])]
      simp only [any_or]
      cases (hs.any fun h => twice (h.needs.map Ned.nm)) <;> cases (hs.any fun h => h.cases.any fun c => c.emits.any nameM) <;> cases (hs.any fun h => h.cases.any fun x => (caseXs x).any fun y => !namesX y) <;> cases (es.any fun e => (setXs e.sets).any fun x => !namesX x) <;> cases twice (hs.map Hdl.cmd) <;> cases twice (es.map Evo.ty) <;> simp
    have hf : (lkR hs es).f = formR hs es := by
      unfold lkR formR tableXs lkH lkE
      simp only [Lk.or, lkL_f, List.any_append, any_flat]
      have e1 : ∀ h ∈ hs, (h.cases.any fun x => (lkK x).f) = (h.cases.any formC || h.cases.any (fun x => (caseXs x).any fun y => !formX y || !shortX y)) := fun h hh => by
        rw [any_congr h.cases (fun x hx' => lkK_f (flat_false (flat_false hx.1 h hh) x hx')), any_or]
      have e2 : ∀ e ∈ es, (lkS e.sets).f = (setXs e.sets).any (fun x => !formX x || !shortX x) := fun e he => lkS_f (flat_false hx.2 e he)
      rw [any_congr hs (fun h hh => by rw [e1 h hh]), any_congr es (fun e he => by rw [e2 e he])]
      simp only [any_or]
      cases (hs.any fun h => h.cases.any formC) <;> cases (hs.any fun h => h.cases.any fun x => (caseXs x).any fun y => !formX y) <;> cases (hs.any fun h => h.cases.any fun x => (caseXs x).any fun y => !shortX y) <;> cases (es.any fun e => (setXs e.sets).any fun x => !formX x) <;> cases (es.any fun e => (setXs e.sets).any fun x => !shortX x) <;> simp
    rw [hn, hf]
end Go.Proofs.YtajppgngoffonaaGreatDoor

namespace Go.Proofs.YtajppgngoffonaaGreatDoor
open Go.RowKit

theorem cell_keep {w w' : World} (u : Upd [] w w') {b o : Nat} {v : Value} (h : w.cell? ⟨b, o, none⟩ = some v) : w'.cell? ⟨b, o, none⟩ = some v :=
  (World.cell?_of_block (u.block b (World.block_lt_of_cell? _ _ h) (by simp))).trans h

abbrev aggC (c : Cd) : Value := .agg #[.int .i64 c.kd, .bool c.nt, .int .i64 c.a.kd, .int .i64 c.a.n, .string c.a.s, c.a.av, .int .i64 c.b.kd, .int .i64 c.b.n, .string c.b.s, c.b.av]
def CdC (w : World) (b o : Nat) (c : Cd) : Prop := w.cell? ⟨b, o, none⟩ = some (.int .i64 c.kd) ∧ w.cell? ⟨b, o + 1, none⟩ = some (.bool c.nt) ∧ X4 w b (o + 2) c.a ∧ X4 w b (o + 6) c.b
def CdAt (w : World) (b o : Nat) (c : Cd) : Prop := CdC w b o c ∧ KidsAt w c.a.av c.a.kids ∧ KidsAt w c.b.av c.b.kids
theorem CdAt.keep {w w' : World} (u : Upd [] w w') {b o : Nat} {c : Cd} (h : CdAt w b o c) : CdAt w' b o c :=
  ⟨⟨cell_keep u h.1.1, cell_keep u h.1.2.1, h.1.2.2.1.keep u, h.1.2.2.2.keep u⟩, h.2.1.keep u, h.2.2.keep u⟩

def AsgAt (w : World) (b o : Nat) (a : Asg) : Prop := w.cell? ⟨b, o, none⟩ = some (.string a.nm) ∧ XpAt w b (o + 1) a.e
theorem AsgAt.keep {w w' : World} (u : Upd [] w w') {b o : Nat} {c : Asg} (h : AsgAt w b o c) : AsgAt w' b o c :=
  ⟨cell_keep u h.1, h.2.keep u c.e⟩
abbrev AsgsAt (w : World) (v : Value) (l : List Asg) : Prop := SlAt 5 AsgAt w v l
theorem AsgsAt.keep {w w' : World} (u : Upd [] w w') {v : Value} {l : List Asg} (h : AsgsAt w v l) : AsgsAt w' v l := SlAt.keep (fun _ _ _ hx => AsgAt.keep u hx) h

abbrev aggM (m : Emt) : Value := .agg #[.string m.ty, m.sv]
def EmtC (w : World) (b o : Nat) (m : Emt) : Prop := w.cell? ⟨b, o, none⟩ = some (.string m.ty) ∧ w.cell? ⟨b, o + 1, none⟩ = some m.sv
def EmtAt (w : World) (b o : Nat) (m : Emt) : Prop := EmtC w b o m ∧ AsgsAt w m.sv m.sets
theorem EmtAt.keep {w w' : World} (u : Upd [] w w') {b o : Nat} {c : Emt} (h : EmtAt w b o c) : EmtAt w' b o c :=
  ⟨⟨cell_keep u h.1.1, cell_keep u h.1.2⟩, h.2.keep u⟩

abbrev aggK (c : Cse) : Value := .agg #[c.wv, .string c.refuse, c.ev]
def CseC (w : World) (b o : Nat) (c : Cse) : Prop := w.cell? ⟨b, o, none⟩ = some c.wv ∧ w.cell? ⟨b, o + 1, none⟩ = some (.string c.refuse) ∧ w.cell? ⟨b, o + 2, none⟩ = some c.ev
abbrev CdsAt (w : World) (v : Value) (l : List Cd) : Prop := SlAt 10 CdAt w v l
abbrev EmtsAt (w : World) (v : Value) (l : List Emt) : Prop := SlAt 2 EmtAt w v l
theorem CdsAt.keep {w w' : World} (u : Upd [] w w') {v : Value} {l : List Cd} (h : CdsAt w v l) : CdsAt w' v l := SlAt.keep (fun _ _ _ hx => CdAt.keep u hx) h
theorem EmtsAt.keep {w w' : World} (u : Upd [] w w') {v : Value} {l : List Emt} (h : EmtsAt w v l) : EmtsAt w' v l := SlAt.keep (fun _ _ _ hx => EmtAt.keep u hx) h
def CseAt (w : World) (b o : Nat) (c : Cse) : Prop := CseC w b o c ∧ CdsAt w c.wv c.when ∧ EmtsAt w c.ev c.emits
theorem CseAt.keep {w w' : World} (u : Upd [] w w') {b o : Nat} {c : Cse} (h : CseAt w b o c) : CseAt w' b o c :=
  ⟨⟨cell_keep u h.1.1, cell_keep u h.1.2.1, cell_keep u h.1.2.2⟩, h.2.1.keep u, h.2.2.keep u⟩

abbrev aggN (n : Ned) : Value := .agg #[.string n.nm, .bool n.tx]
def NedAt (w : World) (b o : Nat) (n : Ned) : Prop := w.cell? ⟨b, o, none⟩ = some (.string n.nm) ∧ w.cell? ⟨b, o + 1, none⟩ = some (.bool n.tx)
theorem NedAt.keep {w w' : World} (u : Upd [] w w') {b o : Nat} {c : Ned} (h : NedAt w b o c) : NedAt w' b o c :=
  ⟨cell_keep u h.1, cell_keep u h.2⟩

abbrev aggH (h : Hdl) : Value := .agg #[.string h.cmd, h.nv, h.cv]
def HdlC (w : World) (b o : Nat) (h : Hdl) : Prop := w.cell? ⟨b, o, none⟩ = some (.string h.cmd) ∧ w.cell? ⟨b, o + 1, none⟩ = some h.nv ∧ w.cell? ⟨b, o + 2, none⟩ = some h.cv
abbrev NedsAt (w : World) (v : Value) (l : List Ned) : Prop := SlAt 2 NedAt w v l
abbrev CsesAt (w : World) (v : Value) (l : List Cse) : Prop := SlAt 3 CseAt w v l
theorem NedsAt.keep {w w' : World} (u : Upd [] w w') {v : Value} {l : List Ned} (h : NedsAt w v l) : NedsAt w' v l := SlAt.keep (fun _ _ _ hx => NedAt.keep u hx) h
theorem CsesAt.keep {w w' : World} (u : Upd [] w w') {v : Value} {l : List Cse} (h : CsesAt w v l) : CsesAt w' v l := SlAt.keep (fun _ _ _ hx => CseAt.keep u hx) h
def HdlAt (w : World) (b o : Nat) (h : Hdl) : Prop := HdlC w b o h ∧ NedsAt w h.nv h.needs ∧ CsesAt w h.cv h.cases
theorem HdlAt.keep {w w' : World} (u : Upd [] w w') {b o : Nat} {c : Hdl} (h : HdlAt w b o c) : HdlAt w' b o c :=
  ⟨⟨cell_keep u h.1.1, cell_keep u h.1.2.1, cell_keep u h.1.2.2⟩, h.2.1.keep u, h.2.2.keep u⟩

def StrAt (w : World) (b o : Nat) (s : ByteArray) : Prop := w.cell? ⟨b, o, none⟩ = some (.string s)
theorem StrAt.keep {w w' : World} (u : Upd [] w w') {b o : Nat} {c : ByteArray} (h : StrAt w b o c) : StrAt w' b o c := cell_keep u h
abbrev StrsAt (w : World) (v : Value) (l : List ByteArray) : Prop := SlAt 1 StrAt w v l
theorem StrsAt.keep {w w' : World} (u : Upd [] w w') {v : Value} {l : List ByteArray} (h : StrsAt w v l) : StrsAt w' v l := SlAt.keep (fun _ _ _ hx => StrAt.keep u hx) h

abbrev aggE (e : Evo) : Value := .agg #[.string e.ty, e.sv, e.dv]
def EvoC (w : World) (b o : Nat) (e : Evo) : Prop := w.cell? ⟨b, o, none⟩ = some (.string e.ty) ∧ w.cell? ⟨b, o + 1, none⟩ = some e.sv ∧ w.cell? ⟨b, o + 2, none⟩ = some e.dv
def EvoAt (w : World) (b o : Nat) (e : Evo) : Prop := EvoC w b o e ∧ AsgsAt w e.sv e.sets ∧ StrsAt w e.dv e.drops
theorem EvoAt.keep {w w' : World} (u : Upd [] w w') {b o : Nat} {c : Evo} (h : EvoAt w b o c) : EvoAt w' b o c :=
  ⟨⟨cell_keep u h.1.1, cell_keep u h.1.2.1, cell_keep u h.1.2.2⟩, h.2.1.keep u, h.2.2.keep u⟩

abbrev HdlsAt (w : World) (v : Value) (l : List Hdl) : Prop := SlAt 3 HdlAt w v l
abbrev EvosAt (w : World) (v : Value) (l : List Evo) : Prop := SlAt 3 EvoAt w v l
theorem HdlsAt.keep {w w' : World} (u : Upd [] w w') {v : Value} {l : List Hdl} (h : HdlsAt w v l) : HdlsAt w' v l := SlAt.keep (fun _ _ _ hx => HdlAt.keep u hx) h
theorem EvosAt.keep {w w' : World} (u : Upd [] w w') {v : Value} {l : List Evo} (h : EvosAt w v l) : EvosAt w' v l := SlAt.keep (fun _ _ _ hx => EvoAt.keep u hx) h
abbrev aggR (r : Rls) : Value := .agg #[r.hv, r.ev]

/-- What memory grants of a table. -/
def FitC (c : Cd) : Prop := In64 c.kd ∧ fitX c.a ∧ fitX c.b
def FitA (a : Asg) : Prop := a.nm.size ≤ 140737488355328 ∧ fitX a.e
def FitM (m : Emt) : Prop := m.ty.size ≤ 140737488355328 ∧ (m.sets.length * 72 ≤ 140737488355328) ∧ ∀ a ∈ m.sets, FitA a
def FitK (c : Cse) : Prop := c.refuse.size ≤ 140737488355328 ∧ (c.emits.length * 40 ≤ 140737488355328) ∧ (∀ x ∈ c.when, FitC x) ∧ ∀ m ∈ c.emits, FitM m
def FitNd (n : Ned) : Prop := n.nm.size ≤ 140737488355328
def FitH (h : Hdl) : Prop := h.cmd.size ≤ 140737488355328 ∧ (h.needs.length * 24 ≤ 140737488355328) ∧ (∀ n ∈ h.needs, FitNd n) ∧ ∀ c ∈ h.cases, FitK c
def FitE (e : Evo) : Prop := e.ty.size ≤ 140737488355328 ∧ (e.sets.length * 72 ≤ 140737488355328) ∧ (e.drops.length * 16 ≤ 140737488355328) ∧ (∀ a ∈ e.sets, FitA a) ∧ ∀ s ∈ e.drops, s.size ≤ 140737488355328
def FitR (hs : List Hdl) (es : List Evo) : Prop := (hs.length * 64 ≤ 140737488355328) ∧ (es.length * 64 ≤ 140737488355328) ∧ (∀ h ∈ hs, FitH h) ∧ ∀ e ∈ es, FitE e
end Go.Proofs.YtajppgngoffonaaGreatDoor

namespace Go.Proofs.YtajppgngoffonaaGreatDoor
open Go.RowKit

theorem half_eq (a : Int) : (0 ≤ a → a.tdiv 2 = a / 2) ∧ (a < 0 → a.tdiv 2 = -((-a) / 2)) := by
  constructor
  · intro h
    exact Int.tdiv_eq_ediv_of_nonneg h
  · intro h
    have : a = -(-a) := by omega
    rw [this, Int.neg_tdiv, Int.tdiv_eq_ediv_of_nonneg (show 0 ≤ -a by omega)]
    simp

theorem add_tells {a b : Int} (ha : In64 a) (hb : In64 b) : (withinB (a.tdiv 2 + b.tdiv 2) = true ∧ withinB (wrap64 (a + b)) = true) ↔ withinB (a + b) = true := by
  unfold In64 at ha hb
  have h1 := half_eq a
  have h2 := half_eq b
  simp only [withinB_iff]
  constructor
  · rintro ⟨g, g'⟩
    have hs : -9223372036854775808 ≤ a + b ∧ a + b ≤ 9223372036854775807 := by
      by_cases p : 0 ≤ a <;> by_cases q : 0 ≤ b
      · rw [h1.1 p, h2.1 q] at g; omega
      · rw [h1.1 p, h2.2 (by omega)] at g; omega
      · rw [h1.2 (by omega), h2.1 q] at g; omega
      · rw [h1.2 (by omega), h2.2 (by omega)] at g; omega
    rw [IntWalk.wrap64_in _ (by omega)] at g'
    exact g'
  · intro g
    rw [IntWalk.wrap64_in _ (by omega)]
    refine ⟨?_, g⟩
    by_cases p : 0 ≤ a <;> by_cases q : 0 ≤ b
    · rw [h1.1 p, h2.1 q]; omega
    · rw [h1.1 p, h2.2 (by omega)]; omega
    · rw [h1.2 (by omega), h2.1 q]; omega
    · rw [h1.2 (by omega), h2.2 (by omega)]; omega

theorem sub_tells {a b : Int} (ha : In64 a) (hb : In64 b) : (withinB (a.tdiv 2 - b.tdiv 2) = true ∧ withinB (wrap64 (a - b)) = true) ↔ withinB (a - b) = true := by
  unfold In64 at ha hb
  have h1 := half_eq a
  have h2 := half_eq b
  simp only [withinB_iff]
  constructor
  · rintro ⟨g, g'⟩
    have hs : -9223372036854775808 ≤ a - b ∧ a - b ≤ 9223372036854775807 := by
      by_cases p : 0 ≤ a <;> by_cases q : 0 ≤ b
      · rw [h1.1 p, h2.1 q] at g; omega
      · rw [h1.1 p, h2.2 (by omega)] at g; omega
      · rw [h1.2 (by omega), h2.1 q] at g; omega
      · rw [h1.2 (by omega), h2.2 (by omega)] at g; omega
    rw [IntWalk.wrap64_in _ (by omega)] at g'
    exact g'
  · intro g
    rw [IntWalk.wrap64_in _ (by omega)]
    refine ⟨?_, g⟩
    by_cases p : 0 ≤ a <;> by_cases q : 0 ≤ b
    · rw [h1.1 p, h2.1 q]; omega
    · rw [h1.1 p, h2.2 (by omega)]; omega
    · rw [h1.2 (by omega), h2.1 q]; omega
    · rw [h1.2 (by omega), h2.2 (by omega)]; omega

theorem half_rng {a : Int} (ha : In64 a) : -4611686018427387904 ≤ a.tdiv 2 ∧ a.tdiv 2 ≤ 4611686018427387903 := by
  unfold In64 at ha
  have h1 := half_eq a
  by_cases p : 0 ≤ a
  · rw [h1.1 p]; omega
  · rw [h1.2 (by omega)]; omega

theorem mul_big {a b : Int} (hb : b ≠ 0) (ha : withinB a = false) : withinB (a * b) = false := by
  rw [Bool.eq_false_iff] at ha ⊢
  intro h
  rw [withinB_iff] at h
  apply ha
  rw [withinB_iff]
  have h1 : (a * b).natAbs ≤ 1000000000000000 := by omega
  rw [Int.natAbs_mul] at h1
  have h2 : a.natAbs ≤ a.natAbs * b.natAbs := Nat.le_mul_of_pos_right _ (by omega)
  omega
end Go.Proofs.YtajppgngoffonaaGreatDoor

namespace Go.Proofs.YtajppgngoffonaaGreatDoor
open Go.RowKit

/-- What an evaluation gives up with. -/
def chn (e : Int) : List PanicEntry := [{ v := .iface 124 (.agg #[.int .i64 e]), recovered := false }]
def endV {α : Type} (f : α → Value) : Except Int α → Ending
  | .ok x => .returned (f x)
  | .error e => .panicked (chn e)

theorem box_set4 {W : World} {B : Nat} {a0 b0 c0 d0 : Value} {T : TypeId} (h : W.heap[B]? = some (.cells #[a0, b0, c0, d0] T (0, 0))) (a b c d : Value) :
    ((((W.setCell ⟨B, 0, none⟩ a).setCell ⟨B, 1, none⟩ b).setCell ⟨B, 2, none⟩ c).setCell ⟨B, 3, none⟩ d).heap[B]? = some (.cells #[a, b, c, d] T (0, 0)) := by
  rw [heap_setCell, if_pos rfl, heap_setCell, if_pos rfl, heap_setCell, if_pos rfl, heap_setCell, if_pos rfl, h]
  rfl

theorem blk_alloc {W : World} {B : Nat} {o o' : Obj} (h : W.heap[B]? = some o) : (W.alloc o').heap[B]? = some o := by
  have := lt_of_blk h
  rw [heap_alloc, if_neg (by omega)]
  exact h

/-- Where the result lies in a variable. -/
theorem ret_field {fn : Func} {R : Ending → World → Prop} {a : Act} {W : World} {slot B : Nat} {x : Fd} (hr : fn.results = #[.cell slot 64])
    (hs : a.tmps.getD slot undef = .pointer (some ⟨B, 0, none⟩)) (hb : W.heap[B]? = some (boxF x)) (hd : a.defers = []) (h : R (.returned (aggF x)) W) : bodyPost Tryz.prog fn R .ret a W := by
  have z0 : W.cell? ⟨B, 0, none⟩ = some (.string x.nm) := cell_blk hb 0
  have z1 : W.cell? ⟨B, 1, none⟩ = some (.bool x.tx) := cell_blk hb 1
  have z2 : W.cell? ⟨B, 2, none⟩ = some (.int .i64 x.n) := cell_blk hb 2
  have z3 : W.cell? ⟨B, 3, none⟩ = some (.string x.s) := cell_blk hb 3
  refine bodyPost_ret (v := aggF x) ?_ hd h
  have hs' := hs
  simp only [Array.getD_eq_getD_getElem?] at hs'
  simp [results, hr, hs', go_sem, z0, z1, z2, z3]

set_option maxRecDepth 100000 in
theorem need_yes (e : Int) (w : World) : Calls Tryz.prog 63 #[.bool true, .int .i64 e] w fun r w' => r = .returned (.tuple #[]) ∧ Upd [] w w' := by
  go_enter Tryz.func63, Tryz.ntmps63
  go_wp2_with fail
  go_end0
  exact ⟨rfl, Upd.refl _ _⟩

set_option maxRecDepth 100000 in
theorem need_no (e : Int) (w : World) : Calls Tryz.prog 63 #[.bool false, .int .i64 e] w fun r w' => r = .panicked (chn e) ∧ Upd [] w w' := by
  go_enter Tryz.func63, Tryz.ntmps63
  go_wp2_with fail
  exact ⟨rfl, rfl, by first | exact Upd.refl _ _ | exact (Upd.refl _ _).alloc _⟩

set_option maxRecDepth 100000 in
theorem text_ok (s : ByteArray) (w : World) : Calls Tryz.prog 112 #[.string s] w fun r w' => r = .returned (aggF (txF s)) ∧ Upd [] w w' := by
  go_enter Tryz.func112, Tryz.ntmps112
  go_wp2_with fail
  refine bodyPost_ret (by simp [results, Tryz.results112, go_sem]; try rfl) rfl ?_
  exact ⟨rfl, (Upd.refl _ _).alloc _⟩

set_option maxRecDepth 100000 in
theorem within_ok (n : Int) (w : World) : Calls Tryz.prog 142 #[.int .i64 n] w fun e w' => e = .returned (.bool (withinB n)) ∧ w' = w := by
  unfold withinB
  by_cases h1 : -1000000000000000 ≤ n <;> by_cases h2 : n ≤ 1000000000000000
  all_goals
    simp only [h1, h2, and_self, and_true, and_false, decide_true, decide_false]
    go_enter Tryz.func142, Tryz.ntmps142
    go_wp2_with fail
    go_ret
    exact ⟨rfl, rfl⟩

set_option maxRecDepth 100000 in
theorem arity_ok (kd : Int) (w : World) : Calls Tryz.prog 110 #[.int .i64 kd] w fun e w' => e = .returned (.int .i64 (arityN kd)) ∧ w' = w := by
  unfold arityN
  by_cases h1 : 1 ≤ kd <;> by_cases h2 : kd ≤ 5 <;> by_cases h3 : 6 ≤ kd <;> by_cases h4 : kd ≤ 9 <;> by_cases h5 : kd = 10 <;> by_cases h6 : kd = 11
  all_goals first
    | (exfalso; omega)
    | (simp only [h1, h2, h3, h4, h5, h6, and_self, and_true, and_false, or_true, true_or, or_self, if_true, if_false]
       go_enter Tryz.func110, Tryz.ntmps110
       go_wp2_with fail
       all_goals first
         | (go_ret; exact ⟨rfl, rfl⟩)
         | (exfalso; simp_all; done)
         | (exfalso; omega))

set_option maxRecDepth 100000 in
theorem asks_ok (x : Xp) (w : World) : Calls Tryz.prog 129 #[aggX x] w fun e w' => e = .returned (.bool (asksN x.kd)) ∧ Upd [] w w' := by
  unfold asksN
  obtain ⟨kd, n, s, av, kids⟩ := x
  dsimp only
  by_cases h1 : kd = 3
  · rw [decide_eq_true h1]
    subst h1
    go_enter Tryz.func129, Tryz.ntmps129
    go_wp2_with fail
    go_ret
    exact ⟨rfl, (Upd.refl _ _).alloc _⟩
  · rw [decide_eq_false h1]
    by_cases h2 : kd = 4
    · rw [decide_eq_true h2]
      subst h2
      go_enter Tryz.func129, Tryz.ntmps129
      go_wp2_with fail
      go_ret
      exact ⟨rfl, (Upd.refl _ _).alloc _⟩
    · rw [decide_eq_false h2]
      go_enter Tryz.func129, Tryz.ntmps129
      go_wp2_with fail
      go_ret
      refine ⟨?_, (Upd.refl _ _).alloc _⟩
      simp [h1, h2]

set_option maxRecDepth 100000 in
set_option maxHeartbeats 800000 in
theorem field_ok (v : Value) (l : List Fd) (k : ByteArray) (w : World) (h : RecAt w v l) :
    Calls Tryz.prog 113 #[v, .string k] w fun e w' => e = endV aggF (fieldV l k) ∧ Upd [] w w' := by
  have HC := Lib.hid (get_ok v l k (w.alloc (boxF noF)) (h.keep ((Upd.refl [] w).alloc _)))
  have hF : Hid (fieldV l k = match getF l k with | some f => .ok ⟨eB, f.tx, f.n, f.s⟩ | none => .error 133) := Lib.hid rfl
  generalize fieldV l k = R at *
  generalize getF l k = r at *
  obtain ⟨a, cap, rfl, -, -⟩ := h.isSlice
  clear h
  cases r with
  | none =>
    go_enter Tryz.func113, Tryz.ntmps113
    go_wp2_with fail
    refine HC.out.mono ?_
    rintro e w1 ⟨rfl, hu⟩
    have HU : Hid (Upd [] w w1) := Lib.hid (((Upd.refl [] w).alloc _).trans hu)
    clear hu HC
    dsimp only [Option.getD_none, Option.isSome_none]
    go_wp2_with fail
    exact ⟨rfl, by rw [hF.out]; rfl, HU.out.alloc _⟩
  | some f =>
    go_enter Tryz.func113, Tryz.ntmps113
    go_wp2_with fail
    refine HC.out.mono ?_
    rintro e w1 ⟨rfl, hu⟩
    have hb : w1.heap[w.heap.size]? = some (boxF noF) := by rw [hu.block _ (by simp) (by simp), heap_alloc, if_pos rfl]
    have hlt := lt_of_blk hb
    have hne : ¬ w.heap.size = w1.heap.size := by omega
    have b0 : w1.cell? ⟨w.heap.size, 0, none⟩ = some (.string ByteArray.empty) := cell_blk hb 0
    have b1 : w1.cell? ⟨w.heap.size, 1, none⟩ = some (.bool false) := cell_blk hb 1
    have b2 : w1.cell? ⟨w.heap.size, 2, none⟩ = some (.int .i64 0) := cell_blk hb 2
    have b3 : w1.cell? ⟨w.heap.size, 3, none⟩ = some (.string ByteArray.empty) := cell_blk hb 3
    have fz := frozen_blk hb
    have HB := Lib.hid hb
    have HU : Hid (Upd [] w w1) := Lib.hid (((Upd.refl [] w).alloc _).trans hu)
    clear hu hb HC
    obtain ⟨fnm, ftx, fn, fs⟩ := f
    dsimp only [Option.getD_some, Option.isSome_some]
    go_wp2_with fail
    refine ret_field (x := ⟨eB, ftx, fn, fs⟩) Tryz.results113 (by rfl) (blk_alloc (box_set4 HB.out _ _ _ _)) (by rfl) ?_
    exact ⟨by rw [hF.out]; rfl, ((((HU.out.setCellNew (Nat.le_refl _) 0 _).setCellNew (Nat.le_refl _) 1 _).setCellNew (Nat.le_refl _) 2 _).setCellNew (Nat.le_refl _) 3 _).alloc _⟩
end Go.Proofs.YtajppgngoffonaaGreatDoor
