/- The abstract machine: values, store, and the evaluator of the model's code over them. Conditions: none (definitions alone). -/
import Derived.Calls
import Derived.Orders
import Derived.Laws.Sem
namespace Go.Abs

/-- No row and no string that is made is longer. -/
def LIM : Nat := 4294967296

/-- The kinds of a row's elements. -/
inductive EK where
  | int (k : IntKind)
  | bool
  | str
  | seq (e : EK)
  | pair (a b : EK)
  deriving DecidableEq

/-- An element's Lean type. -/
@[reducible] def EK.α : EK → Type
  | .int _ => Int
  | .bool => Bool
  | .str => List UInt8
  | .seq e => List e.α
  | .pair a b => a.α × b.α

/-- How many cells an element has. -/
def EK.size : EK → Nat
  | .pair a b => a.size + b.size
  | _ => 1

/-- No element is a slice. -/
def EK.flat : EK → Bool
  | .seq _ => false
  | .pair a b => a.flat && b.flat
  | _ => true

inductive AV where
  | top
  | bool (b : Bool)
  | int (k : IntKind) (n : Int)
  | str (s : List UInt8)
  | lit (v : Value)
  | ptr (l o : Nat)
  | rptr (l i o : Nat)
  | pim (cs : List AV)
  | whole (l : Nat)
  | own (l o n : Nat)
  | seq (k : EK) (xs : List k.α)
  | agg (cs : List AV)
  | tup (vs : List AV)
  | fn (f : Nat) (caps : List AV)
  | ifc (t : Nat) (v : AV)

inductive Blk where
  | dead
  | cells (cs : List AV)
  | row (k : EK) (xs : List k.α)

abbrev Store := List Blk

structure St where
  env : List AV
  st : Store

/-- Outcomes: a tree of tests and of reads at an index. -/
inductive Tr (α : Type) : Type 1 where
  | ret (a : α)
  | no
  | br (b : Bool) (t e : Tr α)
  | at {β : Type} (xs : List β) (i : Nat) (k : β → Tr α)

def atL {β R : Type} (xs : List β) (i : Nat) (k : β → Option R) : Option R :=
  match xs[i]? with
  | some x => k x
  | none => none

def Tr.go {α R : Type} : Tr α → (α → Option R) → Option R
  | .ret a, K => K a
  | .no, _ => none
  | .br b t e, K => cond b (t.go K) (e.go K)
  | .at xs i k, K => atL xs i fun x => (k x).go K

def Tr.get {α : Type} (t : Tr α) : Option α := t.go some

theorem Tr.go_eq {α R : Type} (t : Tr α) (K : α → Option R) : t.go K = t.get.bind K := by
  induction t with
  | ret a => rfl
  | no => rfl
  | br b t e iht ihe => cases b <;> simp [Tr.go, Tr.get, iht, ihe] <;> rfl
  | «at» xs i k ih =>
    simp only [Tr.go, Tr.get, atL]
    split
    · rename_i x _; rw [ih x]; rfl
    · rfl

def Tr.map {α β : Type} (f : α → β) : Tr α → Tr β
  | .ret a => .ret (f a)
  | .no => .no
  | .br b t e => .br b (t.map f) (e.map f)
  | .at xs i k => .at xs i fun x => (k x).map f

theorem Tr.get_map {α β : Type} (f : α → β) (t : Tr α) : (t.map f).get = t.get.map f := by
  induction t with
  | ret a => rfl
  | no => rfl
  | br b t e iht ihe => cases b <;> simp [Tr.map, Tr.get, Tr.go] <;> first | exact iht | exact ihe
  | «at» xs i k ih =>
    simp only [Tr.map, Tr.get, Tr.go, atL]
    split
    · exact ih _
    · rfl

/-- A test that must hold. -/
def Tr.need {α : Type} (b : Bool) (t : Tr α) : Tr α := .br b t .no

/-! ### Elements and cells -/
def EK.enc : (k : EK) → k.α → List AV
  | .int k, n => [.int k n]
  | .bool, b => [.bool b]
  | .str, s => [.str s]
  | .seq e, xs => [.seq e xs]
  | .pair a b, p => a.enc p.1 ++ b.enc p.2

def decInt (k : IntKind) : List AV → Option Int
  | [.int k' n] => if k' = k then some n else none
  | _ => none
def decBool : List AV → Option Bool
  | [.bool b] => some b
  | _ => none
def decStr : List AV → Option (List UInt8)
  | [.str s] => some s
  | _ => none
def decSeq (e : EK) : List AV → Option (List e.α)
  | [.seq e' xs] => if h : e' = e then some (h ▸ xs) else none
  | _ => none

def EK.dec : (k : EK) → List AV → Option k.α
  | .int k, cs => decInt k cs
  | .bool, cs => decBool cs
  | .str, cs => decStr cs
  | .seq e, cs => decSeq e cs
  | .pair a b, cs =>
    match a.dec (cs.take a.size), b.dec (cs.drop a.size) with
    | some x, some y => some (x, y)
    | _, _ => none

def AV.cells : AV → List AV
  | .agg cs => cs
  | v => [v]

def ofCell : Value → AV
  | .bool b => .bool b
  | .int k n => .int k n
  | .string s => .str s.data.toList
  | v => .lit v

def ofValue : Value → AV
  | .agg cs => .agg (cs.toList.map ofCell)
  | v => ofCell v

/-- Its cells are known. -/
def okC : AV → Bool
  | .top => false
  | .lit (.agg _) => false
  | _ => true

/-- One cell's value. -/
def sc1 : AV → Bool
  | .top => false
  | .lit v => v.oneCell'
  | .agg _ => false
  | .tup _ => false
  | _ => true

/-- cs[o..] turned into vs. -/
def splice (cs : List AV) (o : Nat) (vs : List AV) : List AV := cs.take o ++ vs ++ cs.drop (o + vs.length)

/-! ### Types -/
def isAggT (P : Program) (t : TypeId) : Option Bool :=
  match P.underlying t with
  | some (.struct _) | some (.array ..) => some true
  | some _ => some false
  | none => none

def sizeT (P : Program) (t : TypeId) : Option Nat := (P.info? t).map (·.size)

def zeroT (P : Program) (t : TypeId) : Option (List AV) := (P.info? t).bind fun i => i.zero.map fun v => v.cells.toList.map ofCell

/-- The types of a type's cells. -/
def leaves (P : Program) : Nat → TypeId → List TypeId
  | 0, t => [t]
  | n + 1, t =>
    match P.underlying t with
    | some (.struct fs) => fs.toList.flatMap fun f => leaves P n f.type
    | some (.array m e) => (List.replicate m (leaves P n e)).flatten
    | _ => [t]

def ekList : List (Option EK) → Option EK
  | [] => none
  | [k] => k
  | some a :: r => (ekList r).map (.pair a)
  | none :: _ => none

def ek (P : Program) : Nat → TypeId → Option EK
  | 0, _ => none
  | n + 1, t =>
    match P.underlying t with
    | some (.int k) => some (.int k)
    | some .bool => some .bool
    | some .string => some .str
    | some (.slice e) => (ek P n e).map .seq
    | some (.struct fs) => ekList (fs.toList.map fun f => ek P n f.type)
    | some (.array m e) => ekList (List.replicate m (ek P n e))
    | _ => none

/-- A nil slice of a type is an empty row of its own. -/
def ghost1 (P : Program) (st : Store) (v : AV) (t : TypeId) : AV × Store :=
  match v with
  | .lit (.slice none 0 0) =>
    match P.underlying t with
    | some (.slice e) =>
      match ek P 6 e with
      | some k => (.whole st.length, st ++ [.row k []])
      | none => (v, st)
    | _ => (v, st)
  | _ => (v, st)

def ghosts (P : Program) : Store → List AV → List TypeId → List AV × Store
  | st, v :: vs, t :: ts =>
    let (v', st') := ghost1 P st v t
    let (vs', st'') := ghosts P st' vs ts
    (v' :: vs', st'')
  | st, vs, _ => (vs, st)

/-- A value of a type: nil slices in it are rows. -/
def ghostV (P : Program) (st : Store) (v : AV) (t : TypeId) : AV × Store :=
  match v with
  | .agg cs => let (cs', st') := ghosts P st cs (leaves P 6 t); (.agg cs', st')
  | v => ghost1 P st v t

/-! ### Rows that are read -/
/-- A slice's elements, whatever it is. -/
def asSeq (st : Store) : AV → Option ((k : EK) × List k.α)
  | .seq k xs => some ⟨k, xs⟩
  | .whole l => match st[l]? with | some (.row k xs) => some ⟨k, xs⟩ | _ => none
  | .own l o n => match st[l]? with | some (.row k xs) => some ⟨k, (xs.drop o).take n⟩ | _ => none
  | _ => none

/-- Borrowed: rows told as immutable ones. -/
def borrow (st : Store) (v : AV) : AV :=
  match v with
  | .whole l => match st[l]? with | some (.row k xs) => .seq k xs | _ => v
  | .own l o n => match st[l]? with | some (.row k xs) => .seq k ((xs.drop o).take n) | _ => v
  | v => v

/-- The row that a slice is of. -/
def rowName : AV → Option Nat
  | .whole l | .own l _ _ => some l
  | _ => none

/-- Given away: a row becomes immutable. -/
def release (st : Store) (v : AV) : AV × Store :=
  match rowName v with
  | some l => (borrow st v, st.set l .dead)
  | none => (v, st)

def releases : Store → List AV → List AV × Store
  | st, v :: vs =>
    let (v', st') := release st v
    let (vs', st'') := releases st' vs
    (v' :: vs', st'')
  | st, [] => ([], st)

/-- A view that is kept: its row is cut to it, under a new name. -/
def retire (st : Store) (v : AV) : AV × Store :=
  match v with
  | .own l o n =>
    match st[l]? with
    | some (.row k xs) => (.whole st.length, st.set l .dead ++ [.row k ((xs.drop o).take n)])
    | _ => (.top, st)
  | v => (v, st)

def retires : Store → List AV → List AV × Store
  | st, v :: vs =>
    let (v', st') := retire st v
    let (vs', st'') := retires st' vs
    (v' :: vs', st'')
  | st, [] => ([], st)

/-! ### Names: what hangs together -/
def addName (l : Nat) (names : List Nat) : List Nat := if names.contains l then names else names ++ [l]

def visit (st : Store) : Nat → List Nat → AV → List Nat
  | 0, names, _ => names
  | n + 1, names, a =>
    match a with
    | .ptr l _ =>
      if names.contains l then names
      else match st[l]? with
        | some (.cells cs) => cs.foldl (visit st n) (names ++ [l])
        | _ => names ++ [l]
    | .rptr l _ _ | .whole l | .own l _ _ => addName l names
    | .agg cs | .tup cs | .fn _ cs => cs.foldl (visit st n) names
    | .ifc _ v => visit st n names v
    | _ => names

def visits (st : Store) (roots : List AV) : List Nat := roots.foldl (visit st 12) []

def pos (l : Nat) : List Nat → Nat
  | [] => 0
  | x :: xs => if x == l then 0 else pos l xs + 1

/-- New names for old ones; what has none is no longer known. -/
def ren (f : Nat → Option Nat) : Nat → AV → AV
  | 0, _ => .top
  | n + 1, a =>
    match a with
    | .ptr l o => match f l with | some l' => .ptr l' o | none => .top
    | .rptr l i o => match f l with | some l' => .rptr l' i o | none => .top
    | .whole l => match f l with | some l' => .whole l' | none => .top
    | .own l o m => match f l with | some l' => .own l' o m | none => .top
    | .agg cs => .agg (cs.map (ren f n))
    | .tup cs => .tup (cs.map (ren f n))
    | .fn g cs => .fn g (cs.map (ren f n))
    | .pim cs => .pim (cs.map (ren f n))
    | .ifc t v => .ifc t (ren f n v)
    | v => v

def renB (f : Nat → Option Nat) : Blk → Blk
  | .cells cs => .cells (cs.map (ren f 8))
  | b => b

def place (names : List Nat) (l : Nat) : Option Nat := if names.contains l then some (pos l names) else none

/-- The part of a store that hangs on these values, by names of its own. -/
def canon (roots : List AV) (st : Store) : List AV × Store × List Nat :=
  let names := visits st roots
  (roots.map (ren (place names) 8), names.map (fun l => renB (place names) (st.getD l .dead)), names)

/-- No part is immutable memory. -/
def noImm : Nat → AV → Bool
  | 0, _ => false
  | n + 1, a =>
    match a with
    | .seq _ _ | .pim _ => false
    | .agg cs | .tup cs | .fn _ cs => cs.all (noImm n)
    | .ifc _ v => noImm n v
    | _ => true

/-- No part has a name. -/
def noName : Nat → AV → Bool
  | 0, _ => false
  | n + 1, a =>
    match a with
    | .ptr _ _ | .rptr _ _ _ | .whole _ | .own _ _ _ => false
    | .agg cs | .tup cs | .fn _ cs => cs.all (noName n)
    | .ifc _ v => noName n v
    | _ => true

def noImmB : Blk → Bool
  | .cells cs => cs.all (noImm 8)
  | .row k _ => k.flat
  | .dead => true

def Tr.bind {α β : Type} : Tr α → (α → Tr β) → Tr β
  | .ret a, f => f a
  | .no, _ => .no
  | .br b t e, f => .br b (t.bind f) (e.bind f)
  | .at xs i k, f => .at xs i fun x => (k x).bind f

theorem Tr.get_bind {α β : Type} (t : Tr α) (f : α → Tr β) : (t.bind f).get = t.get.bind fun a => (f a).get := by
  induction t with
  | ret a => rfl
  | no => rfl
  | br b t e iht ihe => cases b <;> simp [Tr.bind, Tr.get, Tr.go] <;> first | exact iht | exact ihe
  | «at» xs i k ih =>
    simp only [Tr.bind, Tr.get, Tr.go, atL]
    split
    · exact ih _
    · rfl

end Go.Abs
