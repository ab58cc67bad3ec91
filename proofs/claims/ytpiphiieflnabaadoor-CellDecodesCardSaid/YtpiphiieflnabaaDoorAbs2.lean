/- The abstract machine: what each operation, region, piece of code and function does. Conditions: none (definitions alone). -/
import Derived.Test.YtpiphiieflnabaaDoorAbs1
namespace Go.Abs

/-- What is known of a function: its outcome for values and the store that hangs on them; quiet: it takes no names and its result has none; lend: rows that it takes are lent to it as immutable ones; bare: it is handed nothing else that has a name, so it puts memory behind the rest and no more; fresh (and quiet): it is lent no row, and the rows that it hands back are told as immutable ones. -/
structure Con where
  spec : List AV → Store → Tr (AV × Store)
  quiet : Bool
  lend : Bool := false
  bare : Bool := false
  fresh : Bool := false

structure Ctx where
  P : Program
  G : Nat → Option (List AV)
  C : Nat → Option Con

def evO (G : Nat → Option (List AV)) (env : List AV) : Operand → AV
  | .tmp t => env.getD t .top
  | .const v => ofValue v
  | .global g => match G g with | some cs => .pim cs | none => .top
  | .func f => .fn f []

def bitsV (op : BinOp) (k : IntKind) (x y : Int) : Option AV :=
  let a := BitVec.ofInt k.bits x
  let b := BitVec.ofInt k.bits y
  match op with
  | .and => some (.int k (k.wrap (a &&& b).toNat))
  | .or => some (.int k (k.wrap (a ||| b).toNat))
  | .xor => some (.int k (k.wrap (a ^^^ b).toNat))
  | .andNot => some (.int k (k.wrap (a &&& ~~~b).toNat))
  | _ => none

def binI (op : BinOp) (k : IntKind) (a b : Int) : Tr AV :=
  match op with
  | .add => .ret (.int k (k.wrap (a + b)))
  | .sub => .ret (.int k (k.wrap (a - b)))
  | .mul => .ret (.int k (k.wrap (a * b)))
  | .quo => .need (!decide (b = 0)) (.ret (.int k (k.wrap (a.tdiv b))))
  | .rem => .need (!decide (b = 0)) (.ret (.int k (a.tmod b)))
  | .eql => .ret (.bool (decide (a = b)))
  | .neq => .ret (.bool (!decide (a = b)))
  | .lss => .ret (.bool (decide (a < b)))
  | .leq => .ret (.bool (decide (a ≤ b)))
  | .gtr => .ret (.bool (decide (b < a)))
  | .geq => .ret (.bool (decide (b ≤ a)))
  | .shl | .shr => .no
  | op => match bitsV op k a b with | some v => .ret v | none => .no

def shiftV (op : BinOp) (k : IntKind) (a b : Int) : Tr AV :=
  match op with
  | .shl => .need (decide (0 ≤ b)) (.ret (.int k (k.wrap (a * 2 ^ (min b.toNat k.bits)))))
  | .shr => .need (decide (0 ≤ b)) (.ret (.int k (a.fdiv (2 ^ (min b.toNat k.bits)))))
  | _ => .no

def binS (op : BinOp) (a b : List UInt8) : Tr AV :=
  match op with
  | .add => .need (decide (a.length + b.length ≤ LIM)) (.ret (.str (a ++ b)))
  | .eql => .ret (.bool (decide (a = b)))
  | .neq => .ret (.bool (!decide (a = b)))
  | .lss => .ret (.bool (Op.bytesLess a b))
  | .leq => .ret (.bool (Op.bytesLess a b || decide (a = b)))
  | .gtr => .ret (.bool (!(Op.bytesLess a b || decide (a = b))))
  | .geq => .ret (.bool (!Op.bytesLess a b))
  | _ => .no

/-- Is it nil? For what is surely one or the other. -/
def isNil (P : Program) (c : Bool) (t : TypeId) (a : AV) : Option Bool :=
  match P.underlying t, a with
  | some (.pointer _), .lit (.pointer none) => some true
  | some (.pointer _), .ptr _ _ => some false
  | some (.func ..), .lit .nilFunc => some true
  | some (.func ..), .fn _ _ => some false
  | some (.interface _), .lit .nilIface => if c then some true else none
  | some (.interface _), .ifc _ _ => some false
  | some (.slice _), .lit (.slice none _ _) => some true
  | some (.slice _), .lit (.slice (some _) _ _) => some false
  | some (.slice _), .seq _ (_ :: _) => some false
  | _, _ => none

def isNilT (P : Program) (t : TypeId) (a : AV) : Bool :=
  match P.underlying t, a with
  | some (.pointer _), .lit (.pointer none) => true
  | some (.func ..), .lit .nilFunc => true
  | some (.interface _), .lit .nilIface => true
  | some (.slice _), .lit (.slice none 0 0) => true
  | _, _ => false

/-- Equality of values of a type, cell by cell. -/
def eqT (P : Program) : Nat → TypeId → List AV → List AV → Option Bool
  | 0, _, _, _ => none
  | n + 1, t, xs, ys =>
    match P.underlying t with
    | some .bool => match xs, ys with | [.bool a], [.bool b] => some (a == b) | _, _ => none
    | some (.int _) => match xs, ys with | [.int k a], [.int k' b] => if k = k' then some (decide (a = b)) else none | _, _ => none
    | some .string => match xs, ys with | [.str a], [.str b] => some (decide (a = b)) | _, _ => none
    | some (.struct fs) =>
      if P.stoodInHeld t then none else
      fs.toList.foldr (fun f r =>
        match r, isAggT P f.type, sizeT P f.type with
        | some r, some ag, some z =>
          if f.name = "_" || !(ag || decide (z = 1)) || decide (xs.length < f.offset + z) || decide (ys.length < f.offset + z) then none else
          (eqT P n f.type ((xs.drop f.offset).take z) ((ys.drop f.offset).take z)).map (· && r)
        | _, _, _ => none) (some true)
    | _ => none

def isC : Operand → Bool
  | .const _ => true
  | _ => false

def binV (P : Program) (c : Bool) (op : BinOp) (t : TypeId) (x y : AV) : Tr AV :=
  match op, x, y with
  | .shl, .int k a, .int _ b => shiftV .shl k a b
  | .shr, .int k a, .int _ b => shiftV .shr k a b
  | op, .int k a, .int k' b => if k = k' then binI op k a b else .no
  | op, .str a, .str b => binS op a b
  | .eql, .agg xs, .agg ys => if P.eqGuardType P.depth t then .no else match isAggT P t, eqT P 6 t xs ys with | some true, some b => .ret (.bool b) | _, _ => .no
  | .neq, .agg xs, .agg ys => if P.eqGuardType P.depth t then .no else match isAggT P t, eqT P 6 t xs ys with | some true, some b => .ret (.bool (!b)) | _, _ => .no
  | .eql, .bool a, .bool b => match P.underlying t with | some .bool => .ret (.bool (a == b)) | _ => .no
  | .neq, .bool a, .bool b => match P.underlying t with | some .bool => .ret (.bool (!(a == b))) | _ => .no
  | op, x, y =>
    match (if isNilT P t y then isNil P c t x else if isNilT P t x then isNil P c t y else none), op with
    | some b, .eql => .ret (.bool b)
    | some b, .neq => .ret (.bool (!b))
    | _, _ => .no

def unV (op : UnOp) (x : AV) : Tr AV :=
  match op, x with
  | .not, .bool b => .ret (.bool (!b))
  | .neg, .int k n => .ret (.int k (k.wrap (0 - n)))
  | _, _ => .no

def toStr (xs : List Int) : List UInt8 := xs.map fun n => UInt8.ofNat n.toNat
def toInts (s : List UInt8) : List Int := s.map fun b => (b.toNat : Int)

def convV (P : Program) (st : Store) (src dst : TypeId) (x : AV) : Tr (AV × Store) :=
  match P.underlying src, P.underlying dst, x with
  | some _, some (.int k), .int _ n => .ret (.int k (k.wrap n), st)
  | some _, some .string, .str s => .ret (.str s, st)
  | some _, some (.slice e), .str s =>
    match P.underlying e with
    | some (.int .u8) => .ret (.whole st.length, st ++ [.row (.int .u8) (toInts s)])
    | _ => .no
  | some (.slice e), some .string, x =>
    match P.underlying e, asSeq st x with
    | some (.int .u8), some ⟨.int .u8, xs⟩ => .ret (.str (toStr xs), st)
    | _, _ => .no
  | _, _, _ => .no

/-- cs cut into pieces of a size. -/
def chunks (z : Nat) : Nat → List AV → List (List AV)
  | 0, _ => []
  | n + 1, cs => cs.take z :: chunks z n (cs.drop z)

def decAll (k : EK) : List (List AV) → Option (List k.α)
  | [] => some []
  | c :: r => match k.dec c, decAll k r with | some x, some xs => some (x :: xs) | _, _ => none

/-- An array's elements, typed. -/
def elems (P : Program) (elem : TypeId) (n : Nat) (cs : List AV) : Option ((k : EK) × List k.α) :=
  match ek P 6 elem, sizeT P elem with
  | some k, some z => if z = k.size && decide (cs.length = n * z) then (decAll k (chunks z n cs)).map fun xs => ⟨k, xs⟩ else none
  | _, _ => none

/-- A value of a type out of cells. -/
def partV (P : Program) (t : TypeId) (cs : List AV) (o : Nat) : Tr AV :=
  match isAggT P t, sizeT P t with
  | some true, some z => if decide (o + z ≤ cs.length) then .ret (.agg ((cs.drop o).take z)) else .no
  | some false, some _ => match cs[o]? with | some v => .ret v | none => .no
  | _, _ => .no

def loadV (P : Program) (st : Store) (t : TypeId) (a : AV) : Tr AV :=
  match a with
  | .ptr l o => match st[l]? with | some (.cells cs) => partV P t cs o | _ => .no
  | .pim cs => partV P t cs 0
  | .rptr l i o => match st[l]? with | some (.row k xs) => .at xs i fun x => partV P t (k.enc x) o | _ => .no
  | _ => .no

def storeV (P : Program) (st : Store) (t : TypeId) (a v : AV) : Tr Store :=
  match sizeT P t with
  | none => .no
  | some z =>
    if okC v && decide (v.cells.length = z) then
      match a with
      | .ptr l o =>
        let (v1, st1) := ghostV P st v t
        let (vs, st2) := retires st1 v1.cells
        match st2[l]? with
        | some (.cells cs) => if okC v1 && decide (o + z ≤ cs.length) && vs.all sc1 then .ret (st2.set l (.cells (splice cs o vs))) else .no
        | _ => .no
      | .rptr l i o =>
        let (vs, st1) := releases st v.cells
        match st1[l]? with
        | some (.row k xs) =>
          if decide (o + z ≤ k.size) && vs.all sc1 then
            .at xs i fun x => match k.dec (splice (k.enc x) o vs) with
              | some x' => .ret (st1.set l (.row k (xs.set i x')))
              | none => .no
          else .no
        | _ => .no
      | _ => .no
    else .no

def fieldOf (P : Program) (s : TypeId) (f : Nat) : Option Field :=
  match P.underlying s with
  | some (.struct fs) => fs.toList[f]?
  | _ => none

def fieldAddrV (P : Program) (s : TypeId) (x : AV) (f : Nat) : Tr AV :=
  match fieldOf P s f with
  | none => .no
  | some f =>
    if decide ((sizeT P f.type).getD 0 = 0) then .no else
    match x with
    | .ptr l o => .ret (.ptr l (o + f.offset))
    | .rptr l i o => .ret (.rptr l i (o + f.offset))
    | .pim cs => .ret (.pim (cs.drop f.offset))
    | _ => .no

def indexAddrV (P : Program) (st : Store) (t : TypeId) (x i : AV) : Tr AV :=
  match P.underlying t, x, i with
  | some (.slice e), .seq k xs, .int _ i =>
    if sizeT P e = some k.size then .need (decide (0 ≤ i)) (.at xs i.toNat fun x => .ret (.pim (k.enc x))) else .no
  | some (.slice e), .whole l, .int _ i =>
    match st[l]? with
    | some (.row k xs) => if sizeT P e = some k.size then .need (decide (0 ≤ i) && decide (i < xs.length)) (.ret (.rptr l i.toNat 0)) else .no
    | _ => .no
  | some (.slice e), .own l o n, .int _ i =>
    match st[l]? with
    | some (.row k _) => if sizeT P e = some k.size then .need (decide (0 ≤ i) && decide (i < n)) (.ret (.rptr l (o + i.toNat) 0)) else .no
    | _ => .no
  | some (.array n e), .pim cs, .int _ i =>
    match sizeT P e with
    | none => .no
    | some z =>
      match elems P e n (cs.take (n * z)) with
      | some ⟨k, xs⟩ => .need (decide (0 ≤ i)) (.at xs i.toNat fun x => .ret (.pim (k.enc x)))
      | none => .no
  | some (.array n e), .ptr l o, .int _ i =>
    match sizeT P e with
    | some z => .need (decide (0 ≤ i) && decide (i < n)) (.ret (.ptr l (o + i.toNat * z)))
    | none => .no
  | _, _, _ => .no

def headV (P : Program) (t : TypeId) (cs : List AV) : Tr AV :=
  match isAggT P t, cs with
  | some true, cs => .ret (.agg cs)
  | some false, [v] => .ret v
  | _, _ => .no

def indexV (P : Program) (t : TypeId) (x i : AV) : Tr AV :=
  match P.underlying t, x, i with
  | some .string, .str s, .int _ i => .need (decide (0 ≤ i)) (.at s i.toNat fun b => .ret (.int .u8 b.toNat))
  | some (.array n e), .agg cs, .int _ i =>
    match elems P e n cs with
    | some ⟨k, xs⟩ => .need (decide (0 ≤ i)) (.at xs i.toNat fun x => headV P e (k.enc x))
    | none => .no
  | _, _, _ => .no

/-- The bounds of a slice expression. -/
def boundsV {α : Type} (len : Nat) (lo hi : Option AV) (k : Option Nat → Option Nat → Tr α) : Tr α :=
  match lo, hi with
  | none, none => k none none
  | some (.int _ l), none => .need (decide (0 ≤ l) && decide (l ≤ len)) (k (some l.toNat) none)
  | none, some (.int _ h) => .need (decide (0 ≤ h) && decide (h ≤ len)) (k none (some h.toNat))
  | some (.int _ l), some (.int _ h) => .need (decide (0 ≤ l) && decide (l ≤ h) && decide (h ≤ len)) (k (some l.toNat) (some h.toNat))
  | _, _ => .no

def cutL {α : Type} (xs : List α) : Option Nat → Option Nat → List α
  | none, none => xs
  | some l, none => xs.drop l
  | none, some h => xs.take h
  | some l, some h => (xs.drop l).take (h - l)

def cutN (n : Nat) : Option Nat → Option Nat → Nat × Nat
  | none, none => (0, n)
  | some l, none => (l, n - l)
  | none, some h => (0, h)
  | some l, some h => (l, h - l)

def sliceV (P : Program) (st : Store) (t : TypeId) (x : AV) (lo hi mx : Option AV) : Tr AV :=
  match P.underlying t, x, mx with
  | some .string, .str s, none => boundsV s.length lo hi fun l h => .ret (.str (cutL s l h))
  | some (.slice e), .seq k xs, none => boundsV xs.length lo hi fun l h => if sizeT P e = some k.size then .ret (.seq k (cutL xs l h)) else .no
  | some (.slice e), .whole r, none =>
    match st[r]?, sizeT P e with
    | some (.row k xs), some z => if z = k.size then boundsV xs.length lo hi fun l h => .ret (.own r (cutN xs.length l h).1 (cutN xs.length l h).2) else .no
    | _, _ => .no
  | some (.slice e), .own r o n, none =>
    match st[r]?, sizeT P e with
    | some (.row k _), some z => if z = k.size then boundsV n lo hi fun l h => .ret (.own r (o + (cutN n l h).1) (cutN n l h).2) else .no
    | _, _ => .no
  | some (.array n e), .pim cs, none =>
    match sizeT P e with
    | none => .no
    | some z =>
      match elems P e n (cs.take (n * z)) with
      | some ⟨k, xs⟩ => boundsV n lo hi fun l h => .ret (.seq k (cutL xs l h))
      | none => .no
  | _, _, _ => .no

/-- s[:0:0]: an empty slice of its own. -/
def slice0V (P : Program) (st : Store) (t : TypeId) (x : AV) (lo hi : Option AV) (m : AV) : Tr (AV × Store) :=
  match P.underlying t, lo, hi, m with
  | some (.slice e), none, some (.int _ h), .int _ c =>
    match asSeq st x, sizeT P e with
    | some ⟨k, _⟩, some z => if z = k.size && decide (h = 0) && decide (c = 0) then .ret (.whole st.length, st ++ [.row k []]) else .no
    | _, _ => .no
  | _, _, _, _ => .no

def lenV (P : Program) (st : Store) (t : TypeId) (x : AV) : Tr AV :=
  match P.underlying t, x with
  | some .string, .str s => .ret (.int .i64 s.length)
  | some (.slice _), .seq _ xs => .ret (.int .i64 xs.length)
  | some (.slice _), .whole l => match st[l]? with | some (.row _ xs) => .ret (.int .i64 xs.length) | _ => .no
  | some (.slice _), .own _ _ n => .ret (.int .i64 n)
  | some (.slice _), .lit (.slice none 0 0) => .ret (.int .i64 0)
  | some (.array n _), _ => .ret (.int .i64 n)
  | _, _ => .no

/-- What is appended. -/
def newsOf (st : Store) (k : EK) (x : AV) : Option (List k.α) :=
  match x with
  | .str s => if h : k = .int .u8 then some (h ▸ toInts s) else none
  | .lit (.slice _ 0 _) => some []
  | x => match asSeq st x with | some ⟨k', xs⟩ => if h : k' = k then some (h ▸ xs) else none | none => none

/-- Elements of few bytes. -/
def small (P : Program) (e : TypeId) : Bool :=
  match P.info? e with
  | some i => decide (i.bytes ≤ 4096) && (match i.zero with | some z => decide (z.cells.size = i.size) | none => false)
  | none => false

def appendV (P : Program) (st : Store) (t : TypeId) (s x : AV) : Tr (AV × Store) :=
  match P.underlying t with
  | some (.slice e) =>
    match rowName s, asSeq st s, sizeT P e with
    | some l, some ⟨k, xs⟩, some z =>
      if z = k.size && small P e then
        match newsOf st k x with
        | some ys => .need (decide (xs.length + ys.length ≤ LIM)) (.ret (.whole st.length, st.set l .dead ++ [.row k (xs ++ ys)]))
        | none => .no
      else .no
    | none, _, some z =>
      match s, ek P 6 e with
      | .lit (.slice none 0 0), some k =>
        if z = k.size && small P e then
          match newsOf st k x with
          | some ys => .need (decide (ys.length ≤ LIM)) (.ret (.whole st.length, st ++ [.row k ys]))
          | none => .no
        else .no
      | _, _ => .no
    | _, _, _ => .no
  | _ => .no

def minV (mx : Bool) : List AV → Option AV
  | [.int k a, .int k' b] => if k = k' then some (.int k (if mx then (if a < b then b else a) else (if b < a then b else a))) else none
  | [.int k a, .int k' b, .int k'' c] =>
    if k = k' && k = k'' then
      some (.int k (if mx then (if (if a < b then b else a) < c then c else (if a < b then b else a)) else (if c < (if b < a then b else a) then c else (if b < a then b else a))))
    else none
  | _ => none

def builtinV (P : Program) (st : Store) (b : Builtin) (ts : List TypeId) (xs : List AV) : Tr (AV × Store) :=
  match b, ts, xs with
  | .len, [t], [x] => (lenV P st t x).map (·, st)
  | .append, [t, tx], [s, x] =>
    match P.underlying tx with
    | some (.slice _) | some .string => appendV P st t s x
    | _ => .no
  | .min, _, xs => match minV false xs with | some v => .ret (v, st) | none => .no
  | .max, _, xs => match minV true xs with | some v => .ret (v, st) | none => .no
  | _, _, _ => .no

def zeroE : (k : EK) → k.α
  | .int _ => (0 : Int)
  | .bool => false
  | .str => []
  | .seq _ => []
  | .pair a b => (zeroE a, zeroE b)

/-- The parts of a struct or an array, laid into its zero value. -/
def fillV (place : Nat → Option (Nat × Nat)) : List AV → List (Nat × AV) → Option (List AV)
  | cs, [] => some cs
  | cs, (i, v) :: rest =>
    match place i with
    | some (o, z) => if okC v && decide (v.cells.length = z) && decide (o + z ≤ cs.length) then fillV place (splice cs o v.cells) rest else none
    | none => none

def placeT (P : Program) (t : TypeId) (i : Nat) : Option (Nat × Nat) :=
  match P.underlying t with
  | some (.struct fs) => match fs.toList[i]? with | some f => (sizeT P f.type).map (f.offset, ·) | none => none
  | some (.array _ e) => (sizeT P e).map fun z => (i * z, z)
  | _ => none

/-- All fields' types are known. -/
def fieldsOK (P : Program) (t : TypeId) : Bool :=
  match P.underlying t with
  | some (.struct fs) => fs.toList.all fun f => (sizeT P f.type).isSome
  | some (.array _ e) => (P.info? e).isSome
  | _ => false

def buildV (P : Program) (st : Store) (t : TypeId) (parts : List (Nat × AV)) : Tr (AV × Store) :=
  match zeroT P t with
  | none => .no
  | some zs =>
    match fillV (placeT P t) zs parts with
    | some cs => if fieldsOK P t then .ret (ghostV P st (.agg cs) t) else .no
    | none => .no

/-- Is z the zero cell a? -/
def okZ : AV → AV → Bool
  | .int k 0, .int k' 0 => k == k'
  | .bool false, .bool false => true
  | .str [], .str [] => true
  | .seq _ [], .lit (.slice none 0 0) => true
  | _, _ => false

def okZs : List AV → List AV → Bool
  | [], [] => true
  | a :: as', z :: zs => okZ a z && okZs as' zs
  | _, _ => false

def zeroOK (P : Program) (e : TypeId) (k : EK) : Bool :=
  match zeroT P e with
  | some zs => okZs (k.enc (zeroE k)) zs
  | none => false

def fillRow (k : EK) : Store → List k.α → List (Nat × AV) → Option (List k.α × Store)
  | st, xs, [] => some (xs, st)
  | st, xs, (i, v) :: rest =>
    let (vs, st1) := releases st v.cells
    match k.dec vs with
    | some x => if okC v && decide (i < xs.length) then fillRow k st1 (xs.set i x) rest else none
    | none => none

def buildSliceV (P : Program) (st : Store) (t : TypeId) (n : Nat) (parts : List (Nat × AV)) : Tr (AV × Store) :=
  match P.underlying t with
  | some (.slice e) =>
    match ek P 6 e, sizeT P e with
    | some k, some z =>
      if z = k.size && zeroOK P e k && decide (n * z ≤ 4096) then
        match fillRow k st (List.replicate n (zeroE k)) parts with
        | some (xs, st1) => .ret (.whole st1.length, st1 ++ [.row k xs])
        | none => .no
      else .no
    | _, _ => .no
  | _ => .no

def makeSliceV (P : Program) (st : Store) (t : TypeId) (n c : AV) : Tr (AV × Store) :=
  match P.underlying t, n, c with
  | some (.slice e), .int .i64 n, .int .i64 c =>
    match ek P 6 e, sizeT P e with
    | some k, some z =>
      if z = k.size && zeroOK P e k && small P e then
        .need (decide (0 ≤ n) && decide (n ≤ c) && decide (c ≤ LIM)) (.ret (.whole st.length, st ++ [.row k (List.replicate n.toNat (zeroE k))]))
      else .no
    | _, _ => .no
  | _, _, _ => .no

/-! ### Calls -/
def isCells : Option Blk → Bool
  | some (.cells _) => true
  | _ => false

def mapI {α β : Type} (f : Nat → α → β) : Nat → List α → List β
  | _, [] => []
  | n, x :: xs => f n x :: mapI f (n + 1) xs

/-- The name, with the caller, of a block that a callee hands back. -/
def backName (sub : Store) (names : List Nat) (n1 len : Nat) (j : Nat) : Option Nat :=
  if isCells sub[j]? then names[j]? else if j < len then some (n1 + j) else none

def mergeSt (st1 : Store) (names : List Nat) (sub st' : Store) : Store :=
  let f := backName sub names st1.length st'.length
  mapI (fun l b => if names.contains l then (if isCells sub[pos l names]? then renB f (st'.getD (pos l names) .dead) else .dead) else b) 0 st1 ++
  mapI (fun j b => if isCells sub[j]? then .dead else renB f b) 0 st'

def merge (st1 : Store) (names : List Nat) (sub : Store) (r : AV) (st' : Store) : AV × Store :=
  (ren (backName sub names st1.length st'.length) 8 r, mergeSt st1 names sub st')

/-- The rows among arguments. -/
def rowNames : List AV → List Nat
  | [] => []
  | a :: r => match rowName a with | some l => l :: rowNames r | none => rowNames r

/-- Rows that are handed back, told as immutable ones. -/
def freeze (st : Store) : AV → AV
  | .tup vs => .tup (vs.map (borrow st))
  | v => borrow st v

def callV (X : Ctx) (st : Store) (f : Nat) (args : List AV) : Tr (AV × Store) :=
  match X.C f with
  | none => .no
  | some con =>
    if con.quiet then
      let c := canon (args.map (borrow st)) st
      if c.2.2.isEmpty then
        (con.spec c.1 c.2.1).bind fun p =>
          if con.fresh then (if (rowNames args).isEmpty then .ret (ren (fun _ => none) 8 (freeze p.2 p.1), st) else .no) else
          if noImm 8 p.1 && noName 8 p.1 then .ret (p.1, st) else .no
      else .no
    else
      if con.lend then
        let c := canon (args.map (borrow st)) st
        if con.bare && !c.2.2.isEmpty then .no else
        if (rowNames args).all (fun l => !c.2.2.contains l) then
          (con.spec c.1 c.2.1).bind fun p => if noImm 8 p.1 && p.2.all noImmB then .ret (merge st c.2.2 c.2.1 p.1 p.2) else .no
        else .no
      else
        let a := retires st args
        let c := canon a.1 a.2
        (con.spec c.1 c.2.1).bind fun p => .ret (merge a.2 c.2.2 c.2.1 p.1 p.2)

def guardOf (ops : List Oper) (o : Oper) : Option (Option Tmp × Bool) :=
  match o.guard with
  | none => none
  | some (j, b) => some ((ops[j]?).bind (·.dst), b)

def St.put (s : St) (dst : Option Tmp) (v : AV) (st : Store) : St :=
  { env := match dst with | some d => s.env.set d v | none => s.env, st := st }

def assignV (P : Program) (st : Store) (t : TypeId) (v : AV) : AV × Store :=
  match v with
  | .lit (.slice none 0 0) => ghost1 P st v t
  | v => (v, st)

def stepE (X : Ctx) (ev : Operand → AV) (st : Store) (o : Oper) : Tr (AV × Store) :=
  match o.op with
  | .move x | .assign x => .ret (if isC x then assignV X.P st o.type (ev x) else (ev x, st))
  | .pick c a b => match ev c with | .bool x => .br x (.ret (ev a, st)) (.ret (ev b, st)) | _ => .no
  | .alloc t =>
    match zeroT X.P t with
    | some zs => let p := ghosts X.P st zs (leaves X.P 6 t); .ret (.ptr p.2.length 0, p.2 ++ [.cells p.1])
    | none => .no
  | .box t x =>
    let p := ghostV X.P st (ev x) t
    if okC p.1 then .ret (.ptr p.2.length 0, p.2 ++ [.cells p.1.cells]) else .no
  | .build t ps => buildV X.P st t (ps.toList.map fun p => (p.1, ev p.2))
  | .buildSlice t n ps => buildSliceV X.P st t n (ps.toList.map fun p => (p.1, ev p.2))
  | .load t a => (loadV X.P st t (ev a)).map (·, st)
  | .store t a x => (storeV X.P st t (ev a) (ev x)).map (.lit undef, ·)
  | .nilCheck x =>
    match ev x with
    | .ptr l o => .ret (.ptr l o, st)
    | .rptr l i o => .ret (.rptr l i o, st)
    | .pim cs => .ret (.pim cs, st)
    | .fn f cs => .ret (.fn f cs, st)
    | _ => .no
  | .binOp op t x y _ => (binV X.P (isC x || isC y) op t (ev x) (ev y)).map (·, st)
  | .unOp op _ x => (unV op (ev x)).map (·, st)
  | .convert src dst x => convV X.P st src dst (ev x)
  | .makeInterface t x => match X.P.underlying t with | some (.interface _) | none => .no | some _ => .ret (.ifc t (ev x), st)
  | .makeFunc (.func f) first caps => if first.toList.isEmpty then .ret (.fn f (caps.toList.map ev), st) else .no
  | .makeSlice t n c => makeSliceV X.P st t (ev n) (ev c)
  | .slice t x lo hi none => (sliceV X.P st t (ev x) (lo.map ev) (hi.map ev) none).map (·, st)
  | .slice t x lo hi (some m) => slice0V X.P st t (ev x) (lo.map ev) (hi.map ev) (ev m)
  | .fieldAddr t x f => (fieldAddrV X.P t (ev x) f).map (·, st)
  | .field t x f => match fieldOf X.P t f, ev x with | some fd, .agg cs => (partV X.P fd.type cs fd.offset).map (·, st) | _, _ => .no
  | .indexAddr t x i => (indexAddrV X.P st t (ev x) (ev i)).map (·, st)
  | .index t x i => (indexV X.P t (ev x) (ev i)).map (·, st)
  | .extract x i => match ev x with | .tup vs => (match vs[i]? with | some v => .ret (v, st) | none => .no) | _ => .no
  | .call { callee := .builtin b, args, argTypes } => builtinV X.P st b argTypes.toList (args.toList.map ev)
  | .call { callee := .value f, args, .. } =>
    match ev f with
    | .fn g caps => callV X st g (args.toList.map ev ++ caps)
    | _ => .no
  | _ => .no

def stepV (X : Ctx) (s : St) (o : Oper) : Tr (AV × Store) := stepE X (evO X.G s.env) s.st o

/-! ### Regions -/
inductive Cls where
  | pure | read | alloc | loud
  deriving DecidableEq

def clsOf (X : Ctx) (o : Oper) : Cls :=
  match o.op with
  | .move (.const _) | .assign (.const _) => .alloc
  | .move _ | .assign _ | .pick .. | .fieldAddr .. | .field .. | .extract .. | .unOp .. | .makeInterface .. | .nilCheck _ => .pure
  | .makeFunc .. => .pure
  | .index .. | .binOp .. => .pure
  | .convert src dst _ =>
    match X.P.underlying src, X.P.underlying dst with
    | some (.slice _), some .string => .read
    | _, some (.int _) => .pure
    | _, _ => .loud
  | .load .. | .indexAddr .. | .slice _ _ _ _ none => .read
  | .alloc _ => .alloc
  | .call { callee := .builtin .len, .. } => .read
  | .call { callee := .builtin .min, .. } | .call { callee := .builtin .max, .. } => .pure
  | .call { callee := .value (.func f), .. } => match X.C f with | some c => if c.quiet then .read else .loud | none => .loud
  | _ => .loud

def isPeek (X : Ctx) (o : Oper) : Bool :=
  match o.op with
  | .load .. => true
  | .slice t _ _ _ none => match X.P.underlying t with | some .string => true | _ => false
  | .call { callee := .builtin .len, .. } => true
  | .call { callee := .value (.func f), .. } => match X.C f with | some c => c.quiet | none => false
  | .convert src dst _ =>
    match X.P.underlying src, X.P.underlying dst with
    | some (.slice _), some .string => true
    | _, _ => false
  | _ => false

/-- It puts memory behind the rest, and changes nothing else. -/
def isGrow (X : Ctx) (o : Oper) : Bool :=
  match o.op with
  | .alloc _ => true
  | .move (.const _) | .assign (.const _) => true
  | .box .. | .build .. | .makeSlice .. => true
  | .buildSlice t _ _ =>
    match X.P.underlying t with
    | some (.slice e) => match ek X.P 6 e with | some k => k.flat | none => false
    | _ => false
  | .call { callee := .value (.func f), .. } => match X.C f with | some c => !c.quiet && c.lend && c.bare | none => false
  | _ => false

/-- May t, which stands ahead of o, come up behind it as well? -/
def indep (X : Ctx) (ops : Array Oper) (t o : Oper) : Bool :=
  t.apart ops o && o.apart ops t &&
  match clsOf X t, clsOf X o with
  | .pure, _ | _, .pure => true
  | .read, .read => true
  | _, _ => isPeek X t && isGrow X o

def edges (ops : Array Oper) (i : Nat) : List Nat :=
  match ops[i]? with
  | some o => (o.after.toList.filter fun e => Region.binds .any e).map (·.on)
  | none => []

def addAll (xs acc : List Nat) : List Nat := xs.foldl (fun a x => addName x a) acc

/-- What surely stands ahead of each of the first n operations. -/
def aheads (ops : Array Oper) : Nat → List (List Nat)
  | 0 => []
  | n + 1 =>
    let l := aheads ops n
    l ++ [(edges ops n).foldl (fun acc j => addAll (l.getD j []) (addName j acc)) []]

/-- Each operation of an order stands behind what it must, and may come up ahead of the rest. -/
def orderOK (X : Ctx) (ops : Array Oper) (l : List (List Nat)) : List Nat → List Nat → Bool
  | _, [] => true
  | done, i :: rest =>
    match ops[i]? with
    | none => false
    | some o =>
      (match o.op with | .select .. => false | _ => true) &&
      o.after.toList.all (fun e => !Region.binds .any e || done.contains e.on) &&
      (done.all fun j => match ops[j]? with
        | none => true
        | some t => (l.getD i []).contains j || indep X ops t o) && orderOK X ops l (i :: done) rest

def isCover (n : Nat) (p : List Nat) : Bool := (List.range n).isPerm p

/-- An order in which what puts memory behind the rest comes late. -/
def sched (X : Ctx) (ops : Array Oper) : Nat → List Nat → List Nat → List Nat
  | 0, rem, _ => rem
  | n + 1, rem, done =>
    let ready := rem.filter fun i => (edges ops i).all done.contains
    match ready.find? (fun i => match ops[i]? with | some o => (match clsOf X o with | .pure | .read => true | _ => false) | none => false) with
    | some i => i :: sched X ops n (rem.filter fun j => !Nat.beq j i) (i :: done)
    | none => match ready with
      | i :: _ => i :: sched X ops n (rem.filter fun j => !Nat.beq j i) (i :: done)
      | [] => rem

/-- The order in which a drawn region is gone through. -/
def permOf (X : Ctx) (ops : Array Oper) : Option (List Nat) :=
  let l := aheads ops ops.size
  match orderOK X ops l [] (List.range ops.size) with
  | true => some (List.range ops.size)
  | false =>
    let p := sched X ops ops.size (List.range ops.size) []
    match isCover ops.size p && orderOK X ops l [] p with
    | true => some p
    | false => none

def evOps {R : Type} (X : Ctx) (ops : List Oper) : List Oper → St → (St → Tr R) → Tr R
  | [], s, K => K s
  | o :: rest, s, K =>
    match guardOf ops o with
    | none => (stepV X s o).bind fun p => evOps X ops rest (s.put o.dst p.1 p.2) K
    | some (some t, want) =>
      match s.env.getD t .top with
      | .bool b =>
        let on := fun (b' : Bool) =>
          let s' : St := { s with env := s.env.set t (.bool b') }
          match b' == want with
          | true => (stepV X s' o).bind fun p => evOps X ops rest (s'.put o.dst p.1 p.2) K
          | false => evOps X ops rest (s'.put o.dst (.lit undef) s'.st) K
        .br b (on true) (on false)
      | .lit (.tuple _) => evOps X ops rest (s.put o.dst (.lit undef) s.st) K
      | _ => .no
    | some (none, _) => .no

/-! ### Code -/
inductive Ex where
  | normal
  | exit (id : Nat)
  | ret

def nloops : Code → Nat
  | .seq a b => nloops a + nloops b
  | .cond _ a b => nloops a + nloops b
  | .block _ c => nloops c
  | .scope c => nloops c
  | .loop c => nloops c + 1
  | _ => 0

def evCode {R : Type} (X : Ctx) (L : Nat → St → Tr (Ex × St)) : Code → Nat → St → (Ex → St → Tr R) → Tr R
  | .skip, _, s, K => K .normal s
  | .label _, _, s, K => K .normal s
  | .region _ ops draw, _, s, K =>
    match draw with
    | true => match permOf X ops with
      | none => .no
      | some p => evOps X ops.toList (p.filterMap fun i => ops[i]?) s fun s => K .normal s
    | false => evOps X ops.toList ops.toList s fun s => K .normal s
  | .seq a b, n, s, K => evCode X L a n s fun e s1 =>
    match e with
    | .normal => evCode X L b (n + nloops a) s1 K
    | e => K e s1
  | .cond c a b, n, s, K =>
    match evO X.G s.env c with
    | .bool x => Tr.br x (evCode X L a n s K) (evCode X L b (n + nloops a) s K)
    | _ => .no
  | .block id c, n, s, K => evCode X L c n s fun e s1 =>
    match e with
    | .exit id' => match id' == id with | true => K .normal s1 | false => K (.exit id') s1
    | e => K e s1
  | .scope c, n, s, K => evCode X L c n s K
  | .loop _, n, s, K => (L n s).bind fun p => K p.1 p.2
  | .exit id, _, s, K => K (.exit id) s
  | .ret, _, s, K => K .ret s
  | _, _, _, _ => .no

/-- A function's result, told of its frame. -/
def resV (P : Program) (s : St) : List ResultVar → Tr (List AV)
  | [] => .ret []
  | .tmp t :: r => (resV P s r).map (s.env.getD t .top :: ·)
  | .cell a t :: r => (loadV P s.st t (s.env.getD a .top)).bind fun v => (resV P s r).map (v :: ·)

def oneOf : List AV → AV
  | [v] => v
  | vs => .tup vs

/-- The contents of the first n blocks. -/
def firstOf (st : Store) : Nat → List AV
  | 0 => []
  | n + 1 => firstOf st n ++ (match st[n]? with | some (.cells cs) => cs | _ => [])

/-- Variables that were given keep their names; the other first names are given up. -/
def startNames (ks : List Bool) (st : Store) : List Nat := mapI (fun l b => if b then l else st.length + ks.length + l) 0 ks

/-- A store's part that hangs on the variables that were given and on these values. -/
def canonF (ks : List Bool) (roots : List AV) (st : Store) : List AV × Store :=
  let names := (firstOf st ks.length ++ roots).foldl (visit st 12) (startNames ks st)
  (roots.map (ren (place names) 8), names.map (fun l => renB (place names) (st.getD l .dead)))

/-- What a function hands back: its result, the variables that it was given, and what hangs on them. -/
def fin (ks : List Bool) (vs : List AV) (st : Store) : List AV × Store :=
  let a := retires st vs
  canonF ks a.1 a.2

/-- Which blocks are variables. -/
def cellsOf (st : Store) : List Bool := st.map fun b => isCells (some b)

/-- The blocks that were variables are variables. -/
def keptCells (st st' : Store) : Bool := (List.range st.length).all fun l => !isCells st[l]? || isCells st'[l]?

def evFn (X : Ctx) (L : Nat → St → Tr (Ex × St)) (fn : Func) (args : List AV) (st : Store) : Tr (AV × Store) :=
  match fn.body with
  | none => .no
  | some c =>
    evCode X L c 0 { env := args ++ List.replicate (fn.ntmps - args.length) (.lit undef), st := st } fun e s =>
      match e with
      | .exit _ => .no
      | _ => (resV X.P s fn.results.toList).bind fun vs =>
        let r := fin (cellsOf st) vs s.st
        match keptCells st r.2 with
        | true => .ret (oneOf r.1, r.2)
        | false => .no

/-- A state at a loop's head: what is not asked for any more is struck. -/
def mask (ks : List Bool) (live : List Tmp) (s : St) : St :=
  let c := canonF ks (live.map fun t => s.env.getD t .top) s.st
  { env := (List.range s.env.length).map fun t => match place live t with | some j => c.1.getD j .top | none => .top, st := c.2 }

/-- The n-th loop's body in a piece of code. -/
def loopAt : Code → Nat → Option Code
  | .seq a b, n => if n < nloops a then loopAt a n else loopAt b (n - nloops a)
  | .cond _ a b, n => if n < nloops a then loopAt a n else loopAt b (n - nloops a)
  | .block _ c, n => loopAt c n
  | .scope c, n => loopAt c n
  | .loop c, 0 => some c
  | .loop c, n + 1 => loopAt c n
  | _, _ => none

end Go.Abs
