/- fields.Maker: what its functions do. (under way) -/
import Derived.Test.YtmdgkchphmncpaaDoorG
namespace Go.Proofs.YtmdgkchphmncpaaDoor
open Go Go.Abs

/-- A maker. -/
structure Mk where
  a : Int
  b : Int
  c : Int
  u : Bool
  fl : List Int
  rc : List (List UInt8)
  bg : Int
  ct : Int
  wd : Int
  sp : Int

def Mk.cells (m : Mk) (i j : Nat) : Blk := .cells [.int .i64 m.a, .int .i64 m.b, .int .i64 m.c, .bool m.u, .whole i, .whole j, .int .i64 m.bg, .int .i64 m.ct, .int .i64 m.wd, .int .i64 m.sp]
def Mk.inSt (m : Mk) : Store := [m.cells 1 2, .row (.int .u8) m.fl, .row .str m.rc]
def Mk.outSt (m : Mk) : Store := [m.cells 3 4, .dead, .dead, .row (.int .u8) m.fl, .row .str m.rc]

/-- The maker that a store tells. -/
def getMk : Store → Option Mk
  | [.cells [.int .i64 a, .int .i64 b, .int .i64 c, .bool u, .whole 1, .whole 2, .int .i64 bg, .int .i64 ct, .int .i64 wd, .int .i64 sp], .row (.int .u8) fl, .row .str rc] => some ⟨a, b, c, u, fl, rc, bg, ct, wd, sp⟩
  | _ => none

theorem getMk_ok {st : Store} {m : Mk} (h : getMk st = some m) : st = m.inSt := by
  unfold getMk at h
  split at h
  · cases h; rfl
  · cases h

/-- A contract on a maker and no more: when it holds, what it answers, what the maker is then. -/
def onMk (need : Mk → Bool) (ans : Mk → AV) (next : Mk → Mk) : Con where
  spec := fun args st =>
    match args, getMk st with
    | [.ptr 0 0], some m => .need (need m) (.ret (ans m, (next m).outSt))
    | _, _ => .no
  quiet := false

theorem onMk_get {need : Mk → Bool} {ans : Mk → AV} {next : Mk → Mk} {args : List AV} {st : Store} {r : AV × Store} (h : ((onMk need ans next).spec args st).get = some r) :
    ∃ m : Mk, args = [.ptr 0 0] ∧ st = m.inSt ∧ need m = true ∧ r = (ans m, (next m).outSt) := by
  unfold onMk at h
  dsimp only at h
  split at h
  · rename_i m hm
    obtain ⟨h1, h2⟩ := need_get h
    exact ⟨m, rfl, getMk_ok hm, h1, (ret_get h2).symm⟩
  · exact (no_get h).elim

set_option maxRecDepth 100000

theorem begin_ev (m : Mk) : (evFn (ctx Tryd.prog G0 []) noL Tryd.f57 [.ptr 0 0] m.inSt).get =
    cond (decide (m.c ≤ m.bg)) (some (.int .i64 9, m.outSt)) (some (.int .i64 0, { m with bg := IntKind.i64.wrap (m.bg + 1) : Mk }.outSt)) := by kernel_rfl
theorem add_ev (m : Mk) (eb : Int) : (evFn (ctx Tryd.prog G0 []) noL Tryd.f58 [.ptr 0 0, .int .u8 eb] m.inSt).get =
    cond (decide (m.a ≤ m.fl.length)) (some (.int .i64 7, m.outSt)) (cond (decide (m.fl.length + 1 ≤ LIM)) (some (.int .i64 0, { m with fl := m.fl ++ [eb] : Mk }.outSt)) none) := by kernel_rfl
theorem put_ev (m : Mk) : (evFn (ctx Tryd.prog G0 []) noL Tryd.f63 [.ptr 0 0] m.inSt).get =
    cond (decide (m.rc.length + 1 ≤ LIM)) (cond (decide ((0 : Int) ≤ 0) && decide ((0 : Int) ≤ m.fl.length)) (some (.tup [], { m with rc := m.rc ++ [toStr m.fl], fl := List.take 0 (List.drop 0 m.fl) : Mk }.outSt)) none) none := by kernel_rfl
/-! The contracts. -/
def beginE (m : Mk) : Int := cond (decide (m.c ≤ m.bg)) 9 0
def beginM (m : Mk) : Mk := { m with bg := cond (decide (m.c ≤ m.bg)) m.bg (IntKind.i64.wrap (m.bg + 1)) }
def addE (m : Mk) : Int := cond (decide (m.a ≤ m.fl.length)) 7 0
def addM (eb : Int) (m : Mk) : Mk := { m with fl := cond (decide (m.a ≤ m.fl.length)) m.fl (m.fl ++ [eb]) }
def putM (m : Mk) : Mk := { m with rc := m.rc ++ [toStr m.fl], fl := [] }


theorem uniform_ev (m : Mk) : (evFn (ctx Tryd.prog G0 []) noL Tryd.f64 [.ptr 0 0] m.inSt).get =
    cond m.u (some (.bool (decide (0 < m.ct)), m.outSt)) (some (.bool false, m.outSt)) := by kernel_rfl

noncomputable def beginC : Con := onMk (fun _ => true) (fun m => .int .i64 (beginE m)) beginM
theorem ok22 : AllOK Tryd.prog G0 [(57, beginC)] :=
  add_spec (l := []) trivial hm (con := beginC) Tryd.func57 (by rfl) (by kernel_rfl) noL (fun _ => noL_ok) fun args st r h => by
    obtain ⟨m, rfl, rfl, _, rfl⟩ := onMk_get h
    rw [begin_ev]
    unfold beginE beginM
    cases decide (m.c ≤ m.bg) <;> rfl

noncomputable def addC : Con where
  spec := fun args st =>
    match args, getMk st with
    | [.ptr 0 0, .int .u8 eb], some m => .need (decide (m.fl.length + 1 ≤ LIM)) (.ret (.int .i64 (addE m), (addM eb m).outSt))
    | _, _ => .no
  quiet := false
theorem okAdd : Con.ok Tryd.prog G0 58 addC :=
  (add_spec (l := []) trivial hm (con := addC) Tryd.func58 (by rfl) (by kernel_rfl) noL (fun _ => noL_ok) fun args st r h => by
    unfold addC at h
    dsimp only at h
    split at h
    · rename_i eb m hm'
      obtain ⟨h1, h2⟩ := need_get h
      obtain rfl := getMk_ok hm'
      rw [add_ev, ← ret_get h2, h1]
      unfold addE addM
      cases decide (m.a ≤ m.fl.length) <;> rfl
    · exact (no_get h).elim).1
noncomputable def putC : Con := onMk (fun m => decide (m.rc.length + 1 ≤ LIM)) (fun _ => .tup []) putM
theorem okPut : Con.ok Tryd.prog G0 63 putC :=
  (add_spec (l := []) trivial hm (con := putC) Tryd.func63 (by rfl) (by kernel_rfl) noL (fun _ => noL_ok) fun args st r h => by
    obtain ⟨m, rfl, rfl, h1, rfl⟩ := onMk_get h
    have h2 : decide ((0 : Int) ≤ m.fl.length) = true := by simp
    rw [put_ev, h1, h2]
    rfl).1
noncomputable def uniC : Con := onMk (fun _ => true) (fun m => .bool (cond m.u (decide (0 < m.ct)) false)) id
theorem okUni : Con.ok Tryd.prog G0 64 uniC :=
  (add_spec (l := []) trivial hm (con := uniC) Tryd.func64 (by rfl) (by kernel_rfl) noL (fun _ => noL_ok) fun args st r h => by
    obtain ⟨m, rfl, rfl, h1, rfl⟩ := onMk_get h
    rw [uniform_ev]
    cases hu : m.u <;> rfl).1

noncomputable def l1 : List (Nat × Con) := [(57, beginC), (58, addC), (63, putC), (64, uniC)]
theorem ok1 : AllOK Tryd.prog G0 l1 := ⟨ok22.1, okAdd, okPut, okUni, trivial⟩
theorem next_ev (m : Mk) : (evFn (ctx Tryd.prog G0 l1) noL Tryd.f59 [.ptr 0 0] m.inSt).get =
    cond (decide (m.rc.length + 1 ≤ LIM))
      (cond (decide (m.b ≤ (m.rc ++ [toStr m.fl]).length)) (some (.int .i64 8, (putM m).outSt))
        (cond (cond m.u (decide (0 < m.ct)) false)
          (cond (decide (((m.rc ++ [toStr m.fl]).length : Int) = m.wd)) (some (.int .i64 10, (putM m).outSt)) (some (.int .i64 0, (putM m).outSt)))
          (some (.int .i64 0, (putM m).outSt)))) none := by kernel_rfl
theorem line_ev (m : Mk) : (evFn (ctx Tryd.prog G0 l1) noL Tryd.f60 [.ptr 0 0] m.inSt).get =
    cond (decide (m.rc.length + 1 ≤ LIM))
        (cond (cond m.u (decide (0 < m.ct)) false)
          (cond (!decide (((m.rc ++ [toStr m.fl]).length : Int) = m.wd)) (some (.int .i64 10, (putM m).outSt)) (some (.int .i64 0, (putM m).outSt)))
          (some (.int .i64 0, (putM m).outSt))) none := by kernel_rfl

def strict (m : Mk) : Bool := cond m.u (decide (0 < m.ct)) false
def wide1 (m : Mk) : Int := (m.rc ++ [toStr m.fl]).length
def nextE (m : Mk) : Int := cond (decide (m.b ≤ wide1 m)) 8 (cond (strict m) (cond (decide (wide1 m = m.wd)) 10 0) 0)
def lineE (m : Mk) : Int := cond (strict m) (cond (!decide (wide1 m = m.wd)) 10 0) 0
noncomputable def nextC : Con := onMk (fun m => decide (m.rc.length + 1 ≤ LIM)) (fun m => .int .i64 (nextE m)) putM
theorem okNext : Con.ok Tryd.prog G0 59 nextC :=
  (add_spec ok1 hm (con := nextC) Tryd.func59 (by rfl) (by kernel_rfl) noL (fun _ => noL_ok) fun args st r h => by
    obtain ⟨m, rfl, rfl, h1, rfl⟩ := onMk_get h
    rw [next_ev, h1]
    unfold nextE strict wide1
    cases decide (m.b ≤ ((m.rc ++ [toStr m.fl]).length : Int)) <;> cases m.u <;> cases decide (0 < m.ct) <;> cases decide (((m.rc ++ [toStr m.fl]).length : Int) = m.wd) <;> rfl).1
noncomputable def lineC : Con := onMk (fun m => decide (m.rc.length + 1 ≤ LIM)) (fun m => .int .i64 (lineE m)) putM
theorem okLine : Con.ok Tryd.prog G0 60 lineC :=
  (add_spec ok1 hm (con := lineC) Tryd.func60 (by rfl) (by kernel_rfl) noL (fun _ => noL_ok) fun args st r h => by
    obtain ⟨m, rfl, rfl, h1, rfl⟩ := onMk_get h
    rw [line_ev, h1]
    unfold lineE strict wide1
    cases m.u <;> cases decide (0 < m.ct) <;> cases decide (((m.rc ++ [toStr m.fl]).length : Int) = m.wd) <;> rfl).1
noncomputable def l2 : List (Nat × Con) := [(57, beginC), (58, addC), (59, nextC), (60, lineC)]
theorem ok2 : AllOK Tryd.prog G0 l2 := ⟨ok22.1, okAdd, okNext, okLine, trivial⟩

def g3 (e4 : Bool) (f : Int) (m : Mk) : Option (AV × Store) :=
  cond (decide (f = 0)) (cond e4 (cond (decide (m.rc.length + 1 ≤ LIM)) (some (.int .i64 (lineE m), (putM m).outSt)) none) (some (.int .i64 f, m.outSt))) (some (.int .i64 f, m.outSt))
def g2 (e3 e4 : Bool) (f : Int) (m : Mk) : Option (AV × Store) :=
  cond (decide (f = 0)) (cond e3 (cond (decide (m.rc.length + 1 ≤ LIM)) (g3 e4 (nextE m) (putM m)) none) (g3 e4 f m)) (g3 e4 f m)
def g1 (e2 e3 e4 : Bool) (eb : Int) (f : Int) (m : Mk) : Option (AV × Store) :=
  cond (decide (f = 0)) (cond e2 (cond (decide (m.fl.length + 1 ≤ LIM)) (g2 e3 e4 (addE m) (addM eb m)) none) (g2 e3 e4 f m)) (g2 e3 e4 f m)
theorem gather_ev (m : Mk) (e1 e2 e3 e4 e5 : Bool) (eb : Int) : (evFn (ctx Tryd.prog G0 l2) noL Tryd.f47 [.ptr 0 0, .agg [.bool e1, .bool e2, .bool e3, .bool e4, .bool e5, .int .u8 eb]] m.inSt).get =
    cond e1 (g1 e2 e3 e4 eb (beginE m) (beginM m)) (g1 e2 e3 e4 eb 0 m) := by kernel_rfl
end Go.Proofs.YtmdgkchphmncpaaDoor
