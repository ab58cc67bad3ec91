/- fields.Maker: gather, Take, and the small ones. (under way) -/
import Derived.Test.YtmdgkchphmncpaaDoorF05
import Derived.Test.YtmdgkchphmncpaaDoorAbs27
namespace Go.Proofs.YtmdgkchphmncpaaDoor
open Go Go.Abs
set_option maxRecDepth 100000

def gs1 (e1 : Bool) (m : Mk) : Int × Mk := cond e1 (beginE m, beginM m) (0, m)
def gs2 (e2 : Bool) (eb : Int) (p : Int × Mk) : Int × Mk := cond (decide (p.1 = 0)) (cond e2 (addE p.2, addM eb p.2) p) p
def gs3 (e3 : Bool) (p : Int × Mk) : Int × Mk := cond (decide (p.1 = 0)) (cond e3 (nextE p.2, putM p.2) p) p
def gs4 (e4 : Bool) (p : Int × Mk) : Int × Mk := cond (decide (p.1 = 0)) (cond e4 (lineE p.2, putM p.2) p) p
def gath (e1 e2 e3 e4 : Bool) (eb : Int) (m : Mk) : Int × Mk := gs4 e4 (gs3 e3 (gs2 e2 eb (gs1 e1 m)))
def room (m : Mk) : Bool := decide (m.fl.length + 1 ≤ LIM) && decide (m.rc.length + 2 ≤ LIM)

theorem g3_eq (e4 : Bool) (f : Int) (m : Mk) (h : m.rc.length + 1 ≤ LIM) : g3 e4 f m = some (.int .i64 (gs4 e4 (f, m)).1, (gs4 e4 (f, m)).2.outSt) := by
  unfold g3 gs4
  cases decide (f = 0) <;> cases e4 <;> simp [h]
theorem g2_eq (e3 e4 : Bool) (f : Int) (m : Mk) (h : m.rc.length + 2 ≤ LIM) : g2 e3 e4 f m = some (.int .i64 (gs4 e4 (gs3 e3 (f, m))).1, (gs4 e4 (gs3 e3 (f, m))).2.outSt) := by
  unfold g2 gs3
  have h1 : m.rc.length + 1 ≤ LIM := by omega
  have h3 : (putM m).rc.length + 1 ≤ LIM := by simp [putM]; omega
  cases decide (f = 0) <;> cases e3 <;> simp [g3_eq _ _ _ h1, g3_eq _ _ _ h3, h1]
theorem g1_eq (e2 e3 e4 : Bool) (eb f : Int) (m : Mk) (h : m.fl.length + 1 ≤ LIM) (h2 : m.rc.length + 2 ≤ LIM) : g1 e2 e3 e4 eb f m = some (.int .i64 (gs4 e4 (gs3 e3 (gs2 e2 eb (f, m)))).1, (gs4 e4 (gs3 e3 (gs2 e2 eb (f, m)))).2.outSt) := by
  unfold g1 gs2
  have h3 : (addM eb m).rc.length + 2 ≤ LIM := h2
  cases decide (f = 0) <;> cases e2 <;> simp [g2_eq _ _ _ _ h2, g2_eq _ _ _ _ h3, h]

noncomputable def gatherC : Con where
  spec := fun args st =>
    match args, getMk st with
    | [.ptr 0 0, .agg [.bool e1, .bool e2, .bool e3, .bool e4, .bool _, .int .u8 eb]], some m => .need (room m) (.ret (.int .i64 (gath e1 e2 e3 e4 eb m).1, (gath e1 e2 e3 e4 eb m).2.outSt))
    | _, _ => .no
  quiet := false
theorem okGather : Con.ok Tryd.prog G0 47 gatherC :=
  (add_spec ok2 hm (con := gatherC) Tryd.func47 (by rfl) (by kernel_rfl) noL (fun _ => noL_ok) fun args st r h => by
    unfold gatherC at h
    dsimp only at h
    split at h
    · rename_i e1 e2 e3 e4 _ eb m hm'
      obtain ⟨h1, h2⟩ := need_get h
      obtain rfl := getMk_ok hm'
      simp only [room, Bool.and_eq_true, decide_eq_true_eq] at h1
      rw [gather_ev, ← ret_get h2]
      unfold gath gs1
      cases e1 <;> simp only [cond_true, cond_false]
      · exact g1_eq _ _ _ _ _ m h1.1 h1.2
      · exact g1_eq _ _ _ _ _ (beginM m) h1.1 h1.2
    · exact (no_get h).elim).1

noncomputable def l3 : List (Nat × Con) := [(47, gatherC)]
theorem ok3 : AllOK Tryd.prog G0 l3 := ⟨okGather, trivial⟩

def Mk.outR (m : Mk) (r : List (List UInt8)) : Store := [m.cells 3 4, .dead, .dead, .row (.int .u8) m.fl, .row .str m.rc, .row .str r]
def tkR (m : Mk) (r : List (List UInt8)) (ok : Bool) (f : Int) : Option (AV × Store) := some (.tup [.whole 5, .bool ok, .int .i64 f], m.outR r)
def kT (e5 : Bool) (m : Mk) : Option (AV × Store) :=
  cond (!decide (m.sp = 0)) (tkR m [] false m.sp)
    (cond (!e5) (tkR m [] false m.sp)
      (cond (decide (m.ct = 0)) (tkR { m with rc := [], wd := m.rc.length, ct := IntKind.i64.wrap (m.ct + 1) } m.rc true 0) (tkR { m with rc := [], ct := IntKind.i64.wrap (m.ct + 1) } m.rc true 0)))
theorem take_ev (m : Mk) (e1 e2 e3 e4 e5 : Bool) (eb : Int) : (evFn (ctx Tryd.prog G0 l3) noL Tryd.f33 [.ptr 0 0, .agg [.bool e1, .bool e2, .bool e3, .bool e4, .bool e5, .int .u8 eb]] m.inSt).get =
    cond (decide (m.sp = 0)) (cond (room m) (kT e5 { (gath e1 e2 e3 e4 eb m).2 with sp := (gath e1 e2 e3 e4 eb m).1 }) none) (kT e5 m) := by kernel_rfl

/-- What Take makes of the maker; the record, whether there is one, its error. -/
def takeT (e5 : Bool) (m : Mk) : Mk × List (List UInt8) × Bool × Int :=
  cond (!decide (m.sp = 0)) (m, [], false, m.sp)
    (cond (!e5) (m, [], false, m.sp)
      ({ m with rc := [], wd := cond (decide (m.ct = 0)) m.rc.length m.wd, ct := IntKind.i64.wrap (m.ct + 1) }, m.rc, true, 0))
def takeP (e1 e2 e3 e4 e5 : Bool) (eb : Int) (m : Mk) : Mk × List (List UInt8) × Bool × Int :=
  takeT e5 (cond (decide (m.sp = 0)) { (gath e1 e2 e3 e4 eb m).2 with sp := (gath e1 e2 e3 e4 eb m).1 } m)
theorem kT_eq (e5 : Bool) (m : Mk) : kT e5 m = tkR (takeT e5 m).1 (takeT e5 m).2.1 (takeT e5 m).2.2.1 (takeT e5 m).2.2.2 := by
  unfold kT takeT
  cases decide (m.sp = 0) <;> cases e5 <;> cases decide (m.ct = 0) <;> rfl

noncomputable def takeC : Con where
  spec := fun args st =>
    match args, getMk st with
    | [.ptr 0 0, .agg [.bool e1, .bool e2, .bool e3, .bool e4, .bool e5, .int .u8 eb]], some m => .need (room m)
        (.ret (.tup [.whole 5, .bool (takeP e1 e2 e3 e4 e5 eb m).2.2.1, .int .i64 (takeP e1 e2 e3 e4 e5 eb m).2.2.2], (takeP e1 e2 e3 e4 e5 eb m).1.outR (takeP e1 e2 e3 e4 e5 eb m).2.1))
    | _, _ => .no
  quiet := false
theorem okTake : Con.ok Tryd.prog G0 33 takeC :=
  (add_spec ok3 hm (con := takeC) Tryd.func33 (by rfl) (by kernel_rfl) noL (fun _ => noL_ok) fun args st r h => by
    unfold takeC at h
    dsimp only at h
    split at h
    · rename_i e1 e2 e3 e4 e5 eb m hm'
      obtain ⟨h1, h2⟩ := need_get h
      obtain rfl := getMk_ok hm'
      rw [take_ev, ← ret_get h2, h1, kT_eq, kT_eq]
      unfold takeP
      cases decide (m.sp = 0) <;> rfl
    · exact (no_get h).elim).1

/-! ### The limits, a new maker -/
def fitsL (a b c : Int) : Bool := decide (1 ≤ a ∧ 1 ≤ b ∧ 1 ≤ c ∧ a ≤ 2147483648 ∧ b ≤ 2147483648 ∧ c ≤ 2147483648)
theorem limits_ev (a b c : Int) (u : Bool) : (evFn (ctx Tryd.prog G0 []) noL Tryd.f43 [.agg [.int .i64 a, .int .i64 b, .int .i64 c, .bool u]] []).get =
  (cond (decide ((if false = true then if (if a < b then b else a) < c then c else if a < b then b else a else if c < if b < a then b else a then c else if b < a then b else a) < 1))
   (some (AV.int IntKind.i64 2, []))
   (cond (decide (2147483648 < if true = true then if (if a < b then b else a) < c then c else if a < b then b else a else if c < if b < a then b else a then c else if b < a then b else a))
    (some (AV.int IntKind.i64 2, []))
    (some (AV.int IntKind.i64 0, [])))) := by kernel_rfl
noncomputable def limC : Con where
  spec := fun args st =>
    match args, st with
    | [.agg [.int .i64 a, .int .i64 b, .int .i64 c, .bool _]], [] => .ret (.int .i64 (cond (fitsL a b c) 0 2), [])
    | _, _ => .no
  quiet := true
theorem okLim : Con.ok Tryd.prog G0 43 limC :=
  (add_spec (l := []) trivial hm (con := limC) Tryd.func43 (by rfl) (by kernel_rfl) noL (fun _ => noL_ok) fun args st r h => by
    unfold limC at h
    dsimp only at h
    split at h
    · rename_i a b c u
      rw [limits_ev, ← ret_get h]
      by_cases hl : fitsL a b c = true
      · rw [hl]
        simp only [fitsL, decide_eq_true_eq] at hl
        rw [decide_eq_false, decide_eq_false]
        · rfl
        · simp only [if_true]; split <;> split <;> omega
        · simp only [Bool.false_eq_true, if_false]; split <;> split <;> omega
      · have hl' : fitsL a b c = false := by simpa using hl
        rw [hl']
        simp only [fitsL, decide_eq_true_eq] at hl
        by_cases h1 : (if false = true then if (if a < b then b else a) < c then c else if a < b then b else a else if c < if b < a then b else a then c else if b < a then b else a) < 1
        · rw [decide_eq_true h1]; rfl
        · rw [decide_eq_false h1, decide_eq_true]
          · rfl
          · simp only [if_true]
            simp only [Bool.false_eq_true, if_false] at h1
            split at h1 <;> split at h1 <;> split <;> split <;> omega
    · exact (no_get h).elim).1
noncomputable def l4 : List (Nat × Con) := [(43, limC)]
theorem ok4 : AllOK Tryd.prog G0 l4 := ⟨okLim, trivial⟩
theorem new_ev (a b c : Int) (u : Bool) : (evFn (ctx Tryd.prog G0 l4) noL Tryd.f29 [.agg [.int .i64 a, .int .i64 b, .int .i64 c, .bool u]] []).get =
    cond (!decide ((cond (fitsL a b c) 0 2 : Int) = 0)) (some (.tup [.lit (.pointer none), .int .i64 (cond (fitsL a b c) 0 2)], []))
      (some (.tup [.ptr 0 0, .int .i64 0], (⟨a, b, c, u, [], [], 0, 0, 0, 0⟩ : Mk).inSt)) := by kernel_rfl
def newM (a b c : Int) (u : Bool) : Mk := ⟨a, b, c, u, [], [], 0, 0, 0, 0⟩
noncomputable def newC : Con where
  spec := fun args st =>
    match args, st with
    | [.agg [.int .i64 a, .int .i64 b, .int .i64 c, .bool u]], [] => .br (fitsL a b c) (.ret (.tup [.ptr 0 0, .int .i64 0], (newM a b c u).inSt)) (.ret (.tup [.lit (.pointer none), .int .i64 2], []))
    | _, _ => .no
  quiet := false
theorem okNew : Con.ok Tryd.prog G0 29 newC :=
  (add_spec ok4 hm (con := newC) Tryd.func29 (by rfl) (by kernel_rfl) noL (fun _ => noL_ok) fun args st r h => by
    unfold newC at h
    dsimp only at h
    split at h
    · rename_i a b c u
      rw [new_ev, ← h]
      cases fitsL a b c <;> rfl
    · exact (no_get h).elim).1
end Go.Proofs.YtmdgkchphmncpaaDoor
