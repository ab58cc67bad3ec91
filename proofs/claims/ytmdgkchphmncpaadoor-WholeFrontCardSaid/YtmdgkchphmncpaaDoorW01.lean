/- dialect.Check, scan.Step and Close: what they do. Conditions: none. -/
import Derived.Test.YtmdgkchphmncpaaDoorF06
import Derived.Test.YtmdgkchphmncpaaDoorAbs30
namespace Go.Proofs.YtmdgkchphmncpaaDoor
open Go Go.Abs
set_option maxRecDepth 100000

def bo (b : Bool) : Option (AV × Store) := some (.bool b, [])
def no1 (n : Int) : Option (AV × Store) := some (.int .i64 n, [])
/-! ### Dialects -/
def plainB (b : Int) : Bool := decide (b < 128) && (!decide (b = 13) && !decide (b = 10))
theorem plain_ev (b : Int) : (evFn (ctx Tryd.prog G0 []) noL Tryd.f42 [.int .u8 b] []).get =
    cond (decide (b < 128)) (cond (!decide (b = 13)) (bo (!decide (b = 10))) (bo false)) (bo false) := by kernel_rfl
noncomputable def plainC : Con where
  spec := fun args st => match args, st with | [.int .u8 b], [] => .ret (.bool (plainB b), []) | _, _ => .no
  quiet := true
theorem okPlain : Con.ok Tryd.prog G0 42 plainC :=
  loop_spec (l := []) trivial hm Tryd.func42 (by rfl) (by kernel_rfl) fun args st r h => by
    unfold plainC at h
    dsimp only at h
    split at h
    · rename_i b
      refine ⟨noL, noL_ok, ?_⟩
      rw [plain_ev, ← ret_get h]; unfold plainB
      cases decide (b < 128) <;> cases decide (b = 13) <;> rfl
    · exact (no_get h).elim
noncomputable def d1 : List (Nat × Con) := [(42, plainC)]
theorem okd1 : AllOK Tryd.prog G0 d1 := ⟨okPlain, trivial⟩
def rightD (del q e : Int) : Bool := plainB del && (plainB q && (!decide (del = q) && (!decide (e < 1) && !decide (3 < e))))
theorem check_ev (del q e : Int) : (evFn (ctx Tryd.prog G0 d1) noL Tryd.f28 [.agg [.int .u8 del, .int .u8 q, .int .i64 e]] []).get =
    cond (!plainB del) (no1 1) (cond (!plainB q) (no1 1) (cond (decide (del = q)) (no1 1) (cond (decide (e < 1)) (no1 1) (cond (decide (3 < e)) (no1 1) (no1 0))))) := by kernel_rfl
noncomputable def checkC : Con where
  spec := fun args st => match args, st with | [.agg [.int .u8 del, .int .u8 q, .int .i64 e]], [] => .ret (.int .i64 (cond (rightD del q e) 0 1), []) | _, _ => .no
  quiet := true
theorem okCheck : Con.ok Tryd.prog G0 28 checkC :=
  loop_spec okd1 hm Tryd.func28 (by rfl) (by kernel_rfl) fun args st r h => by
    unfold checkC at h
    dsimp only at h
    split at h
    · rename_i del q e
      refine ⟨noL, noL_ok, ?_⟩
      rw [check_ev, ← ret_get h]; unfold rightD
      cases plainB del <;> cases plainB q <;> cases decide (del = q) <;> cases decide (e < 1) <;> cases decide (3 < e) <;> rfl
    · exact (no_get h).elim

/-! ### Events -/
abbrev Evt : Type := Bool × Bool × Bool × Bool × Bool × Int
def evAV (e : Evt) : AV := .agg [.bool e.1, .bool e.2.1, .bool e.2.2.1, .bool e.2.2.2.1, .bool e.2.2.2.2.1, .int .u8 e.2.2.2.2.2]
def ev0 : Evt := (false, false, false, false, false, 0)
def r3v (p : Evt × Int × Int) : Option (AV × Store) := some (.tup [evAV p.1, .int .i64 p.2.1, .int .i64 p.2.2], [])
def pendP (st b : Int) : Evt × Int × Int := cond (!decide (b = 10)) (ev0, 0, 6) ((false, false, false, false, decide (st = 5), 0), 0, 0)
theorem pend_ev (st b : Int) : (evFn (ctx Tryd.prog G0 []) noL Tryd.f45 [.int .i64 st, .int .u8 b] []).get =
    cond (!decide (b = 10)) (r3v (ev0, 0, 6)) (r3v ((false, false, false, false, decide (st = 5), 0), 0, 0)) := by kernel_rfl
noncomputable def pendC : Con where
  spec := fun args st => match args, st with | [.int .i64 s, .int .u8 b], [] => .ret (.tup [evAV (pendP s b).1, .int .i64 (pendP s b).2.1, .int .i64 (pendP s b).2.2], []) | _, _ => .no
  quiet := true
theorem okPend : Con.ok Tryd.prog G0 45 pendC :=
  loop_spec (l := []) trivial hm Tryd.func45 (by rfl) (by kernel_rfl) fun args st r h => by
    unfold pendC at h
    dsimp only at h
    split at h
    · rename_i s b
      refine ⟨noL, noL_ok, ?_⟩
      rw [pend_ev, ← ret_get h]; unfold pendP
      cases decide (b = 10) <;> rfl
    · exact (no_get h).elim
def endsR (st b : Int) : Evt × Int × Int :=
  cond (decide (b = 10)) ((false, false, false, !decide (st = 0), !decide (st = 0), 0), 0, 0) (cond (!decide (st = 0)) ((false, false, false, true, false, 0), 5, 0) (ev0, 6, 0))
def endsB (e b : Int) : Bool := decide (b = 13) && decide (e = 1) || decide (b = 10) && decide (e = 2)
def endsP (e st b : Int) : Evt × Int × Int := cond (endsB e b) (ev0, 0, 6) (endsR st b)
def endsRt (st b : Int) : Option (AV × Store) :=
  cond (decide (b = 10)) (r3v ((false, false, false, !decide (st = 0), !decide (st = 0), 0), 0, 0)) (cond (!decide (st = 0)) (r3v ((false, false, false, true, false, 0), 5, 0)) (r3v (ev0, 6, 0)))
def endsCD (e st b : Int) : Option (AV × Store) := cond (decide (b = 10)) (cond (decide (e = 2)) (r3v (ev0, 0, 6)) (endsRt st b)) (endsRt st b)
theorem ends_ev (del q e st b : Int) : (evFn (ctx Tryd.prog G0 []) noL Tryd.f46 [.agg [.int .u8 del, .int .u8 q, .int .i64 e], .int .i64 st, .int .u8 b] []).get =
    cond (decide (b = 13)) (cond (decide (e = 1)) (r3v (ev0, 0, 6)) (endsCD e st b)) (endsCD e st b) := by kernel_rfl
noncomputable def endsC : Con where
  spec := fun args st => match args, st with | [.agg [.int .u8 _, .int .u8 _, .int .i64 e], .int .i64 s, .int .u8 b], [] => .ret (.tup [evAV (endsP e s b).1, .int .i64 (endsP e s b).2.1, .int .i64 (endsP e s b).2.2], []) | _, _ => .no
  quiet := true
theorem okEnds : Con.ok Tryd.prog G0 46 endsC :=
  loop_spec (l := []) trivial hm Tryd.func46 (by rfl) (by kernel_rfl) fun args st r h => by
    unfold endsC at h
    dsimp only at h
    split at h
    · rename_i e s b
      refine ⟨noL, noL_ok, ?_⟩
      rw [ends_ev, ← ret_get h]; unfold endsP endsB endsR endsCD endsRt
      cases decide (b = 13) <;> cases decide (e = 1) <;> cases decide (b = 10) <;> cases decide (e = 2) <;> cases decide (s = 0) <;> rfl
    · exact (no_get h).elim
def closeP (st : Int) : Evt × Int :=
  cond (decide (st = 0)) (ev0, 0) (cond (decide (st = 3)) (ev0, 11) (cond (decide (st = 5)) (ev0, 6) (cond (decide (st = 6)) (ev0, 6) ((false, false, false, true, true, 0), 0))))
def r2v (p : Evt × Int) : Option (AV × Store) := some (.tup [evAV p.1, .int .i64 p.2], [])
theorem close_ev (st : Int) : (evFn (ctx Tryd.prog G0 []) noL Tryd.f48 [.int .i64 st] []).get =
    cond (decide (st = 0)) (r2v (ev0, 0)) (cond (decide (st = 3)) (r2v (ev0, 11)) (cond (decide (st = 5)) (cond (decide (st = 5)) (r2v (ev0, 6)) (r2v ((false, false, false, true, true, 0), 0))) (cond (decide (st = 6)) (r2v (ev0, 6)) (r2v ((false, false, false, true, true, 0), 0))))) := by kernel_rfl
noncomputable def closeC : Con where
  spec := fun args st => match args, st with | [.int .i64 s], [] => .ret (.tup [evAV (closeP s).1, .int .i64 (closeP s).2], []) | _, _ => .no
  quiet := true
theorem okClose : Con.ok Tryd.prog G0 48 closeC :=
  loop_spec (l := []) trivial hm Tryd.func48 (by rfl) (by kernel_rfl) fun args st r h => by
    unfold closeC at h
    dsimp only at h
    split at h
    · rename_i s
      refine ⟨noL, noL_ok, ?_⟩
      rw [close_ev, ← ret_get h]; unfold closeP
      cases decide (s = 0) <;> cases decide (s = 3) <;> cases decide (s = 5) <;> cases decide (s = 6) <;> rfl
    · exact (no_get h).elim

/-! ### Step -/
noncomputable def d2 : List (Nat × Con) := [(45, pendC), (46, endsC)]
theorem okd2 : AllOK Tryd.prog G0 d2 := ⟨okPend, okEnds, trivial⟩
def s7P (q st b : Int) : Evt × Int × Int :=
  cond (decide (st = 4)) (ev0, 0, 5)
  (cond (decide (b = q) && decide (st = 2)) (ev0, 0, 4)
  (cond (decide (b = q)) ((decide (st = 0), false, false, false, false, 0), 3, 0)
  ((decide (st = 0), true, false, false, false, b), 2, 0)))
def scanP (del q e st b : Int) : Evt × Int × Int :=
  cond (decide (5 ≤ st)) (pendP st b)
  (cond (decide (st = 3) && decide (b = q)) (ev0, 4, 0)
  (cond (decide (st = 3) || decide (st = 4) && decide (b = q)) ((false, true, false, false, false, b), 3, 0)
  (cond (decide (b = del)) ((decide (st = 0), false, true, false, false, 0), 1, 0)
  (cond (decide (b = 13) || decide (b = 10)) (endsP e st b) (s7P q st b)))))
def sT9 (q st b : Int) : Option (AV × Store) := cond (decide (b = q)) (r3v ((decide (st = 0), false, false, false, false, 0), 3, 0)) (r3v ((decide (st = 0), true, false, false, false, b), 2, 0))
def sT8 (q st b : Int) : Option (AV × Store) := cond (decide (b = q)) (cond (decide (st = 2)) (r3v (ev0, 0, 4)) (sT9 q st b)) (sT9 q st b)
def sT7 (q st b : Int) : Option (AV × Store) := cond (decide (st = 4)) (r3v (ev0, 0, 5)) (sT8 q st b)
def sT6 (q e st b : Int) : Option (AV × Store) := cond (decide (b = 13)) (r3v (endsP e st b)) (cond (decide (b = 10)) (r3v (endsP e st b)) (sT7 q st b))
def sT5 (del q e st b : Int) : Option (AV × Store) := cond (decide (b = del)) (r3v ((decide (st = 0), false, true, false, false, 0), 1, 0)) (sT6 q e st b)
def sT4 (del q e st b : Int) : Option (AV × Store) := cond (decide (st = 3)) (r3v ((false, true, false, false, false, b), 3, 0)) (cond (decide (st = 4)) (cond (decide (b = q)) (r3v ((false, true, false, false, false, b), 3, 0)) (sT5 del q e st b)) (sT5 del q e st b))
def sT3 (del q e st b : Int) : Option (AV × Store) := cond (decide (st = 3)) (cond (decide (b = q)) (r3v (ev0, 4, 0)) (sT4 del q e st b)) (sT4 del q e st b)
theorem step_ev (del q e st b : Int) : (evFn (ctx Tryd.prog G0 d2) noL Tryd.f32 [.agg [.int .u8 del, .int .u8 q, .int .i64 e], .int .i64 st, .int .u8 b] []).get =
    cond (decide (5 ≤ st)) (r3v (pendP st b)) (sT3 del q e st b) := by kernel_rfl
theorem sT9_eq (q st b : Int) : sT9 q st b = r3v (cond (decide (b = q)) ((decide (st = 0), false, false, false, false, 0), 3, 0) ((decide (st = 0), true, false, false, false, b), 2, 0)) := by
  unfold sT9; cases decide (b = q) <;> rfl
theorem sT7_eq (q st b : Int) : sT7 q st b = r3v (s7P q st b) := by
  unfold s7P
  unfold sT7 sT8; rw [sT9_eq]
  cases decide (st = 4) <;> cases decide (b = q) <;> cases decide (st = 2) <;> rfl
noncomputable def stepC : Con where
  spec := fun args st => match args, st with | [.agg [.int .u8 del, .int .u8 q, .int .i64 e], .int .i64 s, .int .u8 b], [] => .ret (.tup [evAV (scanP del q e s b).1, .int .i64 (scanP del q e s b).2.1, .int .i64 (scanP del q e s b).2.2], []) | _, _ => .no
  quiet := true
theorem okStep : Con.ok Tryd.prog G0 32 stepC :=
  loop_spec okd2 hm Tryd.func32 (by rfl) (by kernel_rfl) fun args st r h => by
    unfold stepC at h
    dsimp only at h
    split at h
    · rename_i del q e s b
      refine ⟨noL, noL_ok, ?_⟩
      rw [step_ev, ← ret_get h]
      show _ = r3v (scanP del q e s b)
      unfold scanP sT3 sT4 sT5 sT6
      rw [sT7_eq]
      cases decide (5 ≤ s) <;> cases decide (s = 3) <;> cases decide (b = q) <;> cases decide (s = 4) <;> cases decide (b = del) <;> cases decide (b = 13) <;> cases decide (b = 10) <;> rfl
    · exact (no_get h).elim
end Go.Proofs.YtmdgkchphmncpaaDoor
