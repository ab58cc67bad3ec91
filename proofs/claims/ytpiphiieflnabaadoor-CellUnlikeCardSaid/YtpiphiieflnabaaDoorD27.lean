/- Values and columns (cell's Right, Encode and what they call): what they do. Conditions: the table of UTF-8 is known; strconv.ErrRange, if it is known, holds an interface value. -/
import Derived.Test.YtpiphiieflnabaaDoorD26
namespace Go.Proofs.YtpiphiieflnabaaDoor
open Go Go.Abs
set_option maxRecDepth 100000
variable {e : Option Value}

def v4 (k : Int) (s : List UInt8) (n : Int) (b : Bool) : Option (AV × Store) := some (.agg [.int .i64 k, .str s, .int .i64 n, .bool b], [])
theorem text_ev (s : List UInt8) : (evFn (ctx Tryd.prog (G0 (E2 e)) []) noL Tryd.f15 [.str s] []).get = v4 1 s 0 false := by kernel_rfl
theorem int_ev (n : Int) : (evFn (ctx Tryd.prog (G0 (E2 e)) []) noL Tryd.f16 [.int .i64 n] []).get = v4 2 [] n false := by kernel_rfl
theorem bool_ev (b : Bool) : (evFn (ctx Tryd.prog (G0 (E2 e)) []) noL Tryd.f17 [.bool b] []).get = v4 3 [] 0 b := by kernel_rfl
noncomputable def textC : Con where
  spec := fun args st => match args, st with | [.str s], [] => .ret (valAV (1, s, 0, false), []) | _, _ => .no
  quiet := true
noncomputable def intC : Con where
  spec := fun args st => match args, st with | [.int .i64 n], [] => .ret (valAV (2, [], n, false), []) | _, _ => .no
  quiet := true
noncomputable def boolC : Con where
  spec := fun args st => match args, st with | [.bool b], [] => .ret (valAV (3, [], 0, b), []) | _, _ => .no
  quiet := true
theorem okText : Con.ok Tryd.prog (G0 (E2 e)) 15 textC :=
  loop_spec (l := []) trivial hm Tryd.func15 (by rfl) (by kernel_rfl) fun args st r h => by
    unfold textC at h
    dsimp only at h
    split at h
    · exact ⟨noL, noL_ok, by rw [text_ev, ← ret_get h]; rfl⟩
    · exact (no_get h).elim
theorem okInt : Con.ok Tryd.prog (G0 (E2 e)) 16 intC :=
  loop_spec (l := []) trivial hm Tryd.func16 (by rfl) (by kernel_rfl) fun args st r h => by
    unfold intC at h
    dsimp only at h
    split at h
    · exact ⟨noL, noL_ok, by rw [int_ev, ← ret_get h]; rfl⟩
    · exact (no_get h).elim
theorem okBool : Con.ok Tryd.prog (G0 (E2 e)) 17 boolC :=
  loop_spec (l := []) trivial hm Tryd.func17 (by rfl) (by kernel_rfl) fun args st r h => by
    unfold boolC at h
    dsimp only at h
    split at h
    · exact ⟨noL, noL_ok, by rw [bool_ev, ← ret_get h]; rfl⟩
    · exact (no_get h).elim
def colB (k : Int) : Bool := decide (1 ≤ k) && decide (k ≤ 3)
theorem col_ev (nm : List UInt8) (k : Int) (nl : Bool) : (evFn (ctx Tryd.prog (G0 (E2 e)) []) noL Tryd.f38 [.agg [.str nm, .int .i64 k, .bool nl]] []).get = cond (decide (1 ≤ k)) (bo (decide (k ≤ 3))) (bo false) := by kernel_rfl
noncomputable def colC : Con where
  spec := fun args st => match args, st with | [.agg [.str _, .int .i64 k, .bool _]], [] => .ret (.bool (colB k), []) | _, _ => .no
  quiet := true
theorem okCol : Con.ok Tryd.prog (G0 (E2 e)) 38 colC :=
  loop_spec (l := []) trivial hm Tryd.func38 (by rfl) (by kernel_rfl) fun args st r h => by
    unfold colC at h
    dsimp only at h
    split at h
    · rename_i nm k nl
      refine ⟨noL, noL_ok, ?_⟩
      rw [col_ev, ← ret_get h]; unfold colB
      cases decide (1 ≤ k) <;> rfl
    · exact (no_get h).elim
def markB (s : List UInt8) : Bool := decide (s = []) || preP s [92]
noncomputable def markC : Con where
  spec := fun args st => match args, st with | [.str s], [] => .ret (.bool (markB s), []) | _, _ => .no
  quiet := true
theorem mark_ev (s : List UInt8) : (evFn (ctx Tryd.prog (G0 (E2 e)) [(54, hasC)]) noL Tryd.f39 [.str s] []).get = cond (decide (s = [])) (bo true) (bo (preP s [92])) := by kernel_rfl
theorem okMark : Con.ok Tryd.prog (G0 (E2 e)) 39 markC :=
  loop_spec (l := [(54, hasC)]) ⟨okHas2, trivial⟩ hm Tryd.func39 (by rfl) (by kernel_rfl) fun args st r h => by
    unfold markC at h
    dsimp only at h
    split at h
    · rename_i s
      refine ⟨noL, noL_ok, ?_⟩
      rw [mark_ev, ← ret_get h]; unfold markB
      cases decide (s = []) <;> rfl
    · exact (no_get h).elim
noncomputable def m1 (e : Option Value) : List (Nat × Con) :=
  (39, markC) :: (38, colC) :: (17, boolC) :: (16, intC) :: (15, textC) :: (52, validC) :: (25, parseC (E2 e)) :: (26, rparseC) :: (29, printC) :: (30, printC) :: (48, trimC) :: p5
theorem okm1 (hev : EvOK (E2 e)) : AllOK Tryd.prog (G0 (E2 e)) (m1 e) := ⟨okMark, okCol, okBool, okInt, okText, okValid, okParse hev, okRParse hev, okPrint, okRPrint, okTrim2, okp5⟩

/-- May a value be, as cell says? -/
def cellR (k : Int) (s : List UInt8) (n : Int) (b : Bool) : Bool :=
  cond (decide (k = 0)) (decide (s = []) && (decide (n = 0) && (b == false))) (cond (decide (k = 1)) (decide (n = 0) && ((b == false) && validP s)) (cond (decide (k = 2)) (decide (s = []) && (b == false)) (decide (k = 3) && (decide (s = []) && decide (n = 0)))))
theorem cright_ev (k n : Int) (s : List UInt8) (b : Bool) : (evFn (ctx Tryd.prog (G0 (E2 e)) (m1 e)) noL Tryd.f35 [.agg [.int .i64 k, .str s, .int .i64 n, .bool b]] []).get =
    cond (decide (k = 0)) (bo (decide (k = 0) && (decide (s = []) && (decide (n = 0) && ((b == false) && true)))))
      (cond (decide (k = 1)) (cond (decide (k = 1) && (decide (s = s) && (decide (n = 0) && ((b == false) && true)))) (cond (decide (s.length ≤ LIM)) (bo (validP s)) none) (bo false))
        (cond (decide (k = 2)) (bo (decide (k = 2) && (decide (s = []) && (decide (n = n) && ((b == false) && true))))) (bo (decide (k = 3) && (decide (s = []) && (decide (n = 0) && ((b == b) && true))))))) := by kernel_rfl
noncomputable def cellRC : Con where
  spec := fun args st => match args, st with | [.agg [.int .i64 k, .str s, .int .i64 n, .bool b]], [] => .need (decide (s.length ≤ LIM)) (.ret (.bool (cellR k s n b), [])) | _, _ => .no
  quiet := true
theorem okCellR (hev : EvOK (E2 e)) : Con.ok Tryd.prog (G0 (E2 e)) 35 cellRC :=
  loop_spec (okm1 hev) hm Tryd.func35 (by rfl) (by kernel_rfl) fun args st r h => by
    unfold cellRC at h
    dsimp only at h
    split at h
    · rename_i k s n b
      obtain ⟨h1, h2⟩ := need_get h
      refine ⟨noL, noL_ok, ?_⟩
      rw [cright_ev, ← ret_get h2, h1, decide_eq_true (rfl : s = s), decide_eq_true (rfl : n = n)]; unfold cellR
      cases decide (k = 0) <;> cases decide (k = 1) <;> cases decide (k = 2) <;> cases decide (s = []) <;> cases decide (n = 0) <;> cases b <;> first | rfl | (cases decide (k = 3) <;> rfl)
    · exact (no_get h).elim
noncomputable def m2 (e : Option Value) : List (Nat × Con) := (35, cellRC) :: m1 e
theorem okm2 (hev : EvOK (E2 e)) : AllOK Tryd.prog (G0 (E2 e)) (m2 e) := ⟨okCellR hev, okm1 hev⟩
end Go.Proofs.YtpiphiieflnabaaDoor
