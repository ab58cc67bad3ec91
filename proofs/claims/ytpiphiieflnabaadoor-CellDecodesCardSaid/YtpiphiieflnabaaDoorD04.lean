/- Comparing (cmp, cell.Compare, the document's Compare and Right): what they do. Conditions: none. -/
import Derived.Test.YtpiphiieflnabaaDoorD03
namespace Go.Proofs.YtpiphiieflnabaaDoor
open Go Go.Abs
set_option maxRecDepth 100000
variable {ev : Env}

/-! ### cmp -/
def ordI (x y : Int) : Int := cond (decide (x < y)) (-1) (cond (decide (y < x)) 1 0)
noncomputable def ordC : Con where
  spec := fun args st => match args, st with | [.int .i64 x, .int .i64 y], [] => .ret (.int .i64 (ordI x y), []) | _, _ => .no
  quiet := true
theorem okNan : AllOK Tryd.prog (G0 ev) [(56, inlined (ctx Tryd.prog (G0 ev) []) noL Tryd.f56 true)] := add_inlined (P := Tryd.prog) (G := G0 ev) (l := []) trivial hm true Tryd.func56 (by rfl) (by kernel_rfl)
theorem okNan' : AllOK Tryd.prog (G0 ev) [(58, inlined (ctx Tryd.prog (G0 ev) []) noL Tryd.f58 true)] := add_inlined (P := Tryd.prog) (G := G0 ev) (l := []) trivial hm true Tryd.func58 (by rfl) (by kernel_rfl)
def i1 (n : Int) : Option (AV × Store) := some (.int .i64 n, [])
theorem cmpI_ev (x y : Int) : (evFn (ctx Tryd.prog (G0 ev) [(56, inlined (ctx Tryd.prog (G0 ev) []) noL Tryd.f56 true)]) noL Tryd.f42 [.int .i64 x, .int .i64 y] []).get =
    cond (!decide (x = x)) (cond (!decide (y = y)) (i1 0) (i1 (-1))) (cond (!decide (y = y)) (i1 1) (cond (decide (x < y)) (i1 (-1)) (cond (decide (y < x)) (i1 1) (i1 0)))) := by kernel_rfl
theorem cmpL_ev (x y : Int) : (evFn (ctx Tryd.prog (G0 ev) [(58, inlined (ctx Tryd.prog (G0 ev) []) noL Tryd.f58 true)]) noL Tryd.f44 [.int .i64 x, .int .i64 y] []).get =
    cond (!decide (x = x)) (cond (!decide (y = y)) (i1 0) (i1 (-1))) (cond (!decide (y = y)) (i1 1) (cond (decide (x < y)) (i1 (-1)) (cond (decide (y < x)) (i1 1) (i1 0)))) := by kernel_rfl
theorem okOrd : Con.ok Tryd.prog (G0 ev) 42 ordC :=
  loop_spec okNan hm Tryd.func42 (by rfl) (by kernel_rfl) fun args st r h => by
    unfold ordC at h
    dsimp only at h
    split at h
    · rename_i x y
      refine ⟨noL, noL_ok, ?_⟩
      rw [cmpI_ev, ← ret_get h, decide_eq_true (rfl : x = x), decide_eq_true (rfl : y = y)]; unfold ordI
      cases decide (x < y) <;> cases decide (y < x) <;> rfl
    · exact (no_get h).elim
theorem okOrdL : Con.ok Tryd.prog (G0 ev) 44 ordC :=
  loop_spec okNan' hm Tryd.func44 (by rfl) (by kernel_rfl) fun args st r h => by
    unfold ordC at h
    dsimp only at h
    split at h
    · rename_i x y
      refine ⟨noL, noL_ok, ?_⟩
      rw [cmpL_ev, ← ret_get h, decide_eq_true (rfl : x = x), decide_eq_true (rfl : y = y)]; unfold ordI
      cases decide (x < y) <;> cases decide (y < x) <;> rfl
    · exact (no_get h).elim
def or4 (a b c d : Int) : Int := cond (!decide (a = 0)) a (cond (!decide (b = 0)) b (cond (!decide (c = 0)) c d))
noncomputable def orC : Con where
  spec := fun args st => match args, st with | [.seq (.int .i64) [a, b, c, d]], [] => .ret (.int .i64 (or4 a b c d), []) | _, _ => .no
  quiet := true
noncomputable abbrev X41 (ev : Env) : Ctx := ctx Tryd.prog (G0 ev) []
theorem or_ev (a b c d : Int) : (evFn (X41 ev) (loopF (X41 ev) (Tryd.f41.body.getD .skip) [] Tryd.f41.ntmps 6) Tryd.f41 [.seq (.int .i64) ([a, b, c, d] : List Int)] []).get =
    cond (!decide (a = 0)) (i1 a) (cond (!decide (b = 0)) (i1 b) (cond (!decide (c = 0)) (i1 c) (cond (!decide (d = 0)) (i1 d) (i1 0)))) := by kernel_rfl
theorem okOr : Con.ok Tryd.prog (G0 ev) 41 orC :=
  loop_spec (l := []) trivial hm Tryd.func41 (c := Tryd.f41.body.getD .skip) (by kernel_rfl) (by kernel_rfl) fun args st r h => by
    unfold orC at h
    dsimp only at h
    split at h
    · rename_i a b c d
      refine ⟨loopF (X41 ev) (Tryd.f41.body.getD .skip) [] Tryd.f41.ntmps 6, loopF_at (ctx_ok (l := []) trivial) hm, ?_⟩
      rw [or_ev, ← ret_get h]; unfold or4
      cases h1 : decide (a = 0) <;> cases h2 : decide (b = 0) <;> cases h3 : decide (c = 0) <;> cases h4 : decide (d = 0) <;> first | rfl | (simp only [decide_eq_true_eq] at h4; subst h4; rfl)
    · exact (no_get h).elim

/-! ### Values -/
abbrev Val : Type := Int × List UInt8 × Int × Bool
def valAV (v : Val) : AV := .agg [.int .i64 v.1, .str v.2.1, .int .i64 v.2.2.1, .bool v.2.2.2]
def b2i (b : Bool) : Int := cond b 1 0
def refAV (v : Val) : AV := .agg [.int .i64 v.1, .str v.2.1, .int .i64 v.2.2.1, .int .i64 (b2i v.2.2.2)]
noncomputable def refC : Con where
  spec := fun args st => match args, st with | [.agg [.int .i64 k, .str s, .int .i64 n, .bool b]], [] => .ret (refAV (k, s, n, b), []) | _, _ => .no
  quiet := true
theorem ref_ev (k n : Int) (s : List UInt8) (b : Bool) : (evFn (ctx Tryd.prog (G0 ev) []) noL Tryd.f19 [.agg [.int .i64 k, .str s, .int .i64 n, .bool b]] []).get =
    cond b (some (.agg [.int .i64 k, .str s, .int .i64 n, .int .i64 1], [])) (some (.agg [.int .i64 k, .str s, .int .i64 n, .int .i64 0], [])) := by kernel_rfl
theorem okRef : Con.ok Tryd.prog (G0 ev) 19 refC :=
  loop_spec (l := []) trivial hm Tryd.func19 (by rfl) (by kernel_rfl) fun args st r h => by
    unfold refC at h
    dsimp only at h
    split at h
    · rename_i k s n b
      refine ⟨noL, noL_ok, ?_⟩
      rw [ref_ev, ← ret_get h]
      cases b <;> rfl
    · exact (no_get h).elim
noncomputable def lessC : Con where
  spec := fun args st => match args, st with | [.bool b], [] => .ret (.int .i64 (cond b (-1) 1), []) | _, _ => .no
  quiet := true
theorem less_ev (b : Bool) : (evFn (ctx Tryd.prog (G0 ev) []) noL Tryd.f45 [.bool b] []).get = cond b (i1 (-1)) (i1 1) := by kernel_rfl
theorem okLess : Con.ok Tryd.prog (G0 ev) 45 lessC :=
  loop_spec (l := []) trivial hm Tryd.func45 (by rfl) (by kernel_rfl) fun args st r h => by
    unfold lessC at h
    dsimp only at h
    split at h
    · rename_i b
      refine ⟨noL, noL_ok, ?_⟩
      rw [less_ev, ← ret_get h]
      cases b <;> rfl
    · exact (no_get h).elim
noncomputable def p4 : List (Nat × Con) := (45, lessC) :: (19, refC) :: (41, orC) :: (44, ordC) :: (42, ordC) :: (43, cmpSC) :: p3
theorem okp4 : AllOK Tryd.prog (G0 ev) p4 := ⟨okLess, okRef, okOr, okOrdL, okOrd, okCmpS, okp3⟩

/-! ### The document's Right -/
def rightR (k : Int) (s : List UInt8) (n b : Int) : Bool :=
  !decide (k < 0) && (!decide (3 < k) && ((decide (k = 1) || decide (s = [])) && ((decide (k = 2) || decide (n = 0)) && ((decide (k = 3) || decide (b = 0)) && decide ((wholeP s : Int) = (s.length : Int))))))
def wh (s : List UInt8) : Option (AV × Store) := cond (decide (s.length ≤ LIM)) (some (.bool (decide ((wholeP s : Int) = (s.length : Int))), [])) none
def bo (b : Bool) : Option (AV × Store) := some (.bool b, [])
theorem right_ev (k n : Int) (s : List UInt8) (b : Int) : (evFn (ctx Tryd.prog (G0 ev) p4) noL Tryd.f18 [.agg [.int .i64 k, .str s, .int .i64 n, .int .i64 b]] []).get =
    cond (decide (k < 0)) (bo false) (cond (decide (3 < k)) (bo false) (cond (!decide (k = 1)) (cond (!decide (s = [])) (bo false)
      (cond (!decide (k = 2)) (cond (!decide (n = 0)) (bo false) (cond (!decide (k = 3)) (cond (!decide (b = 0)) (bo false) (wh s)) (wh s))) (cond (!decide (k = 3)) (cond (!decide (b = 0)) (bo false) (wh s)) (wh s))))
      (cond (!decide (k = 2)) (cond (!decide (n = 0)) (bo false) (cond (!decide (k = 3)) (cond (!decide (b = 0)) (bo false) (wh s)) (wh s))) (cond (!decide (k = 3)) (cond (!decide (b = 0)) (bo false) (wh s)) (wh s))))) := by kernel_rfl
noncomputable def rightC : Con where
  spec := fun args st => match args, st with | [.agg [.int .i64 k, .str s, .int .i64 n, .int .i64 b]], [] => .need (decide (s.length ≤ LIM)) (.ret (.bool (rightR k s n b), [])) | _, _ => .no
  quiet := true
theorem okRight : Con.ok Tryd.prog (G0 ev) 18 rightC :=
  loop_spec okp4 hm Tryd.func18 (by rfl) (by kernel_rfl) fun args st r h => by
    unfold rightC at h
    dsimp only at h
    split at h
    · rename_i k s n b
      obtain ⟨h1, h2⟩ := need_get h
      refine ⟨noL, noL_ok, ?_⟩
      rw [right_ev, ← ret_get h2]; unfold rightR wh; rw [h1]
      cases decide (k < 0) <;> cases decide (3 < k) <;> cases decide (k = 1) <;> cases decide (s = []) <;> cases decide (k = 2) <;> cases decide (n = 0) <;> cases decide (k = 3) <;> cases decide (b = 0) <;> rfl
    · exact (no_get h).elim

/-! ### Comparing -/
def lessR (b : Bool) : Int := cond b (-1) 1
def rcmpR (k : Int) (s : List UInt8) (n b k' : Int) (s' : List UInt8) (n' b' : Int) : Int :=
  cond (!decide (k = k')) (lessR (decide (k < k'))) (cond (!decide (s = s')) (lessR (Op.bytesLess s s')) (cond (!decide (n = n')) (lessR (decide (n < n'))) (cond (!decide (b = b')) (lessR (decide (b < b'))) 0)))
theorem rcmp_ev (k n : Int) (s : List UInt8) (b : Int) (k' n' : Int) (s' : List UInt8) (b' : Int) : (evFn (ctx Tryd.prog (G0 ev) p4) noL Tryd.f21 [.agg [.int .i64 k, .str s, .int .i64 n, .int .i64 b], .agg [.int .i64 k', .str s', .int .i64 n', .int .i64 b']] []).get =
    cond (!decide (k = k')) (i1 (lessR (decide (k < k')))) (cond (!decide (s = s')) (i1 (lessR (Op.bytesLess s s'))) (cond (!decide (n = n')) (i1 (lessR (decide (n < n')))) (cond (!decide (b = b')) (i1 (lessR (decide (b < b')))) (i1 0)))) := by kernel_rfl
noncomputable def rcmpC : Con where
  spec := fun args st => match args, st with | [.agg [.int .i64 k, .str s, .int .i64 n, .int .i64 b], .agg [.int .i64 k', .str s', .int .i64 n', .int .i64 b']], [] => .ret (.int .i64 (rcmpR k s n b k' s' n' b'), []) | _, _ => .no
  quiet := true
theorem okRcmp : Con.ok Tryd.prog (G0 ev) 21 rcmpC :=
  loop_spec okp4 hm Tryd.func21 (by rfl) (by kernel_rfl) fun args st r h => by
    unfold rcmpC at h
    dsimp only at h
    split at h
    · rename_i k s n b k' s' n' b'
      refine ⟨noL, noL_ok, ?_⟩
      rw [rcmp_ev, ← ret_get h]; unfold rcmpR
      cases decide (k = k') <;> cases decide (s = s') <;> cases decide (n = n') <;> cases decide (b = b') <;> rfl
    · exact (no_get h).elim
def cmpV (k : Int) (s : List UInt8) (n : Int) (b : Bool) (k' : Int) (s' : List UInt8) (n' : Int) (b' : Bool) : Int :=
  or4 (ordI k k') (Lib.compareBytes s s') (ordI n n') (cond (!(b == b')) (cond b 1 (-1)) 0)
theorem cmp_ev (k n : Int) (s : List UInt8) (b : Bool) (k' n' : Int) (s' : List UInt8) (b' : Bool) : (evFn (ctx Tryd.prog (G0 ev) p4) noL Tryd.f20 [.agg [.int .i64 k, .str s, .int .i64 n, .bool b], .agg [.int .i64 k', .str s', .int .i64 n', .bool b']] []).get =
    cond (!(b == b')) (cond b (i1 (or4 (ordI k k') (Lib.compareBytes s s') (ordI n n') 1)) (i1 (or4 (ordI k k') (Lib.compareBytes s s') (ordI n n') (-1)))) (i1 (or4 (ordI k k') (Lib.compareBytes s s') (ordI n n') 0)) := by kernel_rfl
noncomputable def cmpC : Con where
  spec := fun args st => match args, st with | [.agg [.int .i64 k, .str s, .int .i64 n, .bool b], .agg [.int .i64 k', .str s', .int .i64 n', .bool b']], [] => .ret (.int .i64 (cmpV k s n b k' s' n' b'), []) | _, _ => .no
  quiet := true
theorem okCmp : Con.ok Tryd.prog (G0 ev) 20 cmpC :=
  loop_spec okp4 hm Tryd.func20 (by rfl) (by kernel_rfl) fun args st r h => by
    unfold cmpC at h
    dsimp only at h
    split at h
    · rename_i k s n b k' s' n' b'
      refine ⟨noL, noL_ok, ?_⟩
      rw [cmp_ev, ← ret_get h]; unfold cmpV
      cases b <;> cases b' <;> rfl
    · exact (no_get h).elim

/-! ### awake -/
noncomputable def k1 (ev : Env) : List (Nat × Con) := [(15, runC (ctx Tryd.prog (G0 ev) []) 0 Tryd.f15 true)]
noncomputable def k2 (ev : Env) : List (Nat × Con) := (16, runC (ctx Tryd.prog (G0 ev) (k1 ev)) 0 Tryd.f16 true) :: k1 ev
noncomputable def k3 (ev : Env) : List (Nat × Con) := (17, runC (ctx Tryd.prog (G0 ev) (k2 ev)) 0 Tryd.f17 true) :: k2 ev
noncomputable def k4 (ev : Env) : List (Nat × Con) := (38, runC (ctx Tryd.prog (G0 ev) (k3 ev)) 0 Tryd.f38 true) :: k3 ev
noncomputable def k5 (ev : Env) : List (Nat × Con) := (39, runC (ctx Tryd.prog (G0 ev) (k4 ev)) 0 Tryd.f39 true) :: k4 ev
noncomputable def k6 (ev : Env) : List (Nat × Con) := (78, runC (ctx Tryd.prog (G0 ev) (k5 ev)) 2 Tryd.f78 true) :: k5 ev
noncomputable def k7 (ev : Env) : List (Nat × Con) := (65, runC (ctx Tryd.prog (G0 ev) (k6 ev)) 0 Tryd.f65 true) :: k6 ev
noncomputable def k8 (ev : Env) : List (Nat × Con) := (52, runC (ctx Tryd.prog (G0 ev) (k7 ev)) 0 Tryd.f52 true) :: k7 ev
noncomputable def k9 (ev : Env) : List (Nat × Con) := (35, runC (ctx Tryd.prog (G0 ev) (k8 ev)) 0 Tryd.f35 true) :: k8 ev
noncomputable def k10 (ev : Env) : List (Nat × Con) := (14, runC (ctx Tryd.prog (G0 ev) (k9 ev)) 0 Tryd.f14 true) :: k9 ev
theorem okk : AllOK Tryd.prog (G0 ev) (k10 ev) := by
  refine add_run ?_ hm 0 true Tryd.func14 (by rfl) (by kernel_rfl)
  refine add_run ?_ hm 0 true Tryd.func35 (by rfl) (by kernel_rfl)
  refine add_run ?_ hm 0 true Tryd.func52 (by rfl) (by kernel_rfl)
  refine add_run ?_ hm 0 true Tryd.func65 (by rfl) (by kernel_rfl)
  refine add_run ?_ hm 2 true Tryd.func78 (by rfl) (by kernel_rfl)
  refine add_run ?_ hm 0 true Tryd.func39 (by rfl) (by kernel_rfl)
  refine add_run ?_ hm 0 true Tryd.func38 (by rfl) (by kernel_rfl)
  refine add_run ?_ hm 0 true Tryd.func17 (by rfl) (by kernel_rfl)
  refine add_run ?_ hm 0 true Tryd.func16 (by rfl) (by kernel_rfl)
  exact add_run (P := Tryd.prog) (G := G0 ev) (l := []) trivial hm 0 true Tryd.func15 (by rfl) (by kernel_rfl)
theorem awake_ev : (evFn (ctx Tryd.prog (G0 ev) (k10 ev)) noL Tryd.f13 [] []).get = some (.bool true, []) := by kernel_rfl
noncomputable def awakeC : Con where
  spec := fun args st => match args, st with | [], [] => .ret (.bool true, []) | _, _ => .no
  quiet := true
theorem okAwake : Con.ok Tryd.prog (G0 ev) 13 awakeC :=
  loop_spec okk hm Tryd.func13 (by rfl) (by kernel_rfl) fun args st r h => by
    unfold awakeC at h
    dsimp only at h
    split at h
    · refine ⟨noL, noL_ok, ?_⟩
      rw [awake_ev, ← ret_get h]
    · exact (no_get h).elim
noncomputable def p5 : List (Nat × Con) := (13, awakeC) :: (20, cmpC) :: (21, rcmpC) :: (18, rightC) :: p4
theorem okp5 : AllOK Tryd.prog (G0 ev) p5 := ⟨okAwake, okCmp, okRcmp, okRight, okp4⟩
end Go.Proofs.YtpiphiieflnabaaDoor
