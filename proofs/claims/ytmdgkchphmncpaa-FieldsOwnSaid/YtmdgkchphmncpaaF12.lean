/- The document's maker of records (quillpenref05.Maker), and its event and limits: what its functions do. (under way) -/
import Derived.Test.YtmdgkchphmncpaaF09
import Derived.Test.YtmdgkchphmncpaaAbs28
namespace Go.Proofs.Ytmdgkchphmncpaa
open Go Go.Abs
set_option maxRecDepth 100000

/-! ### Limits and events -/
def oneI (b : Bool) : Int := cond b 1 0
theorem one_ev (b : Bool) : (evFn (ctx Try.prog G0 []) noL Try.f20 [.bool b] []).get = cond b (some (.int .i64 1, [])) (some (.int .i64 0, [])) := by kernel_rfl
noncomputable def oneC : Con where
  spec := fun args st => match args, st with | [.bool b], [] => .ret (.int .i64 (oneI b), []) | _, _ => .no
  quiet := true
theorem okOne : Con.ok Try.prog G0 20 oneC :=
  loop_spec (l := []) trivial hm Try.func20 (by rfl) (by kernel_rfl) fun args st r h => by
    unfold oneC at h
    dsimp only at h
    split at h
    · rename_i b
      exact ⟨noL, noL_ok, by rw [one_ev, ← ret_get h]; cases b <;> rfl⟩
    · exact (no_get h).elim
theorem refLim_ev (a b c : Int) (u : Bool) : (evFn (ctx Try.prog G0 []) noL Try.f8 [.agg [.int .i64 a, .int .i64 b, .int .i64 c, .bool u]] []).get =
    cond u (some (.agg [.int .i64 a, .int .i64 b, .int .i64 c, .int .i64 1], [])) (some (.agg [.int .i64 a, .int .i64 b, .int .i64 c, .int .i64 0], [])) := by kernel_rfl
noncomputable def refLimC : Con where
  spec := fun args st => match args, st with | [.agg [.int .i64 a, .int .i64 b, .int .i64 c, .bool u]], [] => .ret (.agg [.int .i64 a, .int .i64 b, .int .i64 c, .int .i64 (oneI u)], []) | _, _ => .no
  quiet := true
theorem okRefLim : Con.ok Try.prog G0 8 refLimC :=
  loop_spec (l := []) trivial hm Try.func8 (by rfl) (by kernel_rfl) fun args st r h => by
    unfold refLimC at h
    dsimp only at h
    split at h
    · rename_i a b c u
      exact ⟨noL, noL_ok, by rw [refLim_ev, ← ret_get h]; cases u <;> rfl⟩
    · exact (no_get h).elim
noncomputable def k1 : List (Nat × Con) := [(20, oneC)]
theorem okk1 : AllOK Try.prog G0 k1 := ⟨okOne, trivial⟩
theorem refEv_ev (e1 e2 e3 e4 e5 : Bool) (eb : Int) : (evFn (ctx Try.prog G0 k1) noL Try.f11 [.agg [.bool e1, .bool e2, .bool e3, .bool e4, .bool e5, .int .u8 eb]] []).get =
    some (.agg [.int .i64 (oneI e1), .int .i64 (oneI e2), .int .i64 (oneI e3), .int .i64 (oneI e4), .int .i64 (oneI e5), .int .i64 (IntKind.i64.wrap eb)], []) := by kernel_rfl
noncomputable def refEvC : Con where
  spec := fun args st => match args, st with
    | [.agg [.bool e1, .bool e2, .bool e3, .bool e4, .bool e5, .int .u8 eb]], [] => .ret (.agg [.int .i64 (oneI e1), .int .i64 (oneI e2), .int .i64 (oneI e3), .int .i64 (oneI e4), .int .i64 (oneI e5), .int .i64 (IntKind.i64.wrap eb)], [])
    | _, _ => .no
  quiet := true
theorem okRefEv : Con.ok Try.prog G0 11 refEvC :=
  loop_spec okk1 hm Try.func11 (by rfl) (by kernel_rfl) fun args st r h => by
    unfold refEvC at h
    dsimp only at h
    split at h
    · exact ⟨noL, noL_ok, by rw [refEv_ev, ← ret_get h]⟩
    · exact (no_get h).elim

/-! ### The maker -/
structure Rk where
  a : Int
  b : Int
  c : Int
  u : Int
  fd : List UInt8
  rc : List (List UInt8)
  bg : Int
  ct : Int
  fs : Int
  wr : Int
def Rk.cells (m : Rk) (j : Nat) : Blk := .cells [.int .i64 m.a, .int .i64 m.b, .int .i64 m.c, .int .i64 m.u, .str m.fd, .whole j, .int .i64 m.bg, .int .i64 m.ct, .int .i64 m.fs, .int .i64 m.wr]
def Rk.inSt (m : Rk) : Store := [m.cells 1, .row .str m.rc]
def Rk.outSt (m : Rk) : Store := [m.cells 2, .dead, .row .str m.rc]
def Rk.outR (m : Rk) (r : List (List UInt8)) : Store := [m.cells 2, .dead, .row .str m.rc, .row .str r]
def getRk : Store → Option Rk
  | [.cells [.int .i64 a, .int .i64 b, .int .i64 c, .int .i64 u, .str fd, .whole 1, .int .i64 bg, .int .i64 ct, .int .i64 fs, .int .i64 wr], .row .str rc] => some ⟨a, b, c, u, fd, rc, bg, ct, fs, wr⟩
  | _ => none
theorem getRk_ok {st : Store} {m : Rk} (h : getRk st = some m) : st = m.inSt := by
  unfold getRk at h
  split at h
  · cases h; rfl
  · cases h
def putR (m : Rk) : Rk := { m with rc := m.rc ++ [m.fd], fd := [] }
theorem putR_ev (m : Rk) : (evFn (ctx Try.prog G0 []) noL Try.f19 [.ptr 0 0] m.inSt).get = cond (decide (m.rc.length + 1 ≤ LIM)) (some (.tup [], (putR m).outSt)) none := by kernel_rfl
noncomputable def putRC : Con where
  spec := fun args st => match args, getRk st with | [.ptr 0 0], some m => .need (decide (m.rc.length + 1 ≤ LIM)) (.ret (.tup [], (putR m).outSt)) | _, _ => .no
  quiet := false
theorem okPutR : Con.ok Try.prog G0 19 putRC :=
  loop_spec (l := []) trivial hm Try.func19 (by rfl) (by kernel_rfl) fun args st r h => by
    unfold putRC at h
    dsimp only at h
    split at h
    · rename_i m hm'
      obtain ⟨h1, h2⟩ := need_get h
      obtain rfl := getRk_ok hm'
      exact ⟨noL, noL_ok, by rw [putR_ev, ← ret_get h2, h1]; rfl⟩
    · exact (no_get h).elim
noncomputable def k2 : List (Nat × Con) := [(19, putRC)]
theorem okk2 : AllOK Try.prog G0 k2 := ⟨okPutR, trivial⟩

/-! ### Take, piece by piece -/
noncomputable abbrev t10 (n : Nat) : Code := tailC Try.f10 n
noncomputable abbrev p10 (n : Nat) : Code := pieceC Try.f10 n
theorem hc10 : Try.f10.body = some (join [p10 0, p10 1, p10 2] (join [p10 3] (join [p10 4] (join [p10 5] (join [p10 6] (t10 7)))))) := by kernel_rfl
noncomputable abbrev X10 : Ctx := ctx Try.prog G0 k2
noncomputable def evA (e1 e2 e3 e4 e5 eb : Int) : List AV := [.int .i64 e1, .int .i64 e2, .int .i64 e3, .int .i64 e4, .int .i64 e5, .int .i64 eb]
noncomputable def stA (m : Rk) (ev : List AV) : St := stOf Try.f10.ntmps [0, 3] [.ptr 0 0, .ptr 3 0] [m.cells 2, .dead, .row .str m.rc, .cells ev]
noncomputable def stB (m : Rk) (ev : List AV) (strict : Bool) : St := stOf Try.f10.ntmps [0, 3, 6] [.ptr 0 0, .ptr 3 0, .bool strict] [m.cells 2, .dead, .row .str m.rc, .cells ev]
noncomputable def outS (m : Rk) (r : List (List UInt8)) (k : Int) : St := stOf Try.f10.ntmps [4, 5] [.whole 3, .int .i64 k] (m.outR r)
noncomputable def wrongS (m : Rk) (n : Int) : Ex × St := (.ret, outS { m with wr := n } [] 0)
theorem sA (m : Rk) (e1 e2 e3 e4 e5 eb : Int) (T : St → Tr (Ex × St)) : (evSeg X10 noL [true, false] [p10 0, p10 1, p10 2] 0 [0, 3] [4, 5] (startSt Try.f10 [.ptr 0 0, .agg (evA e1 e2 e3 e4 e5 eb)] m.inSt) T).get =
    cond (!decide (m.wr = 0)) (some (.ret, outS m [] 0)) (cond (decide (e1 = 1)) (cond (decide (m.bg = m.c)) (some (wrongS m 9)) (T (stA { m with bg := IntKind.i64.wrap (m.bg + 1) } (evA e1 e2 e3 e4 e5 eb))).get) (T (stA m (evA e1 e2 e3 e4 e5 eb))).get) := by kernel_rfl
theorem sB (m : Rk) (e1 e2 e3 e4 e5 eb : Int) (T : St → Tr (Ex × St)) : (evSeg X10 noL [true, false] [p10 3] 0 [0, 3] [4, 5] (stA m (evA e1 e2 e3 e4 e5 eb)) T).get =
    cond (decide (e2 = 1)) (cond (decide ((m.fd.length : Int) = m.a)) (some (wrongS m 7)) (cond (decide (m.fd.length + (toStr [IntKind.u8.wrap eb]).length ≤ LIM)) (T (stA { m with fd := m.fd ++ toStr [IntKind.u8.wrap eb] } (evA e1 e2 e3 e4 e5 eb))).get none)) (T (stA m (evA e1 e2 e3 e4 e5 eb))).get := by kernel_rfl
theorem sC (m : Rk) (e1 e2 e3 e4 e5 eb : Int) (T : St → Tr (Ex × St)) : (evSeg X10 noL [true, false] [p10 4] 0 [0, 3, 6] [4, 5] (stA m (evA e1 e2 e3 e4 e5 eb)) T).get =
    cond (decide (m.u = 1)) (T (stB m (evA e1 e2 e3 e4 e5 eb) (decide (0 < m.ct)))).get (T (stB m (evA e1 e2 e3 e4 e5 eb) false)).get := by kernel_rfl
theorem sD (m : Rk) (e1 e2 e3 e4 e5 eb : Int) (strict : Bool) (T : St → Tr (Ex × St)) : (evSeg X10 noL [true, false] [p10 5] 0 [0, 3, 6] [4, 5] (stB m (evA e1 e2 e3 e4 e5 eb) strict) T).get =
    cond (decide (e3 = 1)) (cond (decide (m.rc.length + 1 ≤ LIM)) (cond (decide (m.b ≤ ((putR m).rc.length : Int))) (some (wrongS (putR m) 8))
      (cond strict (cond (decide (((putR m).rc.length : Int) = m.fs)) (some (wrongS (putR m) 10)) (T (stB (putR m) (evA e1 e2 e3 e4 e5 eb) strict)).get) (T (stB (putR m) (evA e1 e2 e3 e4 e5 eb) strict)).get)) none) (T (stB m (evA e1 e2 e3 e4 e5 eb) strict)).get := by kernel_rfl
theorem sE (m : Rk) (e1 e2 e3 e4 e5 eb : Int) (strict : Bool) (T : St → Tr (Ex × St)) : (evSeg X10 noL [true, false] [p10 6] 0 [0, 3, 6] [4, 5] (stB m (evA e1 e2 e3 e4 e5 eb) strict) T).get =
    cond (decide (e4 = 1)) (cond (decide (m.rc.length + 1 ≤ LIM)) (cond strict (cond (!decide (((putR m).rc.length : Int) = m.fs)) (some (wrongS (putR m) 10)) (T (stB (putR m) (evA e1 e2 e3 e4 e5 eb) strict)).get) (T (stB (putR m) (evA e1 e2 e3 e4 e5 eb) strict)).get) none) (T (stB m (evA e1 e2 e3 e4 e5 eb) strict)).get := by kernel_rfl
theorem sF (m : Rk) (e1 e2 e3 e4 e5 eb : Int) (strict : Bool) (T : St → Tr (Ex × St)) : (evSeg X10 noL [true, false] [t10 7] 0 [] [4, 5] (stB m (evA e1 e2 e3 e4 e5 eb) strict) T).get =
    cond (decide (e5 = 0)) (some (.ret, outS m [] 0)) (cond (decide (m.ct = 0)) (some (.ret, outS { m with rc := [], fs := m.rc.length, ct := IntKind.i64.wrap (m.ct + 1) } m.rc 1)) (some (.ret, outS { m with rc := [], ct := IntKind.i64.wrap (m.ct + 1) } m.rc 1))) := by kernel_rfl

def q5 (e5 : Int) (m : Rk) : Rk × List (List UInt8) × Int :=
  cond (decide (e5 = 0)) (m, [], 0) ({ m with rc := [], fs := cond (decide (m.ct = 0)) m.rc.length m.fs, ct := IntKind.i64.wrap (m.ct + 1) }, m.rc, 1)
def wrongR (m : Rk) (n : Int) : Rk × List (List UInt8) × Int := ({ m with wr := n }, [], 0)
def q4 (e4 e5 : Int) (strict : Bool) (m : Rk) : Rk × List (List UInt8) × Int :=
  cond (decide (e4 = 1)) (cond (strict && !decide (((putR m).rc.length : Int) = m.fs)) (wrongR (putR m) 10) (q5 e5 (putR m))) (q5 e5 m)
def q3 (e3 e4 e5 : Int) (strict : Bool) (m : Rk) : Rk × List (List UInt8) × Int :=
  cond (decide (e3 = 1)) (cond (decide (m.b ≤ ((putR m).rc.length : Int))) (wrongR (putR m) 8) (cond (strict && decide (((putR m).rc.length : Int) = m.fs)) (wrongR (putR m) 10) (q4 e4 e5 strict (putR m)))) (q4 e4 e5 strict m)
def strictR (m : Rk) : Bool := decide (m.u = 1) && decide (0 < m.ct)
def q2 (e2 e3 e4 e5 eb : Int) (m : Rk) : Rk × List (List UInt8) × Int :=
  cond (decide (e2 = 1)) (cond (decide ((m.fd.length : Int) = m.a)) (wrongR m 7) (q3 e3 e4 e5 (strictR m) { m with fd := m.fd ++ toStr [IntKind.u8.wrap eb] })) (q3 e3 e4 e5 (strictR m) m)
def q1 (e1 e2 e3 e4 e5 eb : Int) (m : Rk) : Rk × List (List UInt8) × Int :=
  cond (decide (e1 = 1)) (cond (decide (m.bg = m.c)) (wrongR m 9) (q2 e2 e3 e4 e5 eb { m with bg := IntKind.i64.wrap (m.bg + 1) })) (q2 e2 e3 e4 e5 eb m)
def q0 (e1 e2 e3 e4 e5 eb : Int) (m : Rk) : Rk × List (List UInt8) × Int := cond (!decide (m.wr = 0)) (m, [], 0) (q1 e1 e2 e3 e4 e5 eb m)
noncomputable def endS (p : Rk × List (List UInt8) × Int) : Ex × St := (.ret, outS p.1 p.2.1 p.2.2)

section
variable (e1 e2 e3 e4 e5 eb : Int) (strict : Bool)
theorem cF (m : Rk) : CodeSem X10 [true, false] (t10 7) (stB m (evA e1 e2 e3 e4 e5 eb) strict) (endS (q5 e5 m)) := by
  refine seg_last (X := X10) (L := noL) (off := 0) (live := []) (out := [4, 5]) (ctx_ok okk2) hm noL_ok fun T => ?_
  rw [sF]; unfold q5 endS
  cases decide (e5 = 0) <;> cases decide (m.ct = 0) <;> rfl
/-- A piece that goes on, and one that goes out. -/
theorem go10 {ps : List Code} {b : Code} {live : List Tmp} {s s2 : St} {r : Ex × St} (h : ∀ T : St → Tr (Ex × St), (evSeg X10 noL [true, false] ps 0 live [4, 5] s T).get = (T s2).get) (k : CodeSem X10 [true, false] b s2 r) : CodeSem X10 [true, false] (join ps b) s r :=
  seg_to (ctx_ok okk2) hm noL_all h k
theorem out10 {ps : List Code} {b : Code} {live : List Tmp} {s : St} {r : Ex × St} (h : ∀ T : St → Tr (Ex × St), (evSeg X10 noL [true, false] ps 0 live [4, 5] s T).get = some r) : CodeSem X10 [true, false] (join ps b) s r :=
  seg_out (ctx_ok okk2) hm noL_all h
theorem cE (m : Rk) (h : m.rc.length + 1 ≤ LIM) : CodeSem X10 [true, false] (join [p10 6] (t10 7)) (stB m (evA e1 e2 e3 e4 e5 eb) strict) (endS (q4 e4 e5 strict m)) := by
  have hs := sE m e1 e2 e3 e4 e5 eb strict
  have h' := decide_eq_true h
  unfold q4
  cases h4 : decide (e4 = 1) <;> rw [h4, h'] at hs <;> simp only [cond_true, cond_false] at hs ⊢
  · exact go10 hs (cF e1 e2 e3 e4 e5 eb strict m)
  · cases strict <;> simp only [cond_true, cond_false, Bool.true_and, Bool.false_and] at hs ⊢
    · exact go10 hs (cF e1 e2 e3 e4 e5 eb false (putR m))
    · cases hd : decide (((putR m).rc.length : Int) = m.fs) <;> rw [hd] at hs <;> simp only [cond_true, cond_false, Bool.not_true, Bool.not_false] at hs ⊢
      · exact out10 hs
      · exact go10 hs (cF e1 e2 e3 e4 e5 eb true (putR m))
theorem cD (m : Rk) (h : m.rc.length + 2 ≤ LIM) : CodeSem X10 [true, false] (join [p10 5] (join [p10 6] (t10 7))) (stB m (evA e1 e2 e3 e4 e5 eb) strict) (endS (q3 e3 e4 e5 strict m)) := by
  have hs := sD m e1 e2 e3 e4 e5 eb strict
  have h1 : m.rc.length + 1 ≤ LIM := by omega
  have h2 : (putR m).rc.length + 1 ≤ LIM := by simp [putR]; omega
  have h' := decide_eq_true h1
  unfold q3
  cases h3 : decide (e3 = 1) <;> rw [h3, h'] at hs <;> simp only [cond_true, cond_false] at hs ⊢
  · exact go10 hs (cE e1 e2 e3 e4 e5 eb strict m h1)
  · cases hb : decide (m.b ≤ ((putR m).rc.length : Int)) <;> rw [hb] at hs <;> simp only [cond_true, cond_false] at hs ⊢
    · cases strict <;> simp only [cond_true, cond_false, Bool.true_and, Bool.false_and] at hs ⊢
      · exact go10 hs (cE e1 e2 e3 e4 e5 eb false (putR m) h2)
      · cases hd : decide (((putR m).rc.length : Int) = m.fs) <;> rw [hd] at hs <;> simp only [cond_true, cond_false] at hs ⊢
        · exact go10 hs (cE e1 e2 e3 e4 e5 eb true (putR m) h2)
        · exact out10 hs
    · exact out10 hs
theorem cC (m : Rk) (h : m.rc.length + 2 ≤ LIM) : CodeSem X10 [true, false] (join [p10 4] (join [p10 5] (join [p10 6] (t10 7)))) (stA m (evA e1 e2 e3 e4 e5 eb)) (endS (q3 e3 e4 e5 (strictR m) m)) := by
  have hs := sC m e1 e2 e3 e4 e5 eb
  unfold strictR
  cases hu : decide (m.u = 1) <;> rw [hu] at hs <;> simp only [cond_true, cond_false, Bool.true_and, Bool.false_and] at hs ⊢
  · exact go10 hs (cD e1 e2 e3 e4 e5 eb false m h)
  · exact go10 hs (cD e1 e2 e3 e4 e5 eb _ m h)
theorem cB (m : Rk) (h : m.rc.length + 2 ≤ LIM) (hf : m.fd.length + 1 ≤ LIM) : CodeSem X10 [true, false] (join [p10 3] (join [p10 4] (join [p10 5] (join [p10 6] (t10 7))))) (stA m (evA e1 e2 e3 e4 e5 eb)) (endS (q2 e2 e3 e4 e5 eb m)) := by
  have hs := sB m e1 e2 e3 e4 e5 eb
  have hf' : m.fd.length + (toStr [IntKind.u8.wrap eb]).length ≤ LIM := hf
  have h' := decide_eq_true hf'
  unfold q2
  cases h2 : decide (e2 = 1) <;> rw [h2, h'] at hs <;> simp only [cond_true, cond_false] at hs ⊢
  · exact go10 hs (cC e1 e2 e3 e4 e5 eb m h)
  · cases hd : decide ((m.fd.length : Int) = m.a) <;> rw [hd] at hs <;> simp only [cond_true, cond_false] at hs ⊢
    · exact go10 hs (cC e1 e2 e3 e4 e5 eb { m with fd := m.fd ++ toStr [IntKind.u8.wrap eb] } h)
    · exact out10 hs
theorem cA (m : Rk) (h : m.rc.length + 2 ≤ LIM) (hf : m.fd.length + 1 ≤ LIM) : CodeSem X10 [true, false] (join [p10 0, p10 1, p10 2] (join [p10 3] (join [p10 4] (join [p10 5] (join [p10 6] (t10 7)))))) (startSt Try.f10 [.ptr 0 0, .agg (evA e1 e2 e3 e4 e5 eb)] m.inSt) (endS (q0 e1 e2 e3 e4 e5 eb m)) := by
  have hs := sA m e1 e2 e3 e4 e5 eb
  unfold q0 q1
  cases hw : decide (m.wr = 0) <;> rw [hw] at hs <;> simp only [cond_true, cond_false, Bool.not_true, Bool.not_false] at hs ⊢
  · exact out10 hs
  · cases h1 : decide (e1 = 1) <;> rw [h1] at hs <;> simp only [cond_true, cond_false] at hs ⊢
    · exact go10 hs (cB e1 e2 e3 e4 e5 eb m h hf)
    · cases hd : decide (m.bg = m.c) <;> rw [hd] at hs <;> simp only [cond_true, cond_false] at hs ⊢
      · exact go10 hs (cB e1 e2 e3 e4 e5 eb { m with bg := IntKind.i64.wrap (m.bg + 1) } h hf)
      · exact out10 hs
end
theorem end10 (m m' : Rk) (r : List (List UInt8)) (k : Int) : (finish Try.prog Try.f10 m.inSt .ret (outS m' r k)).get = some (.tup [.whole 3, .int .i64 k], m'.outR r) := by kernel_rfl
def roomR (m : Rk) : Bool := decide (m.fd.length + 1 ≤ LIM) && decide (m.rc.length + 2 ≤ LIM)
noncomputable def rtakeC : Con where
  spec := fun args st =>
    match args, getRk st with
    | [.ptr 0 0, .agg [.int .i64 e1, .int .i64 e2, .int .i64 e3, .int .i64 e4, .int .i64 e5, .int .i64 eb]], some m => .need (roomR m)
        (.ret (.tup [.whole 3, .int .i64 (q0 e1 e2 e3 e4 e5 eb m).2.2], (q0 e1 e2 e3 e4 e5 eb m).1.outR (q0 e1 e2 e3 e4 e5 eb m).2.1))
    | _, _ => .no
  quiet := false
theorem okRtake : Con.ok Try.prog G0 10 rtakeC :=
  sem_spec Try.func10 hc10 (by kernel_rfl) fun args st r h => by
    unfold rtakeC at h
    dsimp only at h
    split at h
    · rename_i e1 e2 e3 e4 e5 eb m hm'
      obtain ⟨h1, h2⟩ := need_get h
      have e := ret_get h2
      have es := getRk_ok hm'
      simp only [roomR, Bool.and_eq_true, decide_eq_true_eq] at h1
      rw [← e, es]
      exact ⟨_, _, cA e1 e2 e3 e4 e5 eb m h1.2 h1.1, end10 _ _ _ _⟩
    · exact (no_get h).elim
end Go.Proofs.Ytmdgkchphmncpaa
