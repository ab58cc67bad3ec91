/- The document's UTF-8 (put, Size, Whole): what they do. Conditions: none. -/
import Derived.Test.YtpiphiieflnabaaDoorD01
namespace Go.Proofs.YtpiphiieflnabaaDoor
open Go Go.Abs
set_option maxRecDepth 100000
variable {ev : Env}

/-! ### The bytes of a code point -/
def u8w (n : Int) : UInt8 := UInt8.ofNat (IntKind.u8.wrap n).toNat
def putL (c : Int) : List UInt8 :=
  cond (decide (c < 128)) [u8w c] (cond (decide (c < 2048)) [u8w (IntKind.i64.wrap (192 + IntKind.i64.wrap (c.tdiv 64))), u8w (IntKind.i64.wrap (128 + c.tmod 64))]
    (cond (decide (c < 65536)) [u8w (IntKind.i64.wrap (224 + IntKind.i64.wrap (c.tdiv 4096))), u8w (IntKind.i64.wrap (128 + (IntKind.i64.wrap (c.tdiv 64)).tmod 64)), u8w (IntKind.i64.wrap (128 + c.tmod 64))]
      [u8w (IntKind.i64.wrap (240 + IntKind.i64.wrap (c.tdiv 262144))), u8w (IntKind.i64.wrap (128 + (IntKind.i64.wrap (c.tdiv 4096)).tmod 64)), u8w (IntKind.i64.wrap (128 + (IntKind.i64.wrap (c.tdiv 64)).tmod 64)), u8w (IntKind.i64.wrap (128 + c.tmod 64))]))
theorem put_ev (c : Int) : (evFn (ctx Tryd.prog (G0 ev) []) noL Tryd.f67 [.int .i64 c] []).get =
  cond (decide (c < 128)) (some (.str [u8w c], [])) (cond (decide (c < 2048)) (some (.str [u8w (IntKind.i64.wrap (192 + IntKind.i64.wrap (c.tdiv 64))), u8w (IntKind.i64.wrap (128 + c.tmod 64))], []))
    (cond (decide (c < 65536)) (some (.str [u8w (IntKind.i64.wrap (224 + IntKind.i64.wrap (c.tdiv 4096))), u8w (IntKind.i64.wrap (128 + (IntKind.i64.wrap (c.tdiv 64)).tmod 64)), u8w (IntKind.i64.wrap (128 + c.tmod 64))], []))
      (some (.str [u8w (IntKind.i64.wrap (240 + IntKind.i64.wrap (c.tdiv 262144))), u8w (IntKind.i64.wrap (128 + (IntKind.i64.wrap (c.tdiv 4096)).tmod 64)), u8w (IntKind.i64.wrap (128 + (IntKind.i64.wrap (c.tdiv 64)).tmod 64)), u8w (IntKind.i64.wrap (128 + c.tmod 64))], [])))) := by kernel_rfl
noncomputable def putC : Con where
  spec := fun args st => match args, st with | [.int .i64 c], [] => .ret (.str (putL c), []) | _, _ => .no
  quiet := true
theorem okPut : Con.ok Tryd.prog (G0 ev) 67 putC :=
  loop_spec (l := []) trivial hm Tryd.func67 (by rfl) (by kernel_rfl) fun args st r h => by
    unfold putC at h
    dsimp only at h
    split at h
    · rename_i c
      refine ⟨noL, noL_ok, ?_⟩
      rw [put_ev, ← ret_get h]; unfold putL
      cases decide (c < 128) <;> cases decide (c < 2048) <;> cases decide (c < 65536) <;> rfl
    · exact (no_get h).elim
noncomputable def p1 : List (Nat × Con) := [(67, putC)]
theorem okp1 : AllOK Tryd.prog (G0 ev) p1 := ⟨okPut, trivial⟩

/-! ### Size -/
abbrev W64 (n : Int) : Int := IntKind.i64.wrap n
abbrev bI (b : UInt8) : Int := (b.toNat : Int)
def cp2 (a b : UInt8) : Int := W64 (W64 (W64 (W64 (W64 (bI a) - 192) * 64) + W64 (bI b)) - 128)
def cp3 (a b c : UInt8) : Int := W64 (W64 (W64 (W64 (W64 (W64 (bI a) - 224) * 4096) + W64 (W64 (W64 (bI b) - 128) * 64)) + W64 (bI c)) - 128)
def cp4 (a b c d : UInt8) : Int :=
  W64 (W64 (W64 (W64 (W64 (W64 (W64 (bI a) - 240) * 262144) + W64 (W64 (W64 (bI b) - 128) * 4096)) + W64 (W64 (W64 (bI c) - 128) * 64)) + W64 (bI d)) - 128)
def tst {R : Type} (c : Int) (n : Nat) (s : List UInt8) (A B : Option R) : Option R :=
  cond (decide (0 ≤ c)) (cond (decide (c ≤ 1114111)) (cond (decide (c < 55296)) (cond (decide ((0 : Int) ≤ (n : Int)) && decide ((n : Int) ≤ (s.length : Int))) (cond (decide (putL c = s.take n)) A B) none)
    (cond (decide (57343 < c)) (cond (decide ((0 : Int) ≤ (n : Int)) && decide ((n : Int) ≤ (s.length : Int))) (cond (decide (putL c = s.take n)) A B) none) B)) B) B
def okP (c : Int) (n : Nat) (s : List UInt8) : Bool := decide (0 ≤ c) && (decide (c ≤ 1114111) && ((decide (c < 55296) || decide (57343 < c)) && decide (putL c = s.take n)))
theorem tst_eq {R : Type} (c : Int) (n : Nat) (s : List UInt8) (A B : Option R) (hn : n ≤ s.length) : tst c n s A B = cond (okP c n s) A B := by
  unfold tst okP
  rw [show (decide ((0 : Int) ≤ (n : Int)) && decide ((n : Int) ≤ (s.length : Int))) = true by simp only [Bool.and_eq_true, decide_eq_true_eq]; omega]
  cases decide (0 ≤ c) <;> cases decide (c ≤ 1114111) <;> cases decide (c < 55296) <;> cases decide (57343 < c) <;> cases decide (putL c = s.take n) <;> rfl
noncomputable def cS : Code := Tryd.f55.body.getD .skip
noncomputable def bodyS : Code := (loopAt cS 0).getD .skip
theorem hcS : Tryd.f55.body = some cS := by kernel_rfl
theorem hbS : loopAt cS 0 = some bodyS := by kernel_rfl
noncomputable abbrev XS (ev : Env) : Ctx := ctx Tryd.prog (G0 ev) p1
noncomputable def SS1 (s : List UInt8) (n : Int) : St := stOf Tryd.f55.ntmps [0, 3] [.str s, .int .i64 n] []
noncomputable def OS (x : AV) : St := stOf Tryd.f55.ntmps [2] [x] []
theorem round1 (s : List UInt8) (T : St → Tr (Ex × St)) : (evRound (XS ev) noL [] bodyS 1 [0, 3] [2] (SS1 s 1) T).get =
    cond (decide ((1 : Int) ≤ (s.length : Int))) (atL s 0 fun a => tst (W64 (bI a)) 1 s (some (.ret, OS (.int .i64 1))) (T (SS1 s 2)).get) (some (.exit 0, OS .top)) := by kernel_rfl
theorem round2 (s : List UInt8) (T : St → Tr (Ex × St)) : (evRound (XS ev) noL [] bodyS 1 [0, 3] [2] (SS1 s 2) T).get =
    cond (decide ((2 : Int) ≤ (s.length : Int))) (atL s 0 fun _ => atL s 0 fun a => atL s 1 fun b => tst (cp2 a b) 2 s (some (.ret, OS (.int .i64 2))) (T (SS1 s 3)).get) (some (.exit 0, OS .top)) := by kernel_rfl
theorem round3 (s : List UInt8) (T : St → Tr (Ex × St)) : (evRound (XS ev) noL [] bodyS 1 [0, 3] [2] (SS1 s 3) T).get =
    cond (decide ((3 : Int) ≤ (s.length : Int))) (atL s 0 fun _ => atL s 0 fun a => atL s 1 fun b => atL s 2 fun c => tst (cp3 a b c) 3 s (some (.ret, OS (.int .i64 3))) (T (SS1 s 4)).get) (some (.exit 0, OS .top)) := by kernel_rfl
theorem round4 (s : List UInt8) (T : St → Tr (Ex × St)) : (evRound (XS ev) noL [] bodyS 1 [0, 3] [2] (SS1 s 4) T).get =
    cond (decide ((4 : Int) ≤ (s.length : Int))) (atL s 0 fun _ => atL s 0 fun a => atL s 1 fun b => atL s 2 fun c => atL s 3 fun d => tst (cp4 a b c d) 4 s (some (.ret, OS (.int .i64 4))) (T (SS1 s 5)).get) (some (.exit 0, OS .top)) := by kernel_rfl
theorem round5 (s : List UInt8) (T : St → Tr (Ex × St)) : (evRound (XS ev) noL [] bodyS 1 [0, 3] [2] (SS1 s 5) T).get = some (.exit 0, OS .top) := by kernel_rfl
end Go.Proofs.YtpiphiieflnabaaDoor
