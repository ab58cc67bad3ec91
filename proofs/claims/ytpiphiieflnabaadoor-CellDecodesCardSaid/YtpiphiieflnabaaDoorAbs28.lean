/- The abstract machine: a function gone through piece by piece. Conditions: follows mixedOrders. -/
import Derived.Test.YtpiphiieflnabaaDoorAbs27
namespace Go.Abs
section
variable {X : Ctx} {st : Store} {s s' : St}

/-- Pieces ahead of the rest. -/
def join : List Code → Code → Code
  | [], b => b
  | p :: ps, b => .seq p (join ps b)

def evSegs {R : Type} (X : Ctx) (L : Nat → St → Tr (Ex × St)) : List Code → Nat → St → (Ex → St → Tr R) → Tr R
  | [], _, s, K => K .normal s
  | p :: ps, n, s, K => evCode X L p n s fun e s1 =>
    match e with
    | .normal => evSegs X L ps (n + nloops p) s1 K
    | e => K e s1

def LoopsAll (X : Ctx) (L : Nat → St → Tr (Ex × St)) (n0 : List Bool) : List Code → Nat → Prop
  | [], _ => True
  | p :: ps, n => LoopsAt X L n0 p n ∧ LoopsAll X L n0 ps (n + nloops p)

theorem noL_all {n0 : List Bool} : ∀ {ps : List Code} {n : Nat}, LoopsAll X noL n0 ps n
  | [], _ => trivial
  | _ :: _, _ => ⟨noL_ok, noL_all⟩

theorem CodeSem.mask {n0 : List Bool} {c : Code} {r : Ex × St} (live : List Tmp) (h : CodeSem X n0 c (mask n0 live s) r) : CodeSem X n0 c s r := by
  intro E a w N Q hG h0 hQ
  obtain ⟨N1, h1, e1⟩ := mask_ok n0 live h0
  exact h E a w N1 Q hG h1 fun a' w' N' h' he => hQ a' w' N' h' (e1.trans he)

theorem CodeSem.maskOut {n0 : List Bool} {c : Code} {e : Ex} (live : List Tmp) (h : CodeSem X n0 c s (e, s')) : CodeSem X n0 c s (e, Abs.mask n0 live s') := by
  intro E a w N Q hG h0 hQ
  refine h E a w N Q hG h0 fun a' w' N' h' hx => ?_
  obtain ⟨N1, h1, e1⟩ := mask_ok n0 live h'
  exact hQ a' w' N1 h1 (hx.trans e1)

theorem CodeSem.seq {n0 : List Bool} {a b : Code} {s1 : St} {r : Ex × St} (h : CodeSem X n0 a s (.normal, s1)) (k : CodeSem X n0 b s1 r) : CodeSem X n0 (.seq a b) s r :=
  fun E x w N Q hG h0 hQ => wp_seq (h E x w N _ hG h0 fun a' w' N' h' he => k E a' w' N' Q hG h' fun a2 w2 N2 h2 he2 => hQ a2 w2 N2 h2 (he.trans he2))

theorem CodeSem.seqOut {n0 : List Bool} {a b : Code} {r : Ex × St} (he : r.1 ≠ .normal) (h : CodeSem X n0 a s r) : CodeSem X n0 (.seq a b) s r := by
  obtain ⟨e, s1⟩ := r
  intro E x w N Q hG h0 hQ
  refine wp_seq (h E x w N _ hG h0 fun a' w' N' h' hx => ?_)
  cases e with
  | normal => exact absurd rfl he
  | exit id => exact hQ a' w' N' h' hx
  | ret => exact hQ a' w' N' h' hx

theorem sem_ret {n0 : List Bool} : CodeSem X n0 .ret s (.ret, s) := fun _ _ _ _ _ _ h hQ => wp_ret (hQ _ _ _ h (.refl _ _))
theorem sem_skip {n0 : List Bool} : CodeSem X n0 .skip s (.normal, s) := fun _ _ _ _ _ _ h hQ => wp_skip (hQ _ _ _ h (.refl _ _))

theorem segs_ok {R : Type} (hX : X.ok) (hm : X.P.follows .mixedOrders = true) {L : Nat → St → Tr (Ex × St)} {n0 : List Bool} {r : R} : ∀ (ps : List Code) (off : Nat) (s : St) (K : Ex → St → Tr R), (evSegs X L ps off s K).get = some r →
    LoopsAll X L n0 ps off → ∃ e s', (K e s').get = some r ∧ (e = .normal → ∀ b r2, CodeSem X n0 b s' r2 → CodeSem X n0 (join ps b) s r2) ∧ (e ≠ .normal → ∀ b, CodeSem X n0 (join ps b) s (e, s'))
  | [], _, s, _, h, _ => ⟨.normal, s, h, fun _ _ _ k => k, fun he => absurd rfl he⟩
  | p :: ps, off, s, K, h, hL => by
    unfold evSegs at h
    obtain ⟨e, s1, h1, c1⟩ := code_ok hX hm p off s _ h hL.1
    cases e with
    | normal =>
      obtain ⟨e2, s2, h2, k1, k2⟩ := segs_ok hX hm ps _ s1 K h1 hL.2
      exact ⟨e2, s2, h2, fun he b r2 k => c1.seq (k1 he b r2 k), fun he b => c1.seq (k2 he b)⟩
    | exit id => exact ⟨_, s1, h1, (fun he => by cases he), fun he b => .seqOut he c1⟩
    | ret => exact ⟨_, s1, h1, (fun he => by cases he), fun he b => .seqOut he c1⟩

/-- Pieces: what the evaluator says of them. -/
def evSeg (X : Ctx) (L : Nat → St → Tr (Ex × St)) (n0 : List Bool) (ps : List Code) (off : Nat) (live out : List Tmp) (s : St) (T : St → Tr (Ex × St)) : Tr (Ex × St) :=
  evSegs X L ps off s fun e s1 =>
    match e with
    | .normal => T (mask n0 live s1)
    | e => .ret (e, mask n0 out s1)

theorem seg_ok (hX : X.ok) (hm : X.P.follows .mixedOrders = true) {L : Nat → St → Tr (Ex × St)} {n0 : List Bool} {ps : List Code} {b : Code} {off : Nat} {live out : List Tmp} {T : St → Tr (Ex × St)} {r : Ex × St}
    (hL : LoopsAll X L n0 ps off) (h : (evSeg X L n0 ps off live out s T).get = some r) (hT : ∀ s2, (T s2).get = some r → CodeSem X n0 b s2 r) : CodeSem X n0 (join ps b) s r := by
  obtain ⟨e, s1, h1, k1, k2⟩ := segs_ok hX hm ps off s _ h hL
  cases e with
  | normal => exact k1 rfl b r (.mask live (hT _ h1))
  | exit id =>
    have := ret_get h1; subst this
    exact (k2 (by simp) b).maskOut out
  | ret =>
    have := ret_get h1; subst this
    exact (k2 (by simp) b).maskOut out

theorem seg_to (hX : X.ok) (hm : X.P.follows .mixedOrders = true) {L : Nat → St → Tr (Ex × St)} {n0 : List Bool} {ps : List Code} {b : Code} {off : Nat} {live out : List Tmp} {s2 : St} {r : Ex × St}
    (hL : LoopsAll X L n0 ps off) (h : ∀ T : St → Tr (Ex × St), (evSeg X L n0 ps off live out s T).get = (T s2).get) (k : CodeSem X n0 b s2 r) : CodeSem X n0 (join ps b) s r := by
  classical
  refine seg_ok (T := fun s' => if s' = s2 then .ret r else .no) (r := r) hX hm hL (by rw [h]; simp only [if_true]; rfl) fun s' h' => ?_
  split at h'
  · rename_i he; rw [he]; exact k
  · exact (no_get h').elim

theorem seg_out (hX : X.ok) (hm : X.P.follows .mixedOrders = true) {L : Nat → St → Tr (Ex × St)} {n0 : List Bool} {ps : List Code} {b : Code} {off : Nat} {live out : List Tmp} {r : Ex × St}
    (hL : LoopsAll X L n0 ps off) (h : ∀ T : St → Tr (Ex × St), (evSeg X L n0 ps off live out s T).get = some r) : CodeSem X n0 (join ps b) s r :=
  seg_ok (T := fun _ => .no) hX hm hL (h _) fun _ h' => (no_get h').elim

/-- Loops, each told. -/
def LoopsOK (X : Ctx) (ks : List Bool) (c : Code) (off : Nat) : List (Nat × (St → Tr (Ex × St))) → Prop
  | [] => True
  | (m, t) :: r => (∀ n body, off + n = m → loopAt c n = some body → ∀ s q, (t s).get = some q → LoopSem X ks body s q) ∧ LoopsOK X ks c off r

theorem loops_ok {ks : List Bool} {c : Code} {off : Nat} : ∀ {l : List (Nat × (St → Tr (Ex × St)))}, LoopsOK X ks c off l → LoopsAt X (loops l) ks c off
  | [], _ => fun _ _ _ _ _ h => (no_get h).elim
  | (m, t) :: l, h => fun n body hb s r hr => by
    unfold loops at hr
    cases e : Nat.beq m (off + n) with
    | true =>
      rw [e] at hr
      exact h.1 n body (Nat.eq_of_beq_eq_true e).symm hb s r hr
    | false =>
      rw [e] at hr
      exact loops_ok h.2 n body hb s r hr

theorem loop_entry {ks : List Bool} {c body : Code} {off n N : Nat} {live : List Tmp} {spec : List AV → Store → Tr (Ex × St)} (hb : loopAt c n = some body) (h : LoopOK X ks body N live spec) :
    ∀ n' b, off + n' = off + n → loopAt c n' = some b → ∀ s q, (loopL ks N live spec s).get = some q → LoopSem X ks b s q := by
  intro n' b he hb' s q hq
  have : n' = n := by omega
  subst this
  rw [hb] at hb'; cases hb'
  exact loopL_ok h hq

/-- The last piece. -/
theorem seg_last (hX : X.ok) (hm : X.P.follows .mixedOrders = true) {L : Nat → St → Tr (Ex × St)} {n0 : List Bool} {p : Code} {off : Nat} {live out : List Tmp} {r : Ex × St}
    (hL : LoopsAt X L n0 p off) (h : ∀ T : St → Tr (Ex × St), (evSeg X L n0 [p] off live out s T).get = some r) : CodeSem X n0 p s r := by
  have h := h fun _ => .no
  unfold evSeg evSegs at h
  obtain ⟨e, s1, h1, c1⟩ := code_ok hX hm p off s _ h hL
  cases e with
  | normal => exact (no_get h1).elim
  | exit id => have := ret_get h1; subst this; exact c1.maskOut out
  | ret => have := ret_get h1; subst this; exact c1.maskOut out

/-- A contract of a function gone through piece by piece. -/
theorem sem_spec {P : Program} {G : Nat → Option (List AV)} {l : List (Nat × Con)} {f : Nat} {fn : Func} {c : Code} {con : Con} (hf : P.funcs[f]? = some fn) (hb : fn.body = some c)
    (hn : (fn.name == "runtime.NumGoroutine") = false)
    (h : ∀ args st r, (con.spec args st).get = some r → ∃ e s1, CodeSem (ctx P G l) (cellsOf st) c (startSt fn args st) (e, s1) ∧ (finish P fn st e s1).get = some r) : Con.ok P G f con :=
  fun args st r st' hr F _ _ vs h0 hm0 ha => by
    obtain ⟨e, s1, h1, h2⟩ := h args st (r, st') hr
    exact .inl ⟨fn, hf, by simpa using hn, by rw [hb]; rfl, fn_calls_sem (X := ctx P G l) (r := (r, st')) hf hb h1 h2 F vs h0 hm0 ha⟩

def fstC : Code → Code
  | .seq a _ => a
  | _ => .skip
def sndC : Code → Code
  | .seq _ b => b
  | _ => .skip
/-- What stands behind the first n pieces of a function's code, and the piece there. -/
def tailC (fn : Func) : Nat → Code
  | 0 => fn.body.getD .skip
  | n + 1 => sndC (tailC fn n)
def pieceC (fn : Func) (n : Nat) : Code := fstC (tailC fn n)
end
end Go.Abs
