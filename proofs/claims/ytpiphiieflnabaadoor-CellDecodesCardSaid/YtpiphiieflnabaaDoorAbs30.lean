/- The abstract machine: functions run, their loops gone through round by round. Conditions: follows mixedOrders. -/
import Derived.Test.YtpiphiieflnabaaDoorAbs29
namespace Go.Abs
section
variable {X : Ctx}

theorem loopAt_lt : ∀ {c body : Code} {n : Nat}, loopAt c n = some body → n < nloops c := by
  intro c body n h
  rcases Nat.lt_or_ge n (nloops c) with h1 | h1
  · exact h1
  · rw [noloops n h1] at h; cases h

theorem loopAt_in : ∀ (c body : Code) (n : Nat), loopAt c n = some body → ∀ m b, loopAt body m = some b → loopAt c (n + 1 + m) = some b ∧ n + 1 + m < nloops c := by
  intro c
  induction c with
  | seq x y ihx ihy =>
    intro body n h m b hb
    simp only [loopAt, nloops] at h ⊢
    split at h
    · obtain ⟨h1, h2⟩ := ihx body n h m b hb
      rw [if_pos h2]; exact ⟨h1, by omega⟩
    · obtain ⟨h1, h2⟩ := ihy body _ h m b hb
      rw [if_neg (by omega), show n + 1 + m - nloops x = n - nloops x + 1 + m by omega]; exact ⟨h1, by omega⟩
  | cond o x y ihx ihy =>
    intro body n h m b hb
    simp only [loopAt, nloops] at h ⊢
    split at h
    · obtain ⟨h1, h2⟩ := ihx body n h m b hb
      rw [if_pos h2]; exact ⟨h1, by omega⟩
    · obtain ⟨h1, h2⟩ := ihy body _ h m b hb
      rw [if_neg (by omega), show n + 1 + m - nloops x = n - nloops x + 1 + m by omega]; exact ⟨h1, by omega⟩
  | block id x ih => intro body n h m b hb; exact ih body n h m b hb
  | scope x ih => intro body n h m b hb; exact ih body n h m b hb
  | loop x ih =>
    intro body n h m b hb
    cases n with
    | zero =>
      simp only [loopAt] at h
      cases h
      rw [show 0 + 1 + m = m + 1 by omega]
      exact ⟨hb, by simp only [nloops]; have := loopAt_lt hb; omega⟩
    | succ n =>
      simp only [loopAt] at h
      obtain ⟨h1, h2⟩ := ih body n h m b hb
      rw [show n + 1 + 1 + m = (n + 1 + m) + 1 by omega]
      exact ⟨h1, by simp only [nloops]; omega⟩
  | _ => intro body n h; simp [loopAt] at h

/-- Loops gone through, at most so many rounds deep. -/
def loopF (X : Ctx) (c : Code) (ks : List Bool) (N : Nat) : Nat → Nat → St → Tr (Ex × St)
  | 0, _, _ => .no
  | k + 1, n, s =>
    match loopAt c n with
    | none => .no
    | some body => evRound X (loopF X c ks N k) ks body (n + 1) (List.range N) (List.range N) s (loopF X c ks N k n)

theorem loopF_ok (hX : X.ok) (hm : X.P.follows .mixedOrders = true) {c : Code} {ks : List Bool} {N : Nat} : ∀ (k n : Nat) (body : Code), loopAt c n = some body → ∀ s r, (loopF X c ks N k n s).get = some r → LoopSem X ks body s r
  | 0, _, _, _, _, _, h => (no_get h).elim
  | k + 1, n, body, hb, s, r, h => by
    unfold loopF at h
    rw [hb] at h
    refine round_ok hX hm (fun m b hmb s' r' h' => ?_) h fun s2 h2 => loopF_ok hX hm k n body hb s2 r h2
    exact loopF_ok hX hm k (n + 1 + m) b (loopAt_in c body n hb m b hmb).1 s' r' h'

theorem loopF_at (hX : X.ok) (hm : X.P.follows .mixedOrders = true) {c : Code} {ks : List Bool} {N k : Nat} : LoopsAt X (loopF X c ks N k) ks c 0 :=
  fun n body hb s r h => loopF_ok hX hm k n body hb s r (by rw [Nat.zero_add] at h; exact h)

/-- A function run at each call. -/
def runC (X : Ctx) (k : Nat) (fn : Func) (quiet : Bool) : Con where
  spec := fun args st => evFn X (loopF X (fn.body.getD .skip) (cellsOf st) fn.ntmps k) fn args st
  quiet := quiet

theorem add_run {P : Program} {G : Nat → Option (List AV)} {l : List (Nat × Con)} (hl : AllOK P G l) (hm : P.follows .mixedOrders = true) {f : Nat} {fn : Func} {c : Code} (k : Nat) (q : Bool) (hf : P.funcs[f]? = some fn) (hb : fn.body = some c)
    (hn : (fn.name == "runtime.NumGoroutine") = false) : AllOK P G ((f, runC (ctx P G l) k fn q) :: l) :=
  ⟨fun args st r st' hr => by
    have hc : fn.body.getD .skip = c := by rw [hb]; rfl
    have h : (evFn (ctx P G l) (loopF (ctx P G l) (fn.body.getD .skip) (cellsOf st) fn.ntmps k) fn args st).get = some (r, st') := hr
    rw [hc] at h
    exact fn_ok (r := (r, st')) (ctx_ok hl) hm hf hb (by simpa using hn) (loopF_at (ctx_ok hl) hm) h, hl⟩
end
end Go.Abs
