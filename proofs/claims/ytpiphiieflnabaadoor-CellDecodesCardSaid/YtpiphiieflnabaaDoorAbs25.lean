/- The abstract machine: lists of what is known of functions. Conditions: follows mixedOrders. -/
import Derived.Test.YtpiphiieflnabaaDoorAbs24
namespace Go.Abs
section
variable {P : Program} {G : Nat → Option (List AV)}

def look : List (Nat × Con) → Nat → Option Con
  | [], _ => none
  | (g, c) :: r, f => match Nat.beq g f with | true => some c | false => look r f

def AllOK (P : Program) (G : Nat → Option (List AV)) : List (Nat × Con) → Prop
  | [] => True
  | (f, c) :: r => Con.ok P G f c ∧ AllOK P G r

def ctx (P : Program) (G : Nat → Option (List AV)) (l : List (Nat × Con)) : Ctx := ⟨P, G, look l⟩

theorem ctx_ok : ∀ {l : List (Nat × Con)}, AllOK P G l → (ctx P G l).ok := by
  intro l h f c hc
  show Con.ok P G f c
  change look l f = some c at hc
  induction l with
  | nil => cases hc
  | cons p l ih =>
    obtain ⟨g, d⟩ := p
    unfold look at hc
    cases e : Nat.beq g f with
    | true =>
      rw [e] at hc
      have : g = f := Nat.eq_of_beq_eq_true e
      subst this
      cases hc; exact h.1
    | false => rw [e] at hc; exact ih h.2 hc

def noL : Nat → St → Tr (Ex × St) := fun _ _ => .no

theorem noL_ok {X : Ctx} {ks : List Bool} {c : Code} {off : Nat} : LoopsAt X noL ks c off := fun _ _ _ _ _ h => (no_get h).elim

theorem add_inlined {l : List (Nat × Con)} (hl : AllOK P G l) (hm : P.follows .mixedOrders = true) {f : Nat} {fn : Func} {c : Code} (q : Bool) (hf : P.funcs[f]? = some fn) (hb : fn.body = some c)
    (hn : (fn.name == "runtime.NumGoroutine") = false) : AllOK P G ((f, inlined (ctx P G l) noL fn q) :: l) :=
  ⟨inlined_ok (ctx_ok hl) hm hf hb (by simpa using hn) fun _ => noL_ok, hl⟩

theorem add_spec {l : List (Nat × Con)} (hl : AllOK P G l) (hm : P.follows .mixedOrders = true) {f : Nat} {fn : Func} {c : Code} {con : Con} (hf : P.funcs[f]? = some fn) (hb : fn.body = some c)
    (hn : (fn.name == "runtime.NumGoroutine") = false) (L : Nat → St → Tr (Ex × St)) (hL : ∀ st, LoopsAt (ctx P G l) L (cellsOf st) c 0)
    (h : ∀ args st r, (con.spec args st).get = some r → (evFn (ctx P G l) L fn args st).get = some r) : AllOK P G ((f, con) :: l) :=
  ⟨fun args st r st' hr => fn_ok (r := (r, st')) (ctx_ok hl) hm hf hb (by simpa using hn) (hL st) (h args st (r, st') hr), hl⟩
end
end Go.Abs
