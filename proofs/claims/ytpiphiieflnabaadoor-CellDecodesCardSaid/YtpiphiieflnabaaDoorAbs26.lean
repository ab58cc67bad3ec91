/- The abstract machine: slices.Clone, whose argument may be nil. Conditions: its outcome at a nil slice, at another empty one, at one that has elements. -/
import Derived.Test.YtpiphiieflnabaaDoorAbs25
namespace Go.Abs
section
variable {P : Program} {G : Nat → Option (List AV)}

/-- A slice lent is a row of its own. -/
def cloneC (k : EK) : Con where
  spec := fun args st =>
    match args, st with
    | [.seq k' xs], [] => if k' = k then .need (decide (xs.length ≤ LIM)) (.ret (.whole 0, [.row k' xs])) else .no
    | _, _ => .no
  quiet := false
  lend := true
  bare := true

theorem clone_ok {f : Nat} {fn : Func} {c : Code} (hm : P.follows .mixedOrders = true) (hf : P.funcs[f]? = some fn) (hb : fn.body = some c) (hn : (fn.name == "runtime.NumGoroutine") = false) {k : EK}
    (h1 : ∀ n, (evFn (ctx P G []) noL fn [.lit (.slice none 0 n)] []).get = some (.whole 0, [.row k []]))
    (h2 : ∀ a n, (evFn (ctx P G []) noL fn [.lit (.slice (some a) 0 n)] []).get = some (.whole 0, [.row k []]))
    (h3 : ∀ x xs, (evFn (ctx P G []) noL fn [.seq k (x :: xs)] []).get = cond (decide (([] : List k.α).length + (x :: xs).length ≤ LIM)) (some (.whole 0, [.row k (x :: xs)])) none) :
    Con.ok P G f (cloneC k) := by
  intro args st r st' h
  unfold cloneC at h
  dsimp only at h
  split at h
  · rename_i k' xs
    split at h
    · rename_i hk
      subst hk
      · obtain ⟨hl, h⟩ := need_get h
        obtain ⟨rfl, rfl⟩ := Prod.mk.inj (ret_get h)
        have go : ∀ as', (evFn (ctx P G []) noL fn as' []).get = some (.whole 0, [.row k' xs]) → CallsSem P G f as' [] (.whole 0) [.row k' xs] := fun as' h => fn_ok (r := (_, _)) (ctx_ok (l := []) trivial) hm hf hb (by simpa using hn) noL_ok h
        cases xs with
        | cons x xs => exact go _ (by rw [h3, show ([] : List k'.α).length + (x :: xs).length = (x :: xs).length from Nat.zero_add _, hl]; rfl)
        | nil =>
          intro F w N vs hF hM hR
          obtain ⟨hs, hr⟩ := hR
          have hv : ∃ v, vs[0]? = some v := ⟨vs[0]'(by simp at hs; omega), by simp⟩
          obtain ⟨v, hv⟩ := hv
          have := hr 0 _ v rfl hv
          have hx : ∃ A n, v = .slice A 0 n := by
            cases this with
            | seq0 _ n A => exact ⟨A, n, rfl⟩
            | seq _ _ b off n _ _ _ _ _ _ => exact ⟨_, n, rfl⟩
          obtain ⟨A, n, rfl⟩ := hx
          refine go [.lit (.slice A 0 n)] ?_ F w N vs hF hM ⟨hs, fun j a v' ha hv' => ?_⟩
          · cases A with
            | none => exact h1 n
            | some a => exact h2 a n
          · cases j with
            | zero => cases ha; rw [hv] at hv'; cases hv'; exact .lit _
            | succ j => simp at ha
    · exact (no_get h).elim
  · exact (no_get h).elim
end
end Go.Abs
