/- The abstract machine: functions. Conditions: follows mixedOrders. -/
import Derived.Test.YtpiphiieflnabaaDoorAbs21
namespace Go.Abs
section
variable {X : Ctx} {w w' : World} {N N' : Names} {E : Fix} {s s' : St} {st st' : Store} {a : Act}

theorem eval_tmp (h : At E s a w N) (t : Tmp) : Rel w (SS E.F N s.st) N (s.env.getD t .top) (a.tmps.getD t undef) := by
  by_cases ht : t < s.env.length
  · have ht' : t < a.tmps.size := by rw [← h.env.1]; exact ht
    rw [List.getD_eq_getElem?_getD, List.getElem?_eq_getElem ht, Option.getD_some, ← Array.getElem_eq_getD (h := ht')]
    exact h.env.2 t _ _ (List.getElem?_eq_getElem ht) (Array.getElem?_eq_getElem ht')
  · rw [List.getD_eq_getElem?_getD, List.getElem?_eq_none (Nat.le_of_not_lt ht)]; exact .top _

/-- How a result is read. -/
def readR (tmps : Array Value) : ResultVar → Sem Value
  | .tmp t => pure (tmps.getD t undef)
  | .cell a t => do loadVar t (← asAddr (tmps.getD a undef))

theorem loadV_as (h : At E s a w N) {t : TypeId} {x v : AV} {u : Value} (hx : Rel w (SS E.F N s.st) N x u) (hg : (loadV X.P s.st t x).get = some v) :
    ∃ v', (do loadVar t (← asAddr u) : Sem Value).run X.P w = .ok v' w ∧ Rel w (SS E.F N s.st) N v v' := by
  obtain ⟨v', h1, h2⟩ := loadV_ok h.mem hx hg
  refine ⟨v', ?_, h2⟩
  have hp : ∃ A, u = .pointer (some A) := by
    unfold loadV at hg
    split at hg <;> first | exact (no_get hg).elim | (cases hx <;> exact ⟨_, rfl⟩)
  obtain ⟨A, rfl⟩ := hp
  exact h1

theorem resV_ok (h : At E s a w N) : ∀ (rs : List ResultVar) (vs : List AV), (resV X.P s rs).get = some vs →
    ∃ us : List Value, us.length = vs.length ∧ (∀ (j : Nat) (x : AV) (u : Value), vs[j]? = some x → us[j]? = some u → Rel w (SS E.F N s.st) N x u) ∧
      (rs.mapM (readR a.tmps)).run X.P w = .ok us w
  | [], vs, hg => by
    have := ret_get hg; subst this
    exact ⟨[], rfl, by simp, rfl⟩
  | .tmp t :: rs, vs, hg => by
    simp only [resV] at hg
    obtain ⟨vs', hg', rfl⟩ := map_get hg
    obtain ⟨us, h1, h2, h3⟩ := resV_ok h rs vs' hg'
    refine ⟨a.tmps.getD t undef :: us, by simp [h1], fun j x u hx hu => ?_, ?_⟩
    · cases j with
      | zero => simp only [List.getElem?_cons_zero, Option.some.injEq] at hx hu; subst hx; subst hu; exact eval_tmp h t
      | succ j => exact h2 j x u (by simpa using hx) (by simpa using hu)
    · rw [List.mapM_cons]
      simp only [Sem.run_bind, Sem.run_pure, readR, Result.andThen]
      rw [h3]
  | .cell a' t :: rs, vs, hg => by
    simp only [resV] at hg
    obtain ⟨v, hv, hg⟩ := bind_get hg
    obtain ⟨vs', hg', rfl⟩ := map_get hg
    obtain ⟨us, h1, h2, h3⟩ := resV_ok h rs vs' hg'
    obtain ⟨u, h4, h5⟩ := loadV_as h (eval_tmp h a') hv
    refine ⟨u :: us, by simp [h1], fun j x u' hx hu => ?_, ?_⟩
    · cases j with
      | zero => simp only [List.getElem?_cons_zero, Option.some.injEq] at hx hu; subst hx; subst hu; exact h5
      | succ j => exact h2 j x u' (by simpa using hx) (by simpa using hu)
    · rw [List.mapM_cons, Sem.run_bind]
      have h4' : (readR a.tmps (.cell a' t)).run X.P w = .ok u w := h4
      rw [h4']
      simp only [Result.andThen, Sem.run_bind]
      rw [h3]; rfl

theorem results_ok (h : At E s a w N) {fn : Func} {vs : List AV} (hg : (resV X.P s fn.results.toList).get = some vs) :
    ∃ us : List Value, us.length = vs.length ∧ (∀ (j : Nat) (x : AV) (u : Value), vs[j]? = some x → us[j]? = some u → Rel w (SS E.F N s.st) N x u) ∧
      (results fn a.tmps).run X.P w = .ok (if h : us.toArray.size = 1 then us.toArray[0] else .tuple us.toArray) w := by
  obtain ⟨us, h1, h2, h3⟩ := resV_ok (X := X) h fn.results.toList vs hg
  refine ⟨us, h1, h2, ?_⟩
  have hrd : results fn a.tmps = (do let vs ← fn.results.mapM (readR a.tmps); pure (if h : vs.size = 1 then vs[0] else .tuple vs)) := rfl
  rw [hrd, Array.mapM_eq_mapM_toList, Sem.run_bind, Sem.run_map, h3]
  rfl

/-- A function's end. -/
def finish (P : Program) (fn : Func) (st : Store) (e : Ex) (s : St) : Tr (AV × Store) :=
  match e with
  | .exit _ => .no
  | _ => (resV P s fn.results.toList).bind fun vs =>
    let r := fin (cellsOf st) vs s.st
    match keptCells st r.2 with
    | true => .ret (oneOf r.1, r.2)
    | false => .no

/-- A function's beginning. -/
def startSt (fn : Func) (args : List AV) (st : Store) : St := { env := args ++ List.replicate (fn.ntmps - args.length) (.lit undef), st := st }

theorem fn_calls_sem {f : Nat} {fn : Func} {c : Code} {args : List AV} {r : AV × Store} (hf : X.P.funcs[f]? = some fn) (hb : fn.body = some c) {e : Ex} {s1 : St}
    (hc : CodeSem X (cellsOf st) c (startSt fn args st) (e, s1)) (h1 : (finish X.P fn st e s1).get = some r) (F : Nat → Prop) (vs : Array Value) (h : ∀ b, F b → b < w.heap.size ∧ ¬ Own N st b)
    (hm0 : Mem (Fix.at F w N st X.G h) st w N) (ha : RelL w (SS F N st) N args vs) :
    Calls X.P f vs w fun e w' => ∃ v, e = .returned v ∧ ∃ N', Mem (Fix.at F w N st X.G h) r.2 w' N' ∧ Rel w' (SS F N' r.2) N' r.1 v ∧ (∀ l, isCells st[l]? = true → isCells r.2[l]? = true ∧ N' l = N l) := by
  refine calls_of_wp hf hb ?_
  refine hc (Fix.at F w N st X.G h) _ w N _ rfl ⟨hm0, ⟨by simp [startSt, ha.1], fun t x v h1 h2 => ?_⟩, rfl⟩ fun a' w' N' h' he => ?_
  · have h1 : (args ++ List.replicate (fn.ntmps - args.length) (.lit undef))[t]? = some x := h1
    by_cases ht : t < args.length
    · rw [List.getElem?_append_left ht] at h1
      rw [Array.getElem?_append_left (by rw [← ha.1]; exact ht)] at h2
      exact ha.2 t x v h1 h2
    · rw [List.getElem?_append_right (by omega)] at h1
      rw [Array.getElem?_append_right (by rw [← ha.1]; omega)] at h2
      rw [List.getElem?_replicate] at h1
      rw [Array.getElem?_replicate] at h2
      split at h1
      · split at h2
        · cases h1; cases h2; exact .lit _
        · cases h2
      · cases h1
  · have body : ((resV X.P s1 fn.results.toList).bind fun vs => match keptCells st (fin (cellsOf st) vs s1.st).2 with | true => .ret (oneOf (fin (cellsOf st) vs s1.st).1, (fin (cellsOf st) vs s1.st).2) | false => .no).get = some r →
        a'.defers = [] ∧ ∃ v, (results fn a'.tmps).run X.P w' = .ok v w' ∧ ∃ v_1, Ending.returned v = .returned v_1 ∧ ∃ N', Mem (Fix.at F w N st X.G h) r.2 w' N' ∧ Rel w' (SS F N' r.2) N' r.1 v_1 ∧ (∀ l, isCells st[l]? = true → isCells r.2[l]? = true ∧ N' l = N l) := by
      intro hgo
      obtain ⟨vs', hvs, hgo⟩ := bind_get hgo
      obtain ⟨us, u1, u2, u3⟩ := results_ok (X := X) h' hvs
      refine ⟨h'.defers, _, u3, _, rfl, ?_⟩
      split at hgo
      · rename_i hk
        have := ret_get hgo; subst this
        obtain ⟨hlen, N1, g1, hr1⟩ := retires_ok vs' us s1.st N' h'.mem u1.symm u2
        obtain ⟨N2, hm2, hn2, hl2, hr2⟩ := canonF_ok g1.1 (cellsOf st) (retires s1.st vs').1
        have hrel : ∀ (j : Nat) (x : AV) (u : Value), (fin (cellsOf st) vs' s1.st).1[j]? = some x → us[j]? = some u → Rel w' (SS F N2 (fin (cellsOf st) vs' s1.st).2) N2 x u := by
          intro j x u hx hu
          have hj : j < (retires s1.st vs').1.length := by
            have := (List.getElem?_eq_some_iff.1 hx).1
            show j < _
            have e : (fin (cellsOf st) vs' s1.st).1.length = (retires s1.st vs').1.length := hl2
            omega
          obtain ⟨x', h3, h4⟩ := hr2 j _ u (List.getElem?_eq_getElem hj) (hr1 j _ u (List.getElem?_eq_getElem hj) hu)
          have : (fin (cellsOf st) vs' s1.st).1[j]? = some x' := h3
          rw [hx] at this; cases this
          exact h4
        have hlen2 : (fin (cellsOf st) vs' s1.st).1.length = us.length := by
          show (canonF _ _ _).1.length = _
          rw [hl2, hlen, u1]
        refine ⟨N2, hm2, ?_, fun l hl => ?_⟩
        · revert hrel hlen2
          generalize (fin (cellsOf st) vs' s1.st).1 = xs
          intro hrel hlen2
          match xs, us, hlen2 with
          | [x], [u], _ => exact hrel 0 x u rfl rfl
          | [], [], _ => exact .tup [] #[] rfl (by simp)
          | x :: y :: xs, u :: u' :: us, hl => exact .tup _ _ (by simpa using hl) fun j a v h1 h2 => hrel j a v h1 (by simpa using h2)
        · have hlt : l < st.length := by
            rcases Nat.lt_or_ge l st.length with h0 | h0
            · exact h0
            · rw [List.getElem?_eq_none h0] at hl; cases hl
          refine ⟨?_, ?_⟩
          · have := List.all_eq_true.1 hk l (List.mem_range.2 hlt)
            simpa [hl] using this
          · cases hs : st[l]? with
            | none => rw [hs] at hl; cases hl
            | some blk =>
              cases blk with
              | cells cs =>
                obtain ⟨ni, b, c, T, fr, hn, _⟩ := hm0.blks l _ hs
                have hk : (cellsOf st)[l]? = some true := by unfold cellsOf; rw [List.getElem?_map, hs]; rfl
                rw [hn2 l hk, hn]
                exact g1.2.names l ni (he l hk ni hn)
              | _ => rw [hs] at hl; cases hl
      · exact (no_get hgo).elim
    cases e with
    | exit id => exact (no_get h1).elim
    | normal => exact body h1
    | ret => exact body h1

theorem fn_calls (hX : X.ok) (hm : X.P.follows .mixedOrders = true) {L : Nat → St → Tr (Ex × St)} {f : Nat} {fn : Func} {c : Code} {args : List AV} {r : AV × Store} (hf : X.P.funcs[f]? = some fn) (hb : fn.body = some c)
    (hL : LoopsAt X L (cellsOf st) c 0) (hr : (evFn X L fn args st).get = some r) (F : Nat → Prop) (vs : Array Value) (h : ∀ b, F b → b < w.heap.size ∧ ¬ Own N st b)
    (hm0 : Mem (Fix.at F w N st X.G h) st w N) (ha : RelL w (SS F N st) N args vs) :
    Calls X.P f vs w fun e w' => ∃ v, e = .returned v ∧ ∃ N', Mem (Fix.at F w N st X.G h) r.2 w' N' ∧ Rel w' (SS F N' r.2) N' r.1 v ∧ (∀ l, isCells st[l]? = true → isCells r.2[l]? = true ∧ N' l = N l) := by
  unfold evFn at hr
  rw [hb] at hr
  obtain ⟨e, s1, h1, hc⟩ := code_ok hX hm c 0 _ _ hr hL
  exact fn_calls_sem hf hb hc h1 F vs h hm0 ha

theorem fn_ok (hX : X.ok) (hm : X.P.follows .mixedOrders = true) {L : Nat → St → Tr (Ex × St)} {f : Nat} {fn : Func} {c : Code} {args : List AV} {r : AV × Store} (hf : X.P.funcs[f]? = some fn) (hb : fn.body = some c)
    (hn : fn.name ≠ "runtime.NumGoroutine") (hL : LoopsAt X L (cellsOf st) c 0) (hr : (evFn X L fn args st).get = some r) : CallsSem X.P X.G f args st r.1 r.2 :=
  fun F _ _ vs h hm0 ha => .inl ⟨fn, hf, hn, by rw [hb]; rfl, fn_calls hX hm hf hb hL hr F vs h hm0 ha⟩

/-- A function whose code is gone through at each call. -/
def inlined (X : Ctx) (L : Nat → St → Tr (Ex × St)) (fn : Func) (quiet : Bool) : Con := { spec := fun args st => evFn X L fn args st, quiet := quiet }

theorem inlined_ok (hX : X.ok) (hm : X.P.follows .mixedOrders = true) {L : Nat → St → Tr (Ex × St)} {f : Nat} {fn : Func} {c : Code} {quiet : Bool} (hf : X.P.funcs[f]? = some fn) (hb : fn.body = some c)
    (hn : fn.name ≠ "runtime.NumGoroutine") (hL : ∀ n0, LoopsAt X L n0 c 0) : Con.ok X.P X.G f (inlined X L fn quiet) :=
  fun _ _ _ _ h => fn_ok hX hm hf hb hn (hL _) h
end
end Go.Abs
