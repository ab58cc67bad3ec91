/- The abstract machine: regions. Conditions: the order is drawn from all (follows mixedOrders). -/
import Derived.Test.YtpiphiieflnabaaDoorAbs16
namespace Go.Abs
section
variable {X : Ctx} {w w' : World} {N N' : Names} {E : Fix} {s : St} {st' : Store} {a : Act} {o : Oper}

/-- Names stay. -/
def Ext (N N' : Names) : Prop := ∀ l ni, N l = some ni → N' l = some ni

theorem At.put (h : At E s a w N) {v : AV} {u : Value} (g : Goes E s.st w N st' w' N') (hr : Rel w' (SS E.F N' st') N' v u) (dst : Option Tmp) : At E (s.put dst v st') (a.put dst u) w' N' := by
  have he := h.env.grow g.2
  cases dst with
  | none => exact ⟨g.1, he, h.defers⟩
  | some d =>
    refine ⟨g.1, ⟨by simp [St.put, Act.put, he.1], fun t x y h1 h2 => ?_⟩, h.defers⟩
    simp only [St.put] at h1
    simp only [Act.put] at h2
    by_cases e : d = t
    · subst e
      rw [List.getElem?_set] at h1
      rw [Array.getElem?_setIfInBounds] at h2
      simp at h1 h2
      obtain ⟨_, rfl⟩ := h1; obtain ⟨_, rfl⟩ := h2
      exact hr
    · rw [List.getElem?_set_ne e] at h1
      rw [Array.getElem?_setIfInBounds_ne e] at h2
      exact he.2 t x y h1 h2

/-- One operation of a region, told by its guard's value. -/
def stepR (X : Ctx) (ops : List Oper) (o : Oper) (s : St) : Option St :=
  match guardOf ops o with
  | none => (stepV X s o).get.map fun p => s.put o.dst p.1 p.2
  | some (some t, want) =>
    match s.env.getD t .top with
    | .bool b => if b == want then (stepV X s o).get.map fun p => s.put o.dst p.1 p.2 else some (s.put o.dst (.lit undef) s.st)
    | .lit (.tuple _) => some (s.put o.dst (.lit undef) s.st)
    | _ => none
  | some (none, _) => none

def runL (X : Ctx) (ops : List Oper) : List Oper → St → Option St
  | [], s => some s
  | o :: rest, s => (stepR X ops o s).bind (runL X ops rest)

theorem set_same {env : List AV} {t : Nat} {b : Bool} (h : env.getD t .top = .bool b) : env.set t (.bool b) = env := by
  apply List.ext_getElem?
  intro i
  by_cases e : t = i
  · subst e
    rw [List.getElem?_set]; simp only [if_true]
    split
    · rename_i hlt
      rw [List.getD_eq_getElem?_getD, List.getElem?_eq_getElem hlt] at h
      rw [List.getElem?_eq_getElem hlt]; simpa using h.symm
    · rename_i hlt
      rw [List.getElem?_eq_none (by omega)]
  · rw [List.getElem?_set_ne e]

theorem br_get {α : Type} {b : Bool} {t e : Tr α} : (Tr.br b t e).get = cond b t.get e.get := rfl

theorem evOps_run {R : Type} {ops : List Oper} {K : St → Tr R} {r : R} : ∀ (l : List Oper) (s : St), (evOps X ops l s K).get = some r → ∃ s', runL X ops l s = some s' ∧ (K s').get = some r
  | [], s, h => ⟨s, rfl, h⟩
  | o :: rest, s, h => by
    have step : ∀ {t : Tr (AV × Store)} , (t.bind fun p => evOps X ops rest (s.put o.dst p.1 p.2) K).get = some r →
        ∃ s', ((t.get.map fun p => s.put o.dst p.1 p.2).bind (runL X ops rest)) = some s' ∧ (K s').get = some r := by
      intro t ht
      obtain ⟨p, hp, ht⟩ := bind_get ht
      obtain ⟨s', h1, h2⟩ := evOps_run rest _ ht
      exact ⟨s', by rw [hp]; exact h1, h2⟩
    simp only [evOps] at h
    unfold runL stepR
    split at h
    · rename_i hg; simp only [hg]; exact step h
    · rename_i t want hg
      simp only [hg]
      split at h
      · rename_i b hb
        rw [List.getD_eq_getElem?_getD] at hb
        simp only [List.getD_eq_getElem?_getD, hb]
        have hs : ({ s with env := s.env.set t (.bool b) } : St) = s := by
          rw [set_same (by rw [List.getD_eq_getElem?_getD]; exact hb)]
        rw [br_get] at h
        cases b
        · simp only [cond_false] at h
          split at h
          · rename_i hw; rw [if_pos hw]
            rw [hs] at h
            exact step h
          · rename_i hw; rw [if_neg (by rw [hw]; simp)]
            rw [hs] at h
            exact evOps_run rest _ h
        · simp only [cond_true] at h
          split at h
          · rename_i hw; rw [if_pos hw]
            rw [hs] at h
            exact step h
          · rename_i hw; rw [if_neg (by rw [hw]; simp)]
            rw [hs] at h
            exact evOps_run rest _ h
      · rename_i hb
        rw [List.getD_eq_getElem?_getD] at hb
        simp only [List.getD_eq_getElem?_getD, hb]
        exact evOps_run rest _ h
      · exact (no_get h).elim
    · exact (no_get h).elim

theorem env_get (h : At E s a w N) {t : Nat} {x : AV} (hx : s.env.getD t .top = x) (hne : x ≠ .top) : ∃ v, a.tmps[t]? = some v ∧ Rel w (SS E.F N s.st) N x v := by
  rw [List.getD_eq_getElem?_getD] at hx
  by_cases hlt : t < s.env.length
  · rw [List.getElem?_eq_getElem hlt] at hx
    have hlt' : t < a.tmps.size := by rw [← h.env.1]; exact hlt
    refine ⟨a.tmps[t], Array.getElem?_eq_getElem hlt', h.env.2 t x _ ?_ (Array.getElem?_eq_getElem hlt')⟩
    rw [List.getElem?_eq_getElem hlt]; simpa using hx
  · rw [List.getElem?_eq_none (by omega)] at hx
    exact absurd hx.symm hne

theorem wpOp_ok (hX : X.ok) {ops : Array Oper} {Q : Exit → Act → World → Prop} {i : Nat} {s1 : St} {K : Act → World → Prop} (h : At E s a w N) (hG : E.G = X.G) (ho : ops[i]? = some o)
    (hs : stepR X ops.toList o s = some s1) (hK : ∀ a' w' N', At E s1 a' w' N' → Ext N N' → K a' w') : wpOp X.P ops Q i K a w := by
  unfold wpOp
  simp only [ho]
  have run : ∀ {s1 : St}, ((stepV X s o).get.map fun p => s.put o.dst p.1 p.2) = some s1 → (∀ a' w' N', At E s1 a' w' N' → Ext N N' → K a' w') → o.wp X.P a w K Q := by
    intro s1 h1 hK
    obtain ⟨p, hp, rfl⟩ := Option.map_eq_some_iff.1 h1
    exact stepV_ok hX h hG hp K Q fun u w' N' g hr => hK _ _ _ (h.put g hr o.dst) g.2.names
  have skip : ∀ {s1 : St}, some (s.put o.dst (.lit undef) s.st) = some s1 → (∀ a' w' N', At E s1 a' w' N' → Ext N N' → K a' w') → K (a.put o.dst undef) w := by
    intro s1 h1 hK
    cases h1
    exact hK _ _ _ (h.put (.refl h.mem) (.lit _) o.dst) fun _ _ h => h
  unfold stepR guardOf at hs
  split at hs
  · rename_i hg
    have hg' : o.guard = none := by
      cases hq : o.guard with
      | none => rfl
      | some q => rw [hq] at hg; cases hg
    have hw : Region.wanted o (yielded ops a.tmps) = true := by unfold Region.wanted; rw [hg']
    rw [if_pos hw]
    exact .inl (run hs hK)
  · rename_i t want hg
    obtain ⟨j, hgu, hd⟩ : ∃ j, o.guard = some (j, want) ∧ (ops[j]?).bind (·.dst) = some t := by
      cases hq : o.guard with
      | none => rw [hq] at hg; cases hg
      | some q =>
        obtain ⟨j, b⟩ := q
        rw [hq] at hg
        simp only [Option.some.injEq, Prod.mk.injEq, Array.getElem?_toList] at hg
        exact ⟨j, by rw [hg.2], hg.1⟩
    split at hs
    · rename_i b hb
      obtain ⟨v, hv, hr⟩ := env_get h hb (by simp)
      have := rel_bool hr; subst this
      have hy : Region.wanted o (yielded ops a.tmps) = (b == want) := by
        unfold Region.wanted yielded
        simp only [hgu, hd, Option.bind_some, hv]
        cases b <;> cases want <;> rfl
      rw [hy]
      split at hs
      · rename_i hw; rw [if_pos hw]; exact .inl (run hs hK)
      · rename_i hw; rw [if_neg hw]; exact skip hs hK
    · rename_i vs hb
      obtain ⟨v, hv, hr⟩ := env_get h hb (by simp)
      have := rel_lit hr; subst this
      have hy : Region.wanted o (yielded ops a.tmps) = false := by
        unfold Region.wanted yielded
        simp only [hgu, hd, Option.bind_some, hv]
        cases want <;> rfl
      rw [hy, if_neg (by simp)]
      exact skip hs hK
    · cases hs
  · cases hs

/-! ### In the text's order -/
theorem range_get {α : Type} : ∀ (l : List α), (List.range l.length).filterMap (fun i => l[i]?) = l
  | [] => rfl
  | x :: xs => by
    rw [List.length_cons, List.range_succ_eq_map, List.filterMap_cons]
    simp only [List.getElem?_cons_zero, List.filterMap_map]
    congr 1
    have := range_get xs
    simpa [Function.comp_def] using this

theorem seq_ok (hX : X.ok) (hG : E.G = X.G) {ops : Array Oper} {Q : Exit → Act → World → Prop} {s' : St} : ∀ (l : List Nat) (s : St) (a : Act) (w : World) (N : Names), At E s a w N →
    runL X ops.toList (l.filterMap fun i => ops[i]?) s = some s' → (∀ a' w' N', At E s' a' w' N' → Ext N N' → Q .normal a' w') → wpOps X.P ops Q l a w
  | [], s, a, w, N, h, hr, hQ => by
    cases hr
    exact hQ _ _ _ h fun _ _ h => h
  | i :: l, s, a, w, N, h, hr, hQ => by
    rw [wpOps_cons]
    cases ho : ops[i]? with
    | none =>
      rw [List.filterMap_cons, ho] at hr
      unfold wpOp; simp only [ho]
      exact seq_ok hX hG l s a w N h hr hQ
    | some o =>
      rw [List.filterMap_cons, ho] at hr
      obtain ⟨s1, h1, h2⟩ := Option.bind_eq_some_iff.1 hr
      exact wpOp_ok hX h hG ho h1 fun a' w' N' h' he => seq_ok hX hG l s1 a' w' N' h' h2 fun a2 w2 N2 h3 he2 => hQ a2 w2 N2 h3 fun l ni hl => he2 l ni (he l ni hl)

theorem region_ok (hX : X.ok) (hG : E.G = X.G) {ops : Array Oper} {Q : Exit → Act → World → Prop} {s' : St} {id : Nat} (h : At E s a w N) (hr : runL X ops.toList ops.toList s = some s')
    (hQ : ∀ a' w' N', At E s' a' w' N' → Ext N N' → Q .normal a' w') : (Code.region id ops false).wp X.P Q a w := by
  refine wp_region (seq_ok hX hG _ s a w N h ?_ hQ)
  have := range_get ops.toList
  simp only [Array.length_toList, Array.getElem?_toList] at this
  rw [this]; exact hr
end
end Go.Abs
