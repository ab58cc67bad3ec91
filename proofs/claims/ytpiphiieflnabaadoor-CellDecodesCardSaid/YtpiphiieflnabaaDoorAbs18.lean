/- The abstract machine: regions whose order is drawn. Conditions: the order is drawn from all (follows mixedOrders). -/
import Derived.Test.YtpiphiieflnabaaDoorAbs17
namespace Go.Abs
section
variable {X : Ctx} {w w' : World} {N N' : Names} {E : Fix} {s : St} {st st' : Store} {a : Act} {o : Oper} {ops : Array Oper}

theorem stepE_congr {ev ev' : Operand → AV} (o : Oper) (h : ∀ x ∈ o.op.operands, ev x = ev' x) : stepE X ev st o = stepE X ev' st o := by
  obtain ⟨dst, op, type, pos, after, guard⟩ := o
  have arr : ∀ ps : Array Operand, (∀ x ∈ ps, ev x = ev' x) → ps.toList.map ev = ps.toList.map ev' := fun ps hp =>
    List.map_congr_left fun x hx => hp x (Array.mem_toList_iff.1 hx)
  have pairs : ∀ ps : Array (Nat × Operand), (∀ x ∈ ps.map (·.2), ev x = ev' x) →
      (ps.toList.map fun p => (p.1, ev p.2)) = (ps.toList.map fun p => (p.1, ev' p.2)) := fun ps hp =>
    List.map_congr_left fun p hm => by
      obtain ⟨i, x⟩ := p
      simp only [hp x (Array.mem_map.2 ⟨(i, x), Array.mem_toList_iff.1 hm, rfl⟩)]
  cases op <;> simp only [Op.operands] at h <;> simp only [stepE]
  case build t ps => rw [pairs ps fun x hx => h x (by simpa using hx)]
  case buildSlice t n ps => rw [pairs ps fun x hx => h x (by simpa using hx)]
  case makeFunc fn first captured =>
    have := arr captured fun x hx => h x (by simp [hx])
    cases fn <;> simp only [this]
  case call c =>
    obtain ⟨callee, args, ts⟩ := c
    cases callee with
    | value f =>
      have e1 := arr args fun x hx => h x (by simp [Call.operands, hx])
      have e2 := h f (by simp [Call.operands])
      simp only [e1, e2]
    | invoke r m => rfl
    | builtin b =>
      have e1 := arr args fun x hx => h x (by simp [Call.operands, hx])
      simp only [e1]
  case slice t x lo hi mx => cases lo <;> cases hi <;> cases mx <;> simp_all
  all_goals (first | rfl | (simp_all; done))

theorem evO_put {G : Nat → Option (List AV)} {dst : Option Tmp} {v : AV} {x : Operand} (h : ∀ d, dst = some d → x ≠ .tmp d) : evO G (s.put dst v st').env x = evO G s.env x := by
  cases dst with
  | none => rfl
  | some d =>
    cases x with
    | tmp t =>
      have hne : d ≠ t := fun e => h d rfl (e ▸ rfl)
      simp [evO, St.put, List.getElem?_set_ne hne, List.getD_eq_getElem?_getD]
    | _ => rfl

/-- What an operation of a region puts. -/
def outR (X : Ctx) (ops : List Oper) (o : Oper) (env : List AV) (st : Store) : Option (AV × Store) :=
  match guardOf ops o with
  | none => (stepE X (evO X.G env) st o).get
  | some (some t, want) =>
    match env.getD t .top with
    | .bool b => if b == want then (stepE X (evO X.G env) st o).get else some (.lit undef, st)
    | .lit (.tuple _) => some (.lit undef, st)
    | _ => none
  | some (none, _) => none

theorem stepR_out (ops : List Oper) (o : Oper) (s : St) : stepR X ops o s = (outR X ops o s.env s.st).map fun p => s.put o.dst p.1 p.2 := by
  unfold stepR outR stepV
  generalize guardOf ops o = q
  rcases q with _ | ⟨_ | t, want⟩
  · rfl
  · rfl
  · dsimp only
    generalize s.env.getD t .top = x
    split
    · split <;> rename_i hb <;> simp only [hb, if_true, if_false, Bool.false_eq_true, Option.map_some]
    · rfl
    · rename_i h1 h2
      split
      · exact absurd rfl (h1 _)
      · exact absurd rfl (h2 _)
      · rfl

theorem outR_put {dst : Option Tmp} {v : AV} (h : ∀ d, dst = some d → d ∉ o.looksAt ops) : outR X ops.toList o (s.put dst v st').env st = outR X ops.toList o s.env st := by
  have he : stepE X (evO X.G (s.put dst v st').env) st o = stepE X (evO X.G s.env) st o := stepE_congr o fun x hx => evO_put fun d hd hxd => h d hd (by
    subst hxd
    exact List.mem_append_left _ (List.mem_filterMap.2 ⟨.tmp d, by simpa using hx, rfl⟩))
  unfold outR
  rw [he]
  split
  · rfl
  · rename_i t want hg
    have hne : ∀ d, dst = some d → d ≠ t := by
      intro d hd e
      subst e
      refine h d hd (List.mem_append_right _ ?_)
      unfold guardOf at hg
      split at hg
      · cases hg
      · rename_i j b hq
        simp only [Option.some.injEq, Prod.mk.injEq, Array.getElem?_toList] at hg
        rw [hq]; simp [hg.1]
    have : (s.put dst v st').env.getD t .top = s.env.getD t .top := by
      cases dst with
      | none => rfl
      | some d => simp [St.put, List.getD_eq_getElem?_getD, List.getElem?_set_ne (hne d rfl)]
    rw [this]
  · rfl

theorem callV_quiet {f : Nat} {c : Con} (hc : X.C f = some c) (hq : c.quiet = true) {args : List AV} {r : AV × Store} (h : (callV X st f args).get = some r) : r.2 = st := by
  unfold callV at h
  rw [hc] at h
  simp only [hq, if_true] at h
  obtain ⟨_, h⟩ := ite_get h
  obtain ⟨p, _, h⟩ := bind_get h
  split at h
  · obtain ⟨_, h⟩ := ite_get h
    have := ret_get h; subst this; rfl
  · obtain ⟨_, h⟩ := ite_get h
    have := ret_get h; subst this; rfl

end
end Go.Abs
