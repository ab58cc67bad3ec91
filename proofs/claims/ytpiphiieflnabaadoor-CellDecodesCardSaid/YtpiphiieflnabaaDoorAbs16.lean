/- The abstract machine: each operation. Conditions: none. -/
import Derived.Test.YtpiphiieflnabaaDoorAbs15
namespace Go.Abs
section
variable {X : Ctx} {w w' : World} {N N' : Names} {E : Fix} {s : St} {st' : Store} {a : Act} {o : Oper}

/-- A frame's state in the model. -/
structure At (E : Fix) (s : St) (a : Act) (w : World) (N : Names) : Prop where
  mem : Mem E s.st w N
  env : EnvRel w (SS E.F N s.st) N s.env a.tmps
  defers : a.defers = []

theorem At.eval (h : At E s a w N) (hG : E.G = X.G) (x : Operand) : Rel w (SS E.F N s.st) N (evO X.G s.env x) (a.eval x) :=
  evO_ok h.env (fun g cs hg => (h.mem.glob g cs (hG ▸ hg)).1 N) x

/-- The operation does this. -/
def StepOK (X : Ctx) (E : Fix) (s : St) (o : Oper) (a : Act) (w : World) (N : Names) (r : AV × Store) : Prop :=
  ∀ (next : Act → World → Prop) (Q : Exit → Act → World → Prop), (∀ u w' N', Goes E s.st w N r.2 w' N' → Rel w' (SS E.F N' r.2) N' r.1 u → next (a.put o.dst u) w') → o.wp X.P a w next Q

theorem step_value {r : AV × Store} {u : Value} (hrun : (execOp a.eval o).run X.P w = .ok (.value u) w') (g : Goes E s.st w N r.2 w' N') (hr : Rel w' (SS E.F N' r.2) N' r.1 u) : StepOK X E s o a w N r := by
  intro next Q hn
  unfold Oper.wp
  rw [hrun]
  exact hn u w' N' g hr

theorem step_skip {r : AV × Store} (hrun : (execOp a.eval o).run X.P w = .ok .skip w') (g : Goes E s.st w N r.2 w' N') (hr : r.1 = .lit undef) : StepOK X E s o a w N r := by
  intro next Q hn
  unfold Oper.wp
  rw [hrun]
  exact hn undef w' N' g (hr ▸ .lit _)

theorem step_call {r : AV × Store} {f : Nat} {vs : Array Value} (hrun : (execOp a.eval o).run X.P w = (callFunc f vs).run X.P w) (hd : Does X.P f vs w (After E s.st w N r)) : StepOK X E s o a w N r := by
  intro next Q hn
  unfold Oper.wp
  rw [hrun]
  rcases hd with ⟨fn, h1, h2, h3, h4⟩ | ⟨v, w', h1, N', g, hr⟩
  · have hb : fn.body ≠ none := by intro hq; simp [hq] at h3
    have : (callFunc f vs).run X.P w = .ok (.enter f vs) w := by simp [callFunc, h1, h2, hb]
    rw [this]
    refine h4.mono ?_
    rintro e w' ⟨v, rfl, N', g, hr⟩
    exact hn v w' N' g hr
  · rw [h1]; exact hn v w' N' g hr

theorem map_pair_get {α : Type} {t : Tr α} {st : Store} {r : α × Store} (h : (t.map (·, st)).get = some r) : t.get = some r.1 ∧ r.2 = st := by
  obtain ⟨x, hx, rfl⟩ := map_get h; exact ⟨hx, rfl⟩

theorem evs_ok (h : At E s a w N) (hG : E.G = X.G) (xs : Array Operand) : RelL w (SS E.F N s.st) N (xs.toList.map (evO X.G s.env)) (xs.map a.eval) := by
  refine ⟨by simp, fun j x v h1 h2 => ?_⟩
  rw [List.getElem?_map, Array.getElem?_toList] at h1
  obtain ⟨y, hy, rfl⟩ := Option.map_eq_some_iff.1 h1
  rw [Array.getElem?_map, hy] at h2
  cases h2
  exact h.eval hG y

theorem parts_ok (h : At E s a w N) (hG : E.G = X.G) (ps : Array (Nat × Operand)) :
    (ps.toList.map fun p => (p.1, evO X.G s.env p.2)).length = (ps.map fun (i, x) => (i, a.eval x)).size ∧
    ∀ (j i : Nat) (b : AV) (i' : Nat) (u : Value), (ps.toList.map fun p => (p.1, evO X.G s.env p.2))[j]? = some (i, b) → (ps.map fun (i, x) => (i, a.eval x)).toList[j]? = some (i', u) → i = i' ∧ Rel w (SS E.F N s.st) N b u := by
  refine ⟨by simp, fun j i b i' u h1 h2 => ?_⟩
  rw [List.getElem?_map, Array.getElem?_toList] at h1
  obtain ⟨y, hy, e⟩ := Option.map_eq_some_iff.1 h1
  cases e
  rw [Array.getElem?_toList, Array.getElem?_map, hy] at h2
  cases h2
  exact ⟨rfl, h.eval hG y.2⟩

theorem builtinV_ok (h : Mem E s.st w N) {b : Builtin} {ts : Array TypeId} {ty : TypeId} {cs : Array Bool} {xs : List AV} {vs : Array Value} {r : AV × Store} (hr : RelL w (SS E.F N s.st) N xs vs)
    (hg : (builtinV X.P s.st b ts.toList xs).get = some r) :
    ∃ u w' N', (builtin b ts ty cs vs).run X.P w = .ok (.value u) w' ∧ Goes E s.st w N r.2 w' N' ∧ Rel w' (SS E.F N' r.2) N' r.1 u := by
  have list : ∀ {l : List AV}, xs = l → vs.size = l.length := fun h => by rw [← hr.1, h]
  unfold builtinV at hg
  split at hg
  · rename_i t x hts
    obtain ⟨hg, hst⟩ := map_pair_get hg
    have hsz : vs.size = 1 := by have := hr.1; simpa using this.symm
    obtain ⟨v, rfl⟩ : ∃ v, vs = #[v] := by
      obtain ⟨l⟩ := vs; match l, hsz with | [v], _ => exact ⟨v, rfl⟩
    have hts' : ts = #[t] := by rw [← Array.toList_inj]; simpa using hts
    subst hts'
    obtain ⟨u, h1, h2⟩ := lenV_ok (P := X.P) (ty := ty) h (hr.2 0 x v rfl rfl) hg
    obtain ⟨r1, r2⟩ := r
    subst hst
    exact ⟨u, w, N, by simp [builtin, h1, Sem.run_bind], .refl h, h2⟩
  · rename_i t tx sx x hts
    have hsz : vs.size = 2 := by have := hr.1; simpa using this.symm
    obtain ⟨v1, v2, rfl⟩ : ∃ v1 v2, vs = #[v1, v2] := by
      obtain ⟨l⟩ := vs; match l, hsz with | [v1, v2], _ => exact ⟨v1, v2, rfl⟩
    have hts' : ts = #[t, tx] := by rw [← Array.toList_inj]; simpa using hts
    subst hts'
    have hnt : notInt X.P tx ∧ (appendV X.P s.st t sx x).get = some r := by
      split at hg
      · rename_i q hq; exact ⟨⟨_, hq, .inr ⟨q, rfl⟩⟩, hg⟩
      · rename_i hq; exact ⟨⟨_, hq, .inl rfl⟩, hg⟩
      · exact (no_get hg).elim
    obtain ⟨u, w', N', h1, h2, h3⟩ := appendV_ok (P := X.P) (ty := ty) h hnt.1 (hr.2 0 sx v1 rfl rfl) (hr.2 1 x v2 rfl rfl) hnt.2
    exact ⟨u, w', N', by simp [builtin, h1, Sem.run_bind], h2, h3⟩
  · split at hg
    · rename_i v hv
      have := ret_get hg; subst this
      obtain ⟨u, h1, h2⟩ := minV_ok (P := X.P) (w := w) (w1 := w) (mx := false) (ts := ts) (ty := ty) (vs := vs.toList) (by simpa using hr.1) (fun j a u h1 h2 => hr.2 j a u h1 (by simpa using h2)) hv
      have h1' : (Builtin.min_ ts ty vs).run X.P w = .ok u w := by simpa using h1
      exact ⟨u, w, N, by simp [builtin, h1', Sem.run_bind], .refl h, h2⟩
    · exact (no_get hg).elim
  · split at hg
    · rename_i v hv
      have := ret_get hg; subst this
      obtain ⟨u, h1, h2⟩ := minV_ok (P := X.P) (w := w) (w1 := w) (mx := true) (ts := ts) (ty := ty) (vs := vs.toList) (by simpa using hr.1) (fun j a u h1 h2 => hr.2 j a u h1 (by simpa using h2)) hv
      have h1' : (Builtin.max_ ts ty vs).run X.P w = .ok u w := by simpa using h1
      exact ⟨u, w, N, by simp [builtin, h1', Sem.run_bind], .refl h, h2⟩
    · exact (no_get hg).elim
  · exact (no_get hg).elim

theorem nilCheck_ok (h : At E s a w N) (hG : E.G = X.G) {x : Operand} {r : AV × Store} (ho : o.op = .nilCheck x)
    (hg : (match evO X.G s.env x with
      | .ptr l o => Tr.ret (AV.ptr l o, s.st)
      | .rptr l i o => .ret (.rptr l i o, s.st)
      | .pim cs => .ret (.pim cs, s.st)
      | .fn f cs => .ret (.fn f cs, s.st)
      | _ => .no).get = some r) : StepOK X E s o a w N r := by
  have hx := h.eval hG x
  split at hg
  all_goals first | exact (no_get hg).elim | skip
  all_goals
    rename_i e
    have := ret_get hg; subst this
    rw [e] at hx
    have hx' := hx
    refine step_value (u := a.eval x) ?_ (.refl h.mem) hx'
    generalize hv : a.eval x = v at hx
    cases hx <;> simp [execOp, ho, hv]

theorem stepV_ok (hX : X.ok) (h : At E s a w N) (hG : E.G = X.G) {r : AV × Store} (hg : (stepV X s o).get = some r) : StepOK X E s o a w N r := by
  unfold stepV stepE at hg
  split at hg
  all_goals try dsimp only at hg
  case h_1 x ho =>
    have := ret_get hg; subst this
    split
    · obtain ⟨N', g, hr⟩ := assignV_ok (P := X.P) (t := o.type) h.mem (h.eval hG x)
      exact step_value (by simp [execOp, ho]) g hr
    · exact step_value (by simp [execOp, ho]) (.refl h.mem) (h.eval hG x)
  case h_2 x ho =>
    have := ret_get hg; subst this
    split
    · obtain ⟨N', g, hr⟩ := assignV_ok (P := X.P) (t := o.type) h.mem (h.eval hG x)
      exact step_value (by simp [execOp, ho]) g hr
    · exact step_value (by simp [execOp, ho]) (.refl h.mem) (h.eval hG x)
  case h_3 c x y ho =>
    split at hg
    · rename_i b hb
      have hc := h.eval hG c
      rw [hb] at hc
      have hc' := rel_bool hc
      cases b
      · have := ret_get (show (Tr.ret _).get = some r from hg); subst this
        exact step_value (u := a.eval y) (by simp [execOp, ho, hc', asBool, Sem.run_bind]) (.refl h.mem) (h.eval hG y)
      · have := ret_get (show (Tr.ret _).get = some r from hg); subst this
        exact step_value (u := a.eval x) (by simp [execOp, ho, hc', asBool, Sem.run_bind]) (.refl h.mem) (h.eval hG x)
    · exact (no_get hg).elim
  case h_4 t ho =>
    split at hg
    · rename_i zs hz
      have := ret_get hg; subst this
      obtain ⟨w', N', h1, g, hr⟩ := alloc_ok h.mem hz
      exact step_value (by simp [execOp, ho, h1, Sem.run_bind]) g hr
    · exact (no_get hg).elim
  case h_5 t x ho =>
    obtain ⟨hok, hg⟩ := ite_get hg
    have := ret_get hg; subst this
    obtain ⟨w', N', h1, g, hr⟩ := box_ok h.mem (h.eval hG x) hok
    exact step_value (by simp [execOp, ho, h1, Sem.run_bind]) g hr
  case h_6 t ps ho =>
    obtain ⟨h1, h2⟩ := parts_ok h hG ps
    obtain ⟨v', N', h3, g, hr⟩ := buildV_ok h.mem h1 h2 hg
    exact step_value (u := v') (by simp [execOp, ho, h3, Sem.run_bind]) g hr
  case h_7 t n ps ho =>
    obtain ⟨h1, h2⟩ := parts_ok h hG ps
    obtain ⟨v', w', N', h3, g, hr⟩ := buildSliceV_ok h.mem h1 h2 hg
    exact step_value (u := v') (by simp [execOp, ho, h3, Sem.run_bind]) g hr
  case h_8 t x ho =>
    obtain ⟨hg, hst⟩ := map_pair_get hg
    obtain ⟨v', h1, h2⟩ := loadV_ok h.mem (h.eval hG x) hg
    obtain ⟨r1, r2⟩ := r; subst hst
    exact step_value (u := v') (by simp [execOp, ho, h1, Sem.run_bind]) (.refl h.mem) h2
  case h_9 t x y ho =>
    obtain ⟨st1, hs, rfl⟩ := map_get hg
    obtain ⟨w', N', h1, g⟩ := storeV_ok h.mem (h.eval hG x) (h.eval hG y) hs
    exact step_skip (by simp [execOp, ho, h1, Sem.run_bind]) g rfl
  case h_10 x ho => exact nilCheck_ok h hG ho hg
  case h_11 op t x y _ ho =>
    obtain ⟨hg, hst⟩ := map_pair_get hg
    obtain ⟨v', h1, h2⟩ := binV_ok (P := X.P) (h.eval hG x) (h.eval hG y) hg w
    obtain ⟨r1, r2⟩ := r; subst hst
    refine step_value (u := v') ?_ (.refl h.mem) h2
    rw [Sem.run_bind] at h1
    simp only [execOp, ho, Sem.run_bind]
    rw [h1]; rfl
  case h_12 op t x ho =>
    obtain ⟨hg, hst⟩ := map_pair_get hg
    obtain ⟨v', h1, h2⟩ := unV_ok (P := X.P) (w1 := w) (h.eval hG x) hg
    obtain ⟨r1, r2⟩ := r; subst hst
    exact step_value (u := v') (by simp [execOp, ho, h1, Sem.run_bind]) (.refl h.mem) h2
  case h_13 src dst x ho =>
    obtain ⟨v', w', N', h1, g, hr⟩ := convV_ok h.mem (h.eval hG x) hg
    exact step_value (u := v') (by simp [execOp, ho, h1, Sem.run_bind]) g hr
  case h_14 t x ho =>
    split at hg
    · exact (no_get hg).elim
    · exact (no_get hg).elim
    · rename_i d hn hd
      have := ret_get hg; subst this
      refine step_value (u := .iface t (a.eval x)) ?_ (.refl h.mem) (.ifc _ _ _ (h.eval hG x))
      simp only [execOp, ho, Sem.run_bind, Instr.makeInterface, run_underlying hd]
      cases d <;> first | rfl | exact absurd rfl (hn _)
  case h_15 f first caps ho =>
    obtain ⟨hf, hg⟩ := ite_get hg
    have := ret_get hg; subst this
    have hf' : first = #[] := by simpa using hf
    obtain ⟨h1, h2⟩ := evs_ok h hG caps
    exact step_value (u := .func (.func f) #[] (caps.map a.eval)) (by simp [execOp, ho, Instr.makeFunc, hf', Sem.run_bind]) (.refl h.mem) (.fn f _ _ h1 h2)
  case h_16 t n c ho =>
    obtain ⟨v', w', N', h1, g, hr⟩ := makeSliceV_ok h.mem (h.eval hG n) (h.eval hG c) hg
    exact step_value (u := v') (by simp [execOp, ho, h1, Sem.run_bind]) g hr
  case h_17 t x lo hi ho =>
    obtain ⟨hg, hst⟩ := map_pair_get hg
    have opt : ∀ (y : Option Operand) (b : AV), y.map (evO X.G s.env) = some b → ∃ v, y.map a.eval = some v ∧ Rel w (SS E.F N s.st) N b v := by
      intro y b hb
      cases y with
      | none => cases hb
      | some y => cases hb; exact ⟨_, rfl, h.eval hG y⟩
    have opt' : ∀ (y : Option Operand), y.map (evO X.G s.env) = none → y.map a.eval = none := by
      intro y hb
      cases y with
      | none => rfl
      | some y => cases hb
    obtain ⟨v', h1, h2⟩ := sliceV_ok h.mem (h.eval hG x) (opt lo) (opt' lo) (opt hi) (opt' hi) (fun _ => rfl) hg
    obtain ⟨r1, r2⟩ := r; subst hst
    exact step_value (u := v') (by simp [execOp, ho, h1, Sem.run_bind]) (.refl h.mem) h2
  case h_18 t x lo hi m ho =>
    unfold slice0V at hg
    split at hg
    · rename_i e hk k0 h0 hu hlo hhi hm
      split at hg
      · rename_i k xs z hs hz
        obtain ⟨hc, hg⟩ := ite_get hg
        have := ret_get hg; subst this
        simp only [Bool.and_eq_true, decide_eq_true_eq] at hc
        obtain ⟨⟨hzk, rfl⟩, rfl⟩ := hc
        obtain ⟨A, c, hv, _⟩ := asSeq_ok h.mem (h.eval hG x) hs
        have hlo' : lo = none := by cases lo <;> first | rfl | cases hlo
        subst hlo'
        obtain ⟨oh, rfl, hoh⟩ := Option.map_eq_some_iff.1 hhi
        have e1 : a.eval oh = .int _ 0 := rel_int (hoh ▸ h.eval hG oh)
        have e2 : a.eval m = .int _ 0 := rel_int (hm ▸ h.eval hG m)
        have g := h.mem.ghost k
        refine step_value (u := .slice A 0 0) ?_ g (.whole _ ⟨none, 0, k.size⟩ 0 A (Names.add_same _ _ _) (.inl ⟨rfl, rfl⟩))
        simp [execOp, ho, hv, e1, e2, Instr.sliceAt, Instr.slice, run_underlying hu, Instr.sliceBounds, Instr.sliceBound, asIntOf, run_sizeT hz, Sem.run_bind]
      · exact (no_get hg).elim
    · exact (no_get hg).elim
  case h_19 t x f ho =>
    obtain ⟨hg, hst⟩ := map_pair_get hg
    obtain ⟨v', h1, h2⟩ := fieldAddrV_ok (P := X.P) (w1 := w) (h.eval hG x) hg
    obtain ⟨r1, r2⟩ := r; subst hst
    exact step_value (u := v') (by simp [execOp, ho, h1, Sem.run_bind]) (.refl h.mem) h2
  case h_20 t x f ho =>
    split at hg
    · rename_i fd cs hfd hx
      obtain ⟨hg, hst⟩ := map_pair_get hg
      have hv := h.eval hG x
      rw [hx] at hv
      generalize hvx : a.eval x = vx at hv
      cases hv with | agg _ vs hl hr => ?_
      obtain ⟨fs, hf1, hf2⟩ := fieldOf_run hfd
      obtain ⟨v', h1, h2⟩ := partV_ok hl.symm hr hg w
      obtain ⟨r1, r2⟩ := r; subst hst
      exact step_value (u := v') (by simp [execOp, ho, Instr.field, run_underlying hf1, hf2, hvx, asAgg, h1, Sem.run_bind]) (.refl h.mem) h2
    · exact (no_get hg).elim
  case h_21 t x i ho =>
    obtain ⟨hg, hst⟩ := map_pair_get hg
    obtain ⟨v', h1, h2⟩ := indexAddrV_ok h.mem (h.eval hG x) (h.eval hG i) hg
    obtain ⟨r1, r2⟩ := r; subst hst
    exact step_value (u := v') (by simp [execOp, ho, h1, Sem.run_bind]) (.refl h.mem) h2
  case h_22 t x i ho =>
    obtain ⟨hg, hst⟩ := map_pair_get hg
    obtain ⟨v', h1, h2⟩ := indexV_ok (P := X.P) (w1 := w) (h.eval hG x) (h.eval hG i) hg
    obtain ⟨r1, r2⟩ := r; subst hst
    exact step_value (u := v') (by simp [execOp, ho, h1, Sem.run_bind]) (.refl h.mem) h2
  case h_23 x i ho =>
    split at hg
    · rename_i cs hx
      have hv := h.eval hG x
      rw [hx] at hv
      generalize hvx : a.eval x = vx at hv
      cases hv with | tup _ vs hl hr => ?_
      split at hg
      · rename_i v hi
        have := ret_get hg; subst this
        have hlt : i < vs.size := by rw [← hl]; exact (List.getElem?_eq_some_iff.1 hi).1
        exact step_value (u := vs[i]) (by simp [execOp, ho, Instr.extract, hvx, Array.getElem?_eq_getElem hlt, Sem.run_bind]) (.refl h.mem) (hr i v _ hi (Array.getElem?_eq_getElem hlt))
      · exact (no_get hg).elim
    · exact (no_get hg).elim
  case h_24 b args ts ho =>
    obtain ⟨u, w', N', h1, g, hr⟩ := builtinV_ok (ty := o.type) (cs := args.map fun | .const _ => true | _ => false) h.mem (evs_ok h hG args) hg
    exact step_value (u := u) (by simp only [execOp, ho, resolve, invoke, Sem.run_bind, Sem.run_pure]; exact h1) g hr
  case h_25 f args _ ho =>
    split at hg
    · rename_i g caps hf
      have hv := h.eval hG f
      rw [hf] at hv
      generalize hvf : a.eval f = vf at hv
      cases hv with | fn _ _ vs hl hr => ?_
      obtain ⟨k1, k2⟩ := evs_ok h hG args
      refine step_call (f := g) (vs := args.map a.eval ++ vs) (by simp [execOp, ho, resolve, Deferred.ofValue, hvf, invoke, Sem.run_bind]) (callV_ok hX h.mem hG ⟨by simp [hl], fun j b v h1 h2 => ?_⟩ hg)
      have hsz : (args.toList.map (evO X.G s.env)).length = (args.map a.eval).size := k1
      by_cases hj : j < (args.toList.map (evO X.G s.env)).length
      · rw [List.getElem?_append_left hj] at h1
        rw [Array.getElem?_append_left (by rw [← hsz]; exact hj)] at h2
        exact k2 j b v h1 h2
      · rw [List.getElem?_append_right (by omega)] at h1
        rw [Array.getElem?_append_right (by omega), ← hsz] at h2
        exact hr _ b v h1 h2
    · exact (no_get hg).elim
  case h_26 => exact (no_get hg).elim
end
end Go.Abs
