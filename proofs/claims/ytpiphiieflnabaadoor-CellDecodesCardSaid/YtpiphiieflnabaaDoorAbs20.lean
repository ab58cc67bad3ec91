/- The abstract machine: regions in any order. Conditions: follows mixedOrders. -/
import Derived.Test.YtpiphiieflnabaaDoorAbs19
namespace Go.Abs
section
variable {X : Ctx} {w w' : World} {N N' : Names} {E : Fix} {s s' : St} {st st' : Store} {a : Act} {o t : Oper} {ops : Array Oper}

theorem evO_func (G : Nat → Option (List AV)) (env : List AV) : ∀ f, evO G env (.func f) = .fn f [] := fun _ => rfl

theorem outR_still (h : clsOf X o = .pure ∨ clsOf X o = .read) {env : List AV} {l : List Oper} {r : AV × Store} (hg : outR X l o env st = some r) : r.2 = st := by
  unfold outR at hg
  split at hg
  · exact stepE_still h (evO_func _ _) hg
  · split at hg
    · split at hg
      · exact stepE_still h (evO_func _ _) hg
      · cases hg; rfl
    · cases hg; rfl
    · cases hg
  · cases hg

theorem outR_any (h : clsOf X o = .pure) {env : List AV} {l : List Oper} {v : AV} (hg : outR X l o env st = some (v, st')) (st2 : Store) : outR X l o env st2 = some (v, st2) := by
  unfold outR at hg ⊢
  generalize guardOf l o = q at hg ⊢
  rcases q with _ | ⟨_ | t, want⟩
  · exact stepE_any h hg st2
  · cases hg
  · dsimp only at hg ⊢
    generalize env.getD t .top = x at hg ⊢
    split at hg
    · split at hg
      · rename_i hb; simp only [hb, if_true]; exact stepE_any h hg st2
      · rename_i hb; simp only [hb, Bool.false_eq_true, if_false]; cases hg; rfl
    · cases hg; rfl
    · cases hg

theorem put_put {dt d : Option Tmp} {vt vo : AV} {st1 st2 st3 : Store} (h : ∀ x, dt = some x → d ≠ some x) : ((s.put dt vt st1).put d vo st2).put none .top st3 = ((s.put d vo st3).put dt vt st3).put none .top st3 := by
  cases dt with
  | none => cases d <;> rfl
  | some x =>
    cases d with
    | none => rfl
    | some y =>
      have : x ≠ y := fun e => h x rfl (e ▸ rfl)
      simp only [St.put]
      rw [List.set_comm _ _ this]

theorem put_comm {dt d : Option Tmp} {vt vo : AV} {st1 st2 st3 : Store} (h : ∀ x, dt = some x → d ≠ some x) : (s.put dt vt st1).put d vo st2 = (s.put d vo st3).put dt vt st2 := by
  cases dt with
  | none => cases d <;> rfl
  | some x =>
    cases d with
    | none => rfl
    | some y =>
      have : x ≠ y := fun e => h x rfl (e ▸ rfl)
      simp only [St.put]
      rw [List.set_comm _ _ this]

/-! ### Looks and new memory -/
theorem get_ext {st ext : Store} {l : Nat} {b : Blk} (h : st[l]? = some b) : (st ++ ext)[l]? = some b := by
  rw [List.getElem?_append_left (List.getElem?_eq_some_iff.1 h).1]; exact h

theorem loadV_ext {P : Program} {ty : TypeId} {x v : AV} (h : (loadV P st ty x).get = some v) (ext : Store) : (loadV P (st ++ ext) ty x).get = some v := by
  unfold loadV at h ⊢
  cases x with
  | ptr l o =>
    dsimp only at h ⊢
    cases hl : st[l]? with
    | none => rw [hl] at h; exact (no_get h).elim
    | some b => rw [hl] at h; rw [get_ext hl]; exact h
  | rptr l i o =>
    dsimp only at h ⊢
    cases hl : st[l]? with
    | none => rw [hl] at h; exact (no_get h).elim
    | some b => rw [hl] at h; rw [get_ext hl]; exact h
  | pim cs => exact h
  | _ => exact (no_get h).elim

theorem asSeq_ext {x : AV} {p : (k : EK) × List k.α} (h : asSeq st x = some p) (ext : Store) : asSeq (st ++ ext) x = some p := by
  unfold asSeq at h ⊢
  cases x with
  | seq k xs => exact h
  | whole l =>
    dsimp only at h ⊢
    cases hl : st[l]? with
    | none => rw [hl] at h; cases h
    | some b => rw [hl] at h; rw [get_ext hl]; exact h
  | own l o n =>
    dsimp only at h ⊢
    cases hl : st[l]? with
    | none => rw [hl] at h; cases h
    | some b => rw [hl] at h; rw [get_ext hl]; exact h
  | _ => cases h

theorem lenV_ext {P : Program} {t : TypeId} {x v : AV} (h : (lenV P st t x).get = some v) (ext : Store) : (lenV P (st ++ ext) t x).get = some v := by
  unfold lenV at h ⊢
  split at h
  · exact h
  · exact h
  · rename_i l _
    cases hl : st[l]? with
    | none => rw [hl] at h; exact (no_get h).elim
    | some b => rw [hl] at h; rw [get_ext hl]; exact h
  · exact h
  · exact h
  · exact h
  · exact (no_get h).elim

theorem sliceV_str {P : Program} {t : TypeId} (hu : P.underlying t = some .string) (x : AV) (lo hi : Option AV) (st st2 : Store) : sliceV P st t x lo hi none = sliceV P st2 t x lo hi none := by
  unfold sliceV
  rw [hu]
  cases x <;> rfl

theorem conv_slice_ext {P : Program} {e : TypeId} {u : AV} {r : AV × Store}
    (h : (match P.underlying e, asSeq st u with | some (.int .u8), some ⟨.int .u8, xs⟩ => Tr.ret (AV.str (toStr xs), st) | _, _ => .no).get = some r) :
    r.2 = st ∧ ∀ ext, (match P.underlying e, asSeq (st ++ ext) u with | some (.int .u8), some ⟨.int .u8, xs⟩ => Tr.ret (AV.str (toStr xs), st ++ ext) | _, _ => .no).get = some (r.1, st ++ ext) := by
  split at h
  · rename_i xs hu hs
    have := ret_get h; subst this
    exact ⟨rfl, fun ext => by rw [asSeq_ext hs ext, hu]; rfl⟩
  · exact (no_get h).elim

theorem addName_pre' (l : Nat) (names : List Nat) : names <+: addName l names := by
  unfold addName; split
  · exact List.prefix_refl _
  · exact List.prefix_append _ _
theorem foldl_pre' {f : List Nat → AV → List Nat} (hf : ∀ names a, names <+: f names a) : ∀ (cs : List AV) (names : List Nat), names <+: cs.foldl f names
  | [], names => List.prefix_refl _
  | c :: cs, names => (hf names c).trans (foldl_pre' hf cs _)
theorem visit_pre' (st : Store) : ∀ (n : Nat) (names : List Nat) (a : AV), names <+: visit st n names a
  | 0, names, _ => List.prefix_refl _
  | n + 1, names, a => by
    unfold visit
    split
    · split
      · exact List.prefix_refl _
      · split
        · exact (List.prefix_append _ _).trans (foldl_pre' (visit_pre' st n) _ _)
        · exact List.prefix_append _ _
    · exact addName_pre' _ _
    · exact addName_pre' _ _
    · exact addName_pre' _ _
    · exact foldl_pre' (visit_pre' st n) _ _
    · exact foldl_pre' (visit_pre' st n) _ _
    · exact foldl_pre' (visit_pre' st n) _ _
    · exact visit_pre' st n _ _
    · exact List.prefix_refl _

theorem nil_of_pre {x : List Nat} (h : x <+: []) : x = [] := List.prefix_nil.1 h

theorem fold_nil {f g : List Nat → AV → List Nat} (hf : ∀ names a, names <+: f names a) (hg : ∀ a, f [] a = [] → g [] a = []) : ∀ (cs : List AV), cs.foldl f [] = [] → cs.foldl g [] = [] ∧ ∀ a ∈ cs, f [] a = []
  | [], _ => ⟨rfl, fun a h => by cases h⟩
  | c :: cs, h => by
    have hp := foldl_pre' hf cs (f [] c)
    have h' : cs.foldl f (f [] c) = [] := h
    rw [h'] at hp
    have h1 : f [] c = [] := nil_of_pre hp
    rw [List.foldl_cons, h1] at h
    obtain ⟨k1, k2⟩ := fold_nil hf hg cs h
    refine ⟨by rw [List.foldl_cons, hg c h1]; exact k1, fun a ha => ?_⟩
    rcases List.mem_cons.1 ha with rfl | ha
    · exact h1
    · exact k2 a ha

theorem visit_nil (st st' : Store) : ∀ (n : Nat) (a : AV), visit st n [] a = [] → visit st' n [] a = []
  | 0, _, _ => rfl
  | n + 1, a, h => by
    unfold visit at h ⊢
    cases a with
    | ptr l o =>
      exfalso
      simp only [List.contains_nil, Bool.false_eq_true, if_false] at h
      split at h
      · rename_i cs _
        have hp := foldl_pre' (visit_pre' st n) cs ([] ++ [l])
        rw [h] at hp
        have := nil_of_pre hp
        simp at this
      · simp at h
    | rptr l i o => simp [addName] at h
    | whole l => simp [addName] at h
    | own l o m => simp [addName] at h
    | agg cs => exact (fold_nil (visit_pre' st n) (fun a => visit_nil st st' n a) cs h).1
    | tup cs => exact (fold_nil (visit_pre' st n) (fun a => visit_nil st st' n a) cs h).1
    | fn f cs => exact (fold_nil (visit_pre' st n) (fun a => visit_nil st st' n a) cs h).1
    | ifc t v => exact visit_nil st st' n v h
    | _ => rfl

theorem borrow_ext {st : Store} {v : AV} (h : visit st 12 [] (borrow st v) = []) (ext : Store) : borrow (st ++ ext) v = borrow st v := by
  cases v with
  | whole l =>
    unfold borrow at h ⊢
    dsimp only at h ⊢
    cases hl : st[l]? with
    | none => rw [hl] at h; simp [visit, addName] at h
    | some b =>
      rw [hl] at h
      rw [get_ext hl]
  | own l o n =>
    unfold borrow at h ⊢
    dsimp only at h ⊢
    cases hl : st[l]? with
    | none => rw [hl] at h; simp [visit, addName] at h
    | some b =>
      rw [hl] at h
      rw [get_ext hl]
  | _ => rfl

theorem callV_quiet_ext {f : Nat} {c : Con} (hc : X.C f = some c) (hq : c.quiet = true) {args : List AV} {r : AV × Store} (h : (callV X st f args).get = some r) (ext : Store) :
    (callV X (st ++ ext) f args).get = some (r.1, st ++ ext) := by
  unfold callV at h ⊢
  rw [hc] at h ⊢
  dsimp only at h ⊢
  rw [hq] at h ⊢
  simp only [if_true] at h ⊢
  obtain ⟨hn, h⟩ := ite_get h
  have hv : visits st (args.map (borrow st)) = [] := by simpa [canon] using hn
  obtain ⟨k1, k2⟩ := fold_nil (visit_pre' st 12) (fun a => visit_nil st (st ++ ext) 12 a) _ hv
  have hb : args.map (borrow (st ++ ext)) = args.map (borrow st) := by
    apply List.map_congr_left
    intro a ha
    exact borrow_ext (k2 _ (List.mem_map_of_mem ha)) ext
  have hv' : visits (st ++ ext) (args.map (borrow st)) = [] := k1
  rw [hb]
  have e1 : (canon (args.map (borrow st)) (st ++ ext)).1 = (canon (args.map (borrow st)) st).1 := by simp only [canon, hv, hv']
  have e2 : (canon (args.map (borrow st)) (st ++ ext)).2.1 = (canon (args.map (borrow st)) st).2.1 := by simp only [canon, hv, hv']; rfl
  have e3 : (canon (args.map (borrow st)) (st ++ ext)).2.2 = (canon (args.map (borrow st)) st).2.2 := by simp only [canon, hv, hv']
  rw [e1, e2, e3, if_pos hn]
  rw [Tr.get_bind] at h ⊢
  obtain ⟨p, hp, h⟩ := Option.bind_eq_some_iff.1 h
  rw [hp]
  simp only [Option.bind_some]
  split at h
  · rename_i hfr
    rw [if_pos hfr]
    obtain ⟨hi, h⟩ := ite_get h
    have := ret_get h; subst this
    rw [if_pos hi]; rfl
  · rename_i hfr
    rw [if_neg hfr]
    obtain ⟨hi, h⟩ := ite_get h
    have := ret_get h; subst this
    rw [if_pos hi]; rfl

theorem outR_peek (h : isPeek X o = true) {env : List AV} {l : List Oper} {v : AV} (hg : outR X l o env st = some (v, st')) : st' = st ∧ ∀ ext, outR X l o env (st ++ ext) = some (v, st ++ ext) := by
  have step : ∀ {r : AV × Store}, (stepE X (evO X.G env) st o).get = some r → r.2 = st ∧ ∀ ext, (stepE X (evO X.G env) (st ++ ext) o).get = some (r.1, st ++ ext) := by
    intro r hr
    obtain ⟨dst, op, type, p, after, guard⟩ := o
    cases op with
    | load ty x =>
      obtain ⟨h1, h2⟩ := map_pair_get hr
      refine ⟨h2, fun ext => ?_⟩
      show ((loadV X.P (st ++ ext) ty (evO X.G env x)).map (·, st ++ ext)).get = _
      rw [Tr.get_map, loadV_ext h1 ext]; rfl
    | slice ty x lo hi mx =>
      cases mx with
      | some m => cases h
      | none =>
        have hu : X.P.underlying ty = some .string := by
          unfold isPeek at h
          dsimp only at h
          split at h
          · assumption
          · cases h
        obtain ⟨h1, h2⟩ := map_pair_get (show ((sliceV X.P st ty (evO X.G env x) (lo.map (evO X.G env)) (hi.map (evO X.G env)) none).map (·, st)).get = some r from hr)
        refine ⟨h2, fun ext => ?_⟩
        show ((sliceV X.P (st ++ ext) ty (evO X.G env x) (lo.map (evO X.G env)) (hi.map (evO X.G env)) none).map (·, st ++ ext)).get = _
        rw [Tr.get_map, sliceV_str hu _ _ _ (st ++ ext) st, h1]; rfl
    | convert src dst x =>
      have h' : ∃ e, X.P.underlying src = some (.slice e) ∧ X.P.underlying dst = some .string := by
        unfold isPeek at h
        dsimp only at h
        split at h
        · rename_i h1 h2; exact ⟨_, h1, h2⟩
        · cases h
      obtain ⟨e, hs, hd⟩ := h'
      have hr' : (convV X.P st src dst (evO X.G env x)).get = some r := hr
      have goal' : r.2 = st ∧ ∀ ext, (convV X.P (st ++ ext) src dst (evO X.G env x)).get = some (r.1, st ++ ext) := by
        unfold convV at hr' ⊢
        rw [hs, hd] at hr' ⊢
        generalize evO X.G env x = u at hr' ⊢
        cases u with
        | int k n => simp at hr'; exact conv_slice_ext hr'
        | str s => simp at hr' ⊢; have := ret_get hr'; subst this; exact ⟨rfl, fun _ => rfl⟩
        | _ => simp at hr' ⊢; exact conv_slice_ext hr'
      exact goal'
    | call c =>
      obtain ⟨callee, args, ats⟩ := c
      cases callee with
      | value f =>
        cases f with
        | func f =>
          unfold isPeek at h
          dsimp only at h
          split at h
          · rename_i con hcon
            have hr' : (callV X st f (args.toList.map (evO X.G env) ++ [])).get = some r := hr
            refine ⟨callV_quiet hcon h hr', fun ext => ?_⟩
            exact callV_quiet_ext hcon h hr' ext
          · cases h
        | _ => cases h
      | builtin b =>
        cases b <;> first | (cases h; done) | skip
        have hr' : (builtinV X.P st .len ats.toList (args.toList.map (evO X.G env))).get = some r := hr
        show r.2 = st ∧ ∀ ext, (builtinV X.P (st ++ ext) .len ats.toList (args.toList.map (evO X.G env))).get = some (r.1, st ++ ext)
        generalize ats.toList = ts at hr' ⊢
        generalize (args.toList.map (evO X.G env)) = xs at hr' ⊢
        rcases ts with _ | ⟨t, _ | ⟨t2, ts⟩⟩ <;> rcases xs with _ | ⟨x, _ | ⟨x2, xs⟩⟩ <;> first | exact (no_get hr').elim | skip
        obtain ⟨h1, h2⟩ := map_pair_get (show ((lenV X.P st t x).map (·, st)).get = some r from hr')
        refine ⟨h2, fun ext => ?_⟩
        show ((lenV X.P (st ++ ext) t x).map (·, st ++ ext)).get = _
        rw [Tr.get_map, lenV_ext h1 ext]; rfl
      | _ => cases h
    | _ => cases h
  unfold outR at hg ⊢
  generalize guardOf l o = q at hg ⊢
  rcases q with _ | ⟨_ | t, want⟩
  · exact step hg
  · cases hg
  · dsimp only at hg ⊢
    generalize env.getD t .top = x at hg ⊢
    split at hg
    · split at hg
      · rename_i hb; simp only [hb, if_true]; exact step hg
      · rename_i hb; simp only [hb, Bool.false_eq_true, if_false]; cases hg; exact ⟨rfl, fun _ => rfl⟩
    · cases hg; exact ⟨rfl, fun _ => rfl⟩
    · cases hg

theorem ghost1_ext (P : Program) (st : Store) (v : AV) (t : TypeId) : ∃ ext, (ghost1 P st v t).2 = st ++ ext := by
  unfold ghost1
  split
  · split
    · split
      · exact ⟨_, rfl⟩
      · exact ⟨[], by simp⟩
    · exact ⟨[], by simp⟩
  · exact ⟨[], by simp⟩

theorem ghosts_ext (P : Program) : ∀ (vs : List AV) (ts : List TypeId) (st : Store), ∃ ext, (ghosts P st vs ts).2 = st ++ ext
  | [], ts, st => ⟨[], by simp [ghosts]⟩
  | v :: vs, [], st => ⟨[], by simp [ghosts]⟩
  | v :: vs, t :: ts, st => by
    obtain ⟨e1, h1⟩ := ghost1_ext P st v t
    obtain ⟨e2, h2⟩ := ghosts_ext P vs ts (ghost1 P st v t).2
    refine ⟨e1 ++ e2, ?_⟩
    show (ghosts P (ghost1 P st v t).2 vs ts).2 = _
    rw [h2, h1, List.append_assoc]

theorem ghostV_ext (P : Program) (st : Store) (v : AV) (t : TypeId) : ∃ ext, (ghostV P st v t).2 = st ++ ext := by
  unfold ghostV
  split
  · exact ghosts_ext P _ _ st
  · exact ghost1_ext P st _ t

theorem assignV_ext (P : Program) (st : Store) (t : TypeId) (v : AV) : ∃ ext, (assignV P st t v).2 = st ++ ext := by
  unfold assignV
  split
  · exact ghost1_ext P st _ t
  · exact ⟨[], by simp⟩

def plainA : AV → Bool
  | .int .. | .bool _ | .str _ => true
  | _ => false

theorem enc_flatA : ∀ (k : EK), k.flat = true → ∀ (x : k.α) (a : AV), a ∈ k.enc x → plainA a = true
  | .int _, _, _, a, h => by simp [EK.enc] at h; subst h; rfl
  | .bool, _, _, a, h => by simp [EK.enc] at h; subst h; rfl
  | .str, _, _, a, h => by simp [EK.enc] at h; subst h; rfl
  | .seq _, hf, _, _, _ => by simp [EK.flat] at hf
  | .pair k1 k2, hf, p, a, h => by
    simp only [EK.flat, Bool.and_eq_true] at hf
    simp only [EK.enc, List.mem_append] at h
    rcases h with h | h
    · exact enc_flatA k1 hf.1 _ a h
    · exact enc_flatA k2 hf.2 _ a h

theorem releases_plain : ∀ (cs : List AV) (st : Store), (∀ a ∈ (releases st cs).1, plainA a = true) → (releases st cs).2 = st
  | [], st, _ => rfl
  | v :: vs, st, h => by
    have h0 : plainA (release st v).1 = true := h _ (by simp [releases])
    have hst : (release st v).2 = st := by
      unfold release at h0 ⊢
      split
      · rename_i l hl
        rw [hl] at h0
        dsimp only at h0
        exfalso
        cases v <;> simp [rowName] at hl <;> simp only [borrow] at h0 <;> split at h0 <;> simp [plainA] at h0
      · rfl
    have : (releases (release st v).2 vs).2 = (release st v).2 := releases_plain vs _ fun a ha => h a (by simp only [releases]; exact List.mem_cons_of_mem _ ha)
    show (releases (release st v).2 vs).2 = st
    rw [this, hst]

theorem fillRow_flat {k : EK} (hk : k.flat = true) : ∀ (ps : List (Nat × AV)) (st : Store) (xs : List k.α) (r : List k.α × Store), fillRow k st xs ps = some r → r.2 = st
  | [], st, xs, r, h => by cases h; rfl
  | (i, v) :: ps, st, xs, r, h => by
    simp only [fillRow] at h
    split at h
    · rename_i x hx
      have hst : (releases st v.cells).2 = st := releases_plain _ _ fun a ha => by
        rw [← dec_enc k _ x hx] at ha
        exact enc_flatA k hk x a ha
      split at h
      · have := fillRow_flat hk ps _ _ r h
        rw [this, hst]
      · cases h
    · cases h

theorem callV_grow {f : Nat} {c : Con} (hc : X.C f = some c) (hq : c.quiet = false) (hl : c.lend = true) (hb : c.bare = true) {args : List AV} {r : AV × Store} (h : (callV X st f args).get = some r) :
    ∃ ext, r.2 = st ++ ext := by
  unfold callV at h
  rw [hc] at h
  dsimp only at h
  rw [hq, hl, hb] at h
  simp only [Bool.false_eq_true, if_false, if_true, Bool.true_and] at h
  split at h
  · exact (no_get h).elim
  · rename_i hn
    have hn : (canon (args.map (borrow st)) st).2.2 = [] := by simpa using hn
    obtain ⟨_, h⟩ := ite_get h
    obtain ⟨p, _, h⟩ := bind_get h
    obtain ⟨_, h⟩ := ite_get h
    have := ret_get h; subst this
    rw [hn]
    unfold merge mergeSt
    dsimp only
    have : ∀ (n : Nat) (l : List Blk) (g : Nat → Blk → Blk), (∀ i b, g i b = b) → mapI g n l = l := by
      intro n l g hg
      induction l generalizing n with
      | nil => rfl
      | cons b l ih => simp only [mapI, hg, ih]
    exact ⟨_, congr (congrArg (· ++ ·) (this 0 st _ fun i b => rfl)) rfl⟩

theorem outR_grow (h : isGrow X o = true) {env : List AV} {l : List Oper} {v : AV} (hg : outR X l o env st = some (v, st')) : ∃ ext, st' = st ++ ext := by
  have step : ∀ {r : AV × Store}, (stepE X (evO X.G env) st o).get = some r → ∃ ext, r.2 = st ++ ext := by
    intro r hr
    obtain ⟨dst, op, type, p, after, guard⟩ := o
    cases op with
    | alloc ty =>
      unfold stepE at hr
      dsimp only at hr
      split at hr
      · rename_i zs hz
        have := ret_get hr; subst this
        obtain ⟨e, he⟩ := ghosts_ext X.P zs (leaves X.P 6 ty) st
        exact ⟨e ++ _, by dsimp only; rw [he, List.append_assoc]⟩
      · exact (no_get hr).elim
    | move x =>
      cases x with
      | const c => have := ret_get hr; subst this; exact assignV_ext _ _ _ _
      | _ => cases h
    | assign x =>
      cases x with
      | const c => have := ret_get hr; subst this; exact assignV_ext _ _ _ _
      | _ => cases h
    | box ty x =>
      unfold stepE at hr
      dsimp only at hr
      split at hr
      · have := ret_get hr; subst this
        obtain ⟨e, he⟩ := ghostV_ext X.P st (evO X.G env x) ty
        exact ⟨e ++ _, by dsimp only; rw [he, List.append_assoc]⟩
      · exact (no_get hr).elim
    | build ty ps =>
      have hr' : (buildV X.P st ty (ps.toList.map fun p => (p.1, evO X.G env p.2))).get = some r := hr
      unfold buildV at hr'
      split at hr'
      · exact (no_get hr').elim
      · split at hr'
        · split at hr'
          · have := ret_get hr'; subst this
            exact ghostV_ext _ _ _ _
          · exact (no_get hr').elim
        · exact (no_get hr').elim
    | makeSlice ty n c =>
      have hr' : (makeSliceV X.P st ty (evO X.G env n) (evO X.G env c)).get = some r := hr
      unfold makeSliceV at hr'
      split at hr'
      · split at hr'
        · split at hr'
          · obtain ⟨_, h2⟩ := need_get hr'
            have := ret_get h2; subst this
            exact ⟨_, rfl⟩
          · exact (no_get hr').elim
        · exact (no_get hr').elim
      · exact (no_get hr').elim
    | buildSlice ty n ps =>
      have hr' : (buildSliceV X.P st ty n (ps.toList.map fun p => (p.1, evO X.G env p.2))).get = some r := hr
      unfold buildSliceV at hr'
      unfold isGrow at h
      dsimp only at h
      split at h
      · rename_i e hu
        rw [hu] at hr'
        dsimp only at hr'
        split at h
        · rename_i k hk
          rw [hk] at hr'
          split at hr'
          · rename_i k' z he hz
            cases he
            split at hr'
            · split at hr'
              · rename_i xs st1 hf
                have := ret_get hr'; subst this
                have := fillRow_flat h _ _ _ _ hf
                exact ⟨[.row k xs], by dsimp only at this ⊢; rw [this]⟩
              · exact (no_get hr').elim
            · exact (no_get hr').elim
          · exact (no_get hr').elim
        · cases h
      · cases h
    | call c =>
      obtain ⟨callee, args, ats⟩ := c
      cases callee with
      | value f =>
        cases f with
        | func f =>
          unfold isGrow at h
          dsimp only at h
          split at h
          · rename_i con hcon
            simp only [Bool.and_eq_true, Bool.not_eq_true'] at h
            have hr' : (callV X st f (args.toList.map (evO X.G env) ++ [])).get = some r := hr
            exact callV_grow hcon h.1.1 h.1.2 h.2 hr'
          · cases h
        | _ => cases h
      | _ => cases h
    | _ => cases h
  unfold outR at hg
  split at hg
  · exact step hg
  · split at hg
    · split at hg
      · exact step hg
      · cases hg; exact ⟨[], by simp⟩
    · cases hg; exact ⟨[], by simp⟩
    · cases hg
  · cases hg

theorem swap_ok (hi : indep X ops t o = true) (h : (stepR X ops.toList t s).bind (stepR X ops.toList o) = some s') : (stepR X ops.toList o s).bind (stepR X ops.toList t) = some s' := by
  unfold indep at hi
  simp only [Bool.and_eq_true] at hi
  obtain ⟨⟨h1, h2⟩, hc⟩ := hi
  obtain ⟨a1, a2, a3⟩ := Oper.apart_spec h1
  obtain ⟨s1, e1, e2⟩ := Option.bind_eq_some_iff.1 h
  rw [stepR_out] at e1 e2
  obtain ⟨⟨vt, st1⟩, o1, rfl⟩ := Option.map_eq_some_iff.1 e1
  obtain ⟨⟨vo, st2⟩, o2, rfl⟩ := Option.map_eq_some_iff.1 e2
  rw [outR_put (ops := ops) a1] at o2
  have o2 : outR X ops.toList o s.env st1 = some (vo, st2) := o2
  simp only at e1 e2 ⊢
  -- what o does first, then t
  have key : ∃ st3, outR X ops.toList o s.env s.st = some (vo, st3) ∧ outR X ops.toList t s.env st3 = some (vt, st2) := by
    have still : ∀ {x : Oper} {env : List AV} {q q' : Store} {v : AV}, (clsOf X x = .pure ∨ clsOf X x = .read) → outR X ops.toList x env q = some (v, q') → q' = q := fun hx hy => outR_still hx hy
    generalize hct : clsOf X t = ct at hc
    generalize hco : clsOf X o = co at hc
    have pt : ct = .pure → ∃ st3, outR X ops.toList o s.env s.st = some (vo, st3) ∧ outR X ops.toList t s.env st3 = some (vt, st2) := by
      rintro rfl
      have := still (.inl hct) o1; subst this
      exact ⟨st2, o2, outR_any hct o1 st2⟩
    have po : co = .pure → ∃ st3, outR X ops.toList o s.env s.st = some (vo, st3) ∧ outR X ops.toList t s.env st3 = some (vt, st2) := by
      rintro rfl
      have := still (.inl hco) o2; subst this
      exact ⟨s.st, outR_any hco o2 s.st, o1⟩
    have pg : (isPeek X t && isGrow X o) = true → ∃ st3, outR X ops.toList o s.env s.st = some (vo, st3) ∧ outR X ops.toList t s.env st3 = some (vt, st2) := by
      intro hpg
      simp only [Bool.and_eq_true] at hpg
      obtain ⟨e1, p2⟩ := outR_peek hpg.1 o1
      subst e1
      obtain ⟨ext, e2⟩ := outR_grow hpg.2 o2
      subst e2
      exact ⟨_, o2, p2 ext⟩
    cases ct with
    | pure => exact pt rfl
    | read =>
      cases co with
      | pure => exact po rfl
      | read =>
        have := still (.inr hct) o1; subst this
        have := still (.inr hco) o2; subst this
        exact ⟨_, o2, o1⟩
      | _ => exact pg hc
    | _ => cases co <;> first | exact po rfl | exact pg hc
  obtain ⟨st3, k1, k2⟩ := key
  rw [stepR_out, k1]
  show stepR X ops.toList t (s.put o.dst vo st3) = some ((s.put t.dst vt st1).put o.dst vo st2)
  rw [stepR_out, outR_put (ops := ops) a3]
  have k2' : outR X ops.toList t s.env (s.put o.dst vo st3).st = some (vt, st2) := k2
  rw [k2', put_comm a2]; rfl

theorem bubble_ok {l2 : List Oper} : ∀ (l1 : List Oper) (s : St), (∀ t ∈ l1, indep X ops t o = true) → runL X ops.toList (l1 ++ o :: l2) s = some s' → runL X ops.toList (o :: (l1 ++ l2)) s = some s'
  | [], s, _, h => h
  | t :: l1, s, hi, h => by
    obtain ⟨s1, h1, h2⟩ := Option.bind_eq_some_iff.1 h
    have h3 := bubble_ok l1 s1 (fun t ht => hi t (List.mem_cons_of_mem _ ht)) h2
    obtain ⟨s2, h4, h5⟩ := Option.bind_eq_some_iff.1 h3
    have h6 := swap_ok (hi t (by simp)) (show (stepR X ops.toList t s).bind (stepR X ops.toList o) = some s2 by rw [h1]; exact h4)
    obtain ⟨s3, h7, h8⟩ := Option.bind_eq_some_iff.1 h6
    show (stepR X ops.toList o s).bind (runL X ops.toList (t :: (l1 ++ l2))) = some s'
    rw [h7]
    show (stepR X ops.toList t s3).bind (runL X ops.toList (l1 ++ l2)) = some s'
    rw [h8]; exact h5

/-! ### What is still to do -/
def todo (p : List Nat) (listed : Array Bool) : List Nat := p.filter fun i => !listed.getD i true

theorem todo_set {p : List Nat} {listed : Array Bool} {i : Nat} (hs : ∀ j ∈ p, j < listed.size) : todo p (listed.setIfInBounds i true) = (todo p listed).filter (fun j => decide (j ≠ i)) := by
  unfold todo
  rw [List.filter_filter]
  apply List.filter_congr
  intro j hj
  have hj := hs j hj
  by_cases e : i = j
  · subst e; simp [hj]
  · simp [Array.getElem?_setIfInBounds_ne e, Ne.symm e]

/-- It stands ahead, at last. -/
inductive Ahead (ops : Array Oper) : Nat → Nat → Prop
  | one {i j : Nat} (h : j ∈ edges ops i) : Ahead ops i j
  | more {i m j : Nat} (h : m ∈ edges ops i) (k : Ahead ops m j) : Ahead ops i j

theorem mem_addName {l x : Nat} {names : List Nat} (h : x ∈ addName l names) : x = l ∨ x ∈ names := by
  unfold addName at h
  split at h
  · exact .inr h
  · rcases List.mem_append.1 h with h | h
    · exact .inr h
    · simp at h; exact .inl h

theorem mem_addAll {x : Nat} : ∀ (xs acc : List Nat), x ∈ addAll xs acc → x ∈ xs ∨ x ∈ acc
  | [], acc, h => .inr h
  | y :: xs, acc, h => by
    rcases mem_addAll xs (addName y acc) h with h | h
    · exact .inl (List.mem_cons_of_mem _ h)
    · rcases mem_addName h with rfl | h
      · exact .inl (by simp)
      · exact .inr h

theorem aheads_length (ops : Array Oper) : ∀ n, (aheads ops n).length = n
  | 0 => rfl
  | n + 1 => by simp [aheads, aheads_length ops n]

theorem mem_fold {l : List (List Nat)} {x : Nat} : ∀ (es acc : List Nat), x ∈ es.foldl (fun acc j => addAll (l.getD j []) (addName j acc)) acc → x ∈ acc ∨ ∃ m ∈ es, x = m ∨ x ∈ l.getD m []
  | [], acc, h => .inl h
  | e :: es, acc, h => by
    rcases mem_fold es _ h with h | ⟨m, hm, h⟩
    · rcases mem_addAll _ _ h with h | h
      · exact .inr ⟨e, by simp, .inr h⟩
      · rcases mem_addName h with rfl | h
        · exact .inr ⟨x, by simp, .inl rfl⟩
        · exact .inl h
    · exact .inr ⟨m, List.mem_cons_of_mem _ hm, h⟩

theorem aheads_ok (ops : Array Oper) : ∀ (n i j : Nat), j ∈ (aheads ops n).getD i [] → Ahead ops i j
  | 0, i, j, h => by simp [aheads] at h
  | n + 1, i, j, h => by
    have hl := aheads_length ops n
    unfold aheads at h
    dsimp only at h
    rw [List.getD_eq_getElem?_getD] at h
    by_cases hi : i < n
    · rw [List.getElem?_append_left (by omega), ← List.getD_eq_getElem?_getD] at h
      exact aheads_ok ops n i j h
    · rw [List.getElem?_append_right (by omega), hl] at h
      by_cases e : i = n
      · subst e
        simp only [Nat.sub_self, List.getElem?_cons_zero, Option.getD_some] at h
        rcases mem_fold _ _ h with h | ⟨m, hm, rfl | h⟩
        · cases h
        · exact .one hm
        · exact .more hm (aheads_ok ops i m j h)
      · rw [List.getElem?_eq_none (by simp; omega)] at h
        cases h

/-- What is done was done behind all that stands ahead of it. -/
def Down (ops : Array Oper) (listed : Array Bool) : Prop := ∀ j m : Nat, listed.getD j false = true → m ∈ edges ops j → listed.getD m false = true

theorem Down.reach {listed : Array Bool} (h : Down ops listed) {i j : Nat} (k : Ahead ops i j) (hi : ∀ m ∈ edges ops i, listed.getD m false = true) : listed.getD j false = true := by
  induction k with
  | one hj => exact hi _ hj
  | more hm _ ih => exact ih fun m' hm' => h _ m' (hi _ hm) hm'

theorem mem_edges {i j : Nat} {o : Oper} (ho : ops[i]? = some o) : j ∈ edges ops i ↔ ∃ e ∈ o.after, Region.binds .any e = true ∧ e.on = j := by
  unfold edges
  rw [ho]
  simp only [List.mem_map, List.mem_filter, Array.mem_toList_iff]
  exact ⟨fun ⟨e, ⟨h1, h2⟩, h3⟩ => ⟨e, h1, h2, h3⟩, fun ⟨e, h1, h2, h3⟩ => ⟨e, ⟨h1, h2⟩, h3⟩⟩

/-- An order in which all may be gone through. -/
structure Order (X : Ctx) (ops : Array Oper) (p : List Nat) : Prop where
  nodup : p.Nodup
  all : ∀ i, i < ops.size → i ∈ p
  lt : ∀ i ∈ p, i < ops.size
  at' : ∀ (l1 l2 : List Nat) (i : Nat) (o : Oper), p = l1 ++ i :: l2 → ops[i]? = some o →
    (∀ e ∈ o.after, Region.binds .any e = true → e.on ∈ l1) ∧ ∀ (j : Nat) (t : Oper), j ∈ l1 → ops[j]? = some t → Ahead ops i j ∨ indep X ops t o = true

theorem orderOK_at {l : List (List Nat)} (hl : ∀ i j, j ∈ l.getD i [] → Ahead ops i j) : ∀ (p done : List Nat), orderOK X ops l done p = true → ∀ (l1 l2 : List Nat) (i : Nat) (o : Oper), p = l1 ++ i :: l2 → ops[i]? = some o →
    (∀ e ∈ o.after, Region.binds .any e = true → e.on ∈ done ∨ e.on ∈ l1) ∧ ∀ (j : Nat) (t : Oper), (j ∈ done ∨ j ∈ l1) → ops[j]? = some t → Ahead ops i j ∨ indep X ops t o = true
  | [], _, _, l1, l2, i, o, hp, _ => by simp at hp
  | x :: p, done, h, l1, l2, i, o, hp, ho => by
    unfold orderOK at h
    cases l1 with
    | nil =>
      simp only [List.nil_append, List.cons.injEq] at hp
      obtain ⟨rfl, rfl⟩ := hp
      rw [ho] at h
      simp only [Bool.and_eq_true] at h
      obtain ⟨⟨⟨_, h1⟩, h2⟩, _⟩ := h
      refine ⟨fun e he hb => .inl ?_, fun j t hj ht => ?_⟩
      · have := List.all_eq_true.1 h1 e (Array.mem_toList_iff.2 he)
        simpa [hb] using this
      · rcases hj with hj | hj
        · have := List.all_eq_true.1 h2 j hj
          rw [ht] at this
          simp only [Bool.or_eq_true, List.contains_iff_mem] at this
          rcases this with h3 | h3
          · exact .inl (hl _ _ h3)
          · exact .inr h3
        · cases hj
    | cons y l1 =>
      simp only [List.cons_append, List.cons.injEq] at hp
      obtain ⟨rfl, rfl⟩ := hp
      split at h
      · cases h
      simp only [Bool.and_eq_true] at h
      obtain ⟨k1, k2⟩ := orderOK_at hl _ _ h.2 l1 l2 i o rfl ho
      refine ⟨fun e he hb => ?_, fun j t hj ht => k2 j t ?_ ht⟩
      · rcases k1 e he hb with h | h
        · rcases List.mem_cons.1 h with h | h
          · exact .inr (h ▸ List.mem_cons_self)
          · exact .inl h
        · exact .inr (List.mem_cons_of_mem _ h)
      · rcases hj with h | h
        · exact .inl (List.mem_cons_of_mem _ h)
        · rcases List.mem_cons.1 h with h | h
          · exact .inl (h ▸ List.mem_cons_self)
          · exact .inr h

theorem cover_ok {n : Nat} {p : List Nat} (h : isCover n p = true) : p.Nodup ∧ (∀ i, i < n → i ∈ p) ∧ ∀ i ∈ p, i < n := by
  have hperm : (List.range n).Perm p := List.isPerm_iff.1 h
  exact ⟨hperm.nodup_iff.1 List.nodup_range, fun i hi => hperm.mem_iff.1 (List.mem_range.2 hi), fun i hi => List.mem_range.1 (hperm.mem_iff.2 hi)⟩

theorem permOf_ok {p : List Nat} (h : permOf X ops = some p) : Order X ops p := by
  have ha : ∀ i j, j ∈ (aheads ops ops.size).getD i [] → Ahead ops i j := aheads_ok ops ops.size
  unfold permOf at h
  dsimp only at h
  split at h
  · rename_i h1
    cases h
    refine ⟨List.nodup_range, fun i hi => List.mem_range.2 hi, fun i hi => List.mem_range.1 hi, fun l1 l2 i o hp ho => ?_⟩
    obtain ⟨k1, k2⟩ := orderOK_at ha _ _ h1 l1 l2 i o hp ho
    exact ⟨fun e he hb => (k1 e he hb).resolve_left (by simp), fun j t hj ht => k2 j t (.inr hj) ht⟩
  · split at h
    · rename_i h1
      cases h
      simp only [Bool.and_eq_true] at h1
      obtain ⟨c1, c2, c3⟩ := cover_ok h1.1
      refine ⟨c1, c2, c3, fun l1 l2 i o hp ho => ?_⟩
      obtain ⟨k1, k2⟩ := orderOK_at ha _ _ h1.2 l1 l2 i o hp ho
      exact ⟨fun e he hb => (k1 e he hb).resolve_left (by simp), fun j t hj ht => k2 j t (.inr hj) ht⟩
    · cases h

theorem any_ok (hX : X.ok) (hG : E.G = X.G) {p : List Nat} (hd : Order X ops p) {Q : Exit → Act → World → Prop} {s' : St} : ∀ (fuel : Nat) (listed : Array Bool) (s : St) (a : Act) (w : World) (N : Names), listed.size = ops.size → Down ops listed →
    (todo p listed).length = fuel → At E s a w N → runL X ops.toList ((todo p listed).filterMap fun i => ops[i]?) s = some s' → (∀ a' w' N', At E s' a' w' N' → Ext N N' → Q .normal a' w') →
    wpAny X.P .any ops Q fuel listed a w := by
  intro fuel
  induction fuel with
  | zero =>
    intro listed s a w N hs hdn hl h hr hQ
    have hnil : todo p listed = [] := List.length_eq_zero_iff.1 hl
    refine ⟨?_, ?_⟩
    · apply List.eq_nil_iff_forall_not_mem.2
      intro i hi
      obtain ⟨h0, o, ho, _⟩ := mem_ready.1 hi
      have : i ∈ todo p listed := List.mem_filter.2 ⟨hd.all i (Array.getElem?_eq_some_iff.1 ho).1, by simp only [h0]; rfl⟩
      rw [hnil] at this; cases this
    · rw [hnil] at hr; cases hr
      exact hQ _ _ _ h fun _ _ h => h
  | succ fuel ih =>
    intro listed s a w N hs hdn hl h hr hQ
    have un : ∀ j, j ∈ p → j ∉ todo p listed → listed.getD j false = true := by
      intro j hj hn
      have hlt : j < listed.size := by rw [hs]; exact hd.lt j hj
      cases hv : listed.getD j true with
      | true => simp only [Array.getD_eq_getD_getElem?, Array.getElem?_eq_getElem hlt, Option.getD_some] at hv ⊢; exact hv
      | false => exact absurd (List.mem_filter.2 ⟨hj, by rw [hv]; rfl⟩) hn
    refine ⟨fun hnil => ?_, fun i hi => ?_⟩
    · -- the first is ready
      exfalso
      match hq : todo p listed with
      | [] => rw [hq] at hl; cases hl
      | i :: rest =>
        have hmem : i ∈ todo p listed := by rw [hq]; simp
        obtain ⟨hip, hun⟩ := List.mem_filter.1 hmem
        have hlt := hd.lt i hip
        have ho : ops[i]? = some ops[i] := Array.getElem?_eq_getElem hlt
        obtain ⟨l1, l2, hsplit⟩ := List.append_of_mem hip
        have hnd := hd.nodup
        rw [hsplit] at hnd
        have hni : i ∉ l1 := fun hm => (List.nodup_append.1 hnd).2.2 i hm i (by simp) rfl
        have hq' : l1.filter (fun i => !listed.getD i true) = [] := by
          have e : todo p listed = l1.filter (fun i => !listed.getD i true) ++ (i :: l2).filter (fun i => !listed.getD i true) := by
            unfold todo; rw [hsplit, List.filter_append]
          cases hf : l1.filter (fun i => !listed.getD i true) with
          | nil => rfl
          | cons x xs =>
            rw [hq, hf] at e
            simp only [List.cons_append, List.cons.injEq] at e
            have : x ∈ l1 := (List.mem_filter.1 (hf ▸ List.mem_cons_self : x ∈ l1.filter _)).1
            exact absurd (e.1 ▸ this) hni
        have : i ∈ Region.ready .any ops listed := by
          refine mem_ready.2 ⟨by simpa using hun, _, ho, fun e he hb => ?_⟩
          have hon := (hd.at' l1 l2 i _ hsplit ho).1 e he hb
          refine un e.on (by rw [hsplit]; simp [hon]) fun hm => ?_
          have : e.on ∈ l1.filter (fun i => !listed.getD i true) := List.mem_filter.2 ⟨hon, (List.mem_filter.1 hm).2⟩
          rw [hq'] at this; cases this
        rw [hnil] at this; cases this
    · obtain ⟨h0, o, ho, hall⟩ := mem_ready.1 hi
      have hlt : i < ops.size := (Array.getElem?_eq_some_iff.1 ho).1
      have hip := hd.all i hlt
      obtain ⟨q1, q2, hsplit⟩ := List.append_of_mem hip
      have hnd := hd.nodup
      rw [hsplit] at hnd
      have hn1 : i ∉ q1 := fun hm => (List.nodup_append.1 hnd).2.2 i hm i (by simp) rfl
      have hn2 : i ∉ q2 := (List.nodup_cons.1 (List.nodup_append.1 hnd).2.1).1
      have htodo : todo p listed = q1.filter (fun i => !listed.getD i true) ++ i :: q2.filter (fun i => !listed.getD i true) := by
        unfold todo
        rw [hsplit, List.filter_append, List.filter_cons, if_pos (by simp only [h0]; rfl)]
      have hset : todo p (listed.setIfInBounds i true) = q1.filter (fun i => !listed.getD i true) ++ q2.filter (fun i => !listed.getD i true) := by
        rw [todo_set (fun j hj => by rw [hs]; exact hd.lt j hj), htodo, List.filter_append, List.filter_cons]
        simp only [ne_eq, not_true, decide_false, Bool.false_eq_true, if_false]
        have f1 : ∀ (q : List Nat), i ∉ q → (q.filter (fun i => !listed.getD i true)).filter (fun j => decide (¬ j = i)) = q.filter (fun i => !listed.getD i true) := fun q hq => by
          apply List.filter_eq_self.2
          intro j hj
          have := (List.mem_filter.1 hj).1
          simp only [decide_not, Bool.not_eq_true', decide_eq_false_iff_not]
          intro he; subst he; exact hq this
        rw [f1 q1 hn1, f1 q2 hn2]
      rw [htodo, List.filterMap_append, List.filterMap_cons, ho] at hr
      have hr' := bubble_ok _ _ (fun t ht => by
        obtain ⟨j, hj, hjt⟩ := List.mem_filterMap.1 ht
        obtain ⟨hj1, hj2⟩ := List.mem_filter.1 hj
        rcases (hd.at' q1 q2 i o hsplit ho).2 j t hj1 hjt with hre | h3
        · exfalso
          have h1 := hdn.reach hre fun m hm => by
            obtain ⟨e, he, hb, rfl⟩ := (mem_edges ho).1 hm
            exact hall e he hb
          have hjl : j < listed.size := by rw [hs]; exact hd.lt j (by rw [hsplit]; simp [hj1])
          simp only [Array.getD_eq_getD_getElem?, Array.getElem?_eq_getElem hjl, Option.getD_some] at h1 hj2
          rw [h1] at hj2; cases hj2
        · exact h3) hr
      obtain ⟨s1, h1, h2⟩ := Option.bind_eq_some_iff.1 hr'
      refine wpOp_ok hX h hG ho h1 fun a' w' N' h' he => ih _ s1 a' w' N' (by simpa using hs) ?_ ?_ h' ?_ fun a2 w2 N2 h3 he2 => hQ a2 w2 N2 h3 fun l ni hl => he2 l ni (he l ni hl)
      · intro j m hj hm
        by_cases e : i = j
        · subst e
          obtain ⟨e, he, hb, rfl⟩ := (mem_edges ho).1 hm
          exact getD_set_true (hall e he hb)
        · rw [getD_set_ne false e] at hj
          exact getD_set_true (hdn j m hj hm)
      · rw [hset]; rw [htodo] at hl; simp at hl ⊢; omega
      · rw [hset, List.filterMap_append]; exact h2

theorem Evo.drew {w0 : World} {S0 : Nat → Prop} (h : Evo w0 S0 w) (n : Nat) : Evo w0 S0 { w with drawn := n } := ⟨h.os, h.tape, h.output, h.size, h.keep, h.sizes⟩

theorem drawn_ok (hX : X.ok) (hG : E.G = X.G) (hm : X.P.follows .mixedOrders = true) {p : List Nat} (hd : permOf X ops = some p) {Q : Exit → Act → World → Prop} {s' : St} {id : Nat} (h : At E s a w N)
    (hr : runL X ops.toList (p.filterMap fun i => ops[i]?) s = some s') (hQ : ∀ a' w' N', At E s' a' w' N' → Ext N N' → Q .normal a' w') : (Code.region id ops true).wp X.P Q a w := by
  refine wp_region_any hm ?_
  have hg : Grow w (SS E.F N s.st) N { w with drawn := w.drawn + 1 } (SS E.F N s.st) N :=
    ⟨fun _ _ h => h, fun _ _ _ _ h => h, fun _ h _ => h, fun _ c T fr h => ⟨c, T, fr, h, rfl⟩, Nat.le_refl _⟩
  have h' : At E s a { w with drawn := w.drawn + 1 } N :=
    ⟨⟨fun l blk hl => (h.mem.blks l blk hl).grow hg fun _ _ _ _ _ _ => rfl, h.mem.apart, h.mem.fresh, h.mem.evo.drew _, h.mem.sub, fun x cs hx => (h.mem.glob x cs hx).grow hg⟩, h.env.grow hg, h.defers⟩
  have hO := permOf_ok hd
  have htodo : todo p (Array.replicate ops.size false) = p := by
    unfold todo
    apply List.filter_eq_self.2
    intro j hj
    have := hO.lt j hj
    simp [this]
  have hlen : p.length = ops.size := by
    have h1 : p.Perm (List.range ops.size) := (List.perm_ext_iff_of_nodup hO.nodup List.nodup_range).2 fun i => ⟨fun h => List.mem_range.2 (hO.lt i h), fun h => hO.all i (List.mem_range.1 h)⟩
    simpa using h1.length_eq
  refine any_ok hX hG hO _ _ s a _ N (by simp) (fun j m hj _ => ?_) (by rw [htodo]; exact hlen) h' ?_ hQ
  · exfalso
    by_cases hlt : j < ops.size
    · simp [hlt] at hj
    · simp [Array.getElem?_eq_none (show (Array.replicate ops.size false).size ≤ j by simp; omega)] at hj
  rw [htodo]
  exact hr
end
end Go.Abs
