/- The abstract machine: operations that leave the store. Conditions: none. -/
import Derived.Test.YtpiphiieflnabaaDoorAbs18
namespace Go.Abs
section
variable {X : Ctx} {st st' : Store} {o : Oper}

theorem not_loud {c : Cls} (h : c = .loud) (h' : c = .pure ∨ c = .read) : False := by subst h; rcases h' with h | h <;> cases h
theorem not_alloc {c : Cls} (h : c = .alloc) (h' : c = .pure ∨ c = .read) : False := by subst h; rcases h' with h | h <;> cases h

theorem pair_get {t : Tr AV} {r : AV × Store} (h : (t.map (·, st)).get = some r) : r.2 = st := (map_pair_get h).2
theorem ret_pair {v : AV} {r : AV × Store} (h : (Tr.ret (v, st)).get = some r) : r.2 = st := by have := ret_get h; subst this; rfl

theorem convV_still {P : Program} {src dst : TypeId} {x : AV} {r : AV × Store} (h : (∃ e, P.underlying src = some (.slice e)) ∧ P.underlying dst = some .string ∨ ∃ k, P.underlying dst = some (.int k)) (hg : (convV P st src dst x).get = some r) : r.2 = st := by
  unfold convV at hg
  split at hg
  · exact ret_pair hg
  · exact ret_pair hg
  · rename_i h1 h2
    rcases h with ⟨_, h⟩ | ⟨k, h⟩
    · rw [h2] at h; cases h
    · rw [h2] at h; cases h
  · split at hg
    · exact ret_pair hg
    · exact (no_get hg).elim
  · exact (no_get hg).elim

theorem convV_any {P : Program} {src dst : TypeId} {x v : AV} {k : IntKind} (h : P.underlying dst = some (.int k)) (hg : (convV P st src dst x).get = some (v, st')) (st2 : Store) : (convV P st2 src dst x).get = some (v, st2) := by
  unfold convV at hg ⊢
  rw [h] at hg ⊢
  cases hu : P.underlying src with
  | none => rw [hu] at hg; exact (no_get hg).elim
  | some d =>
    rw [hu] at hg
    cases x with
    | int k' n => have := ret_get hg; cases this; rfl
    | _ => cases d <;> exact (no_get hg).elim

theorem cls_conv {dst : Option Tmp} {src d : TypeId} {x : Operand} {type : TypeId} {pos : String} {after : Array Edge} {guard : Option (Nat × Bool)} {c : Cls} (h : clsOf X ⟨dst, .convert src d x, type, pos, after, guard⟩ = c) :
    (((∃ e, X.P.underlying src = some (.slice e)) ∧ X.P.underlying d = some .string) ∧ c = .read) ∨ ((∃ k, X.P.underlying d = some (.int k)) ∧ c = .pure) ∨ c = .loud := by
  subst h
  unfold clsOf
  dsimp only
  split
  · rename_i e h1 h2; exact .inl ⟨⟨⟨e, h1⟩, h2⟩, rfl⟩
  · rename_i k h1; exact .inr (.inl ⟨⟨k, h1⟩, rfl⟩)
  · exact .inr (.inr rfl)

theorem stepE_still {ev : Operand → AV} (h : clsOf X o = .pure ∨ clsOf X o = .read) (hev : ∀ f, ev (.func f) = .fn f []) {r : AV × Store} (hg : (stepE X ev st o).get = some r) : r.2 = st := by
  obtain ⟨dst, op, type, pos, after, guard⟩ := o
  cases op with
  | move x => cases x <;> first | exact (not_alloc rfl h).elim | exact ret_pair hg
  | assign x => cases x <;> first | exact (not_alloc rfl h).elim | exact ret_pair hg
  | pick c x y =>
    simp only [stepE] at hg
    split at hg
    · rename_i b _
      cases b <;> exact ret_pair hg
    · exact (no_get hg).elim
  | load t x => exact pair_get hg
  | nilCheck x => simp only [stepE] at hg; split at hg <;> first | exact (no_get hg).elim | exact ret_pair hg
  | binOp op t x y yt => exact pair_get hg
  | unOp op t x => exact pair_get hg
  | convert src d x =>
    refine convV_still ?_ hg
    rcases cls_conv (X := X) (c := clsOf X ⟨dst, .convert src d x, type, pos, after, guard⟩) rfl with ⟨h1, _⟩ | ⟨h1, _⟩ | h1
    · exact .inl h1
    · exact .inr h1
    · exact (not_loud h1 h).elim
  | makeInterface t x => simp only [stepE] at hg; split at hg <;> first | exact (no_get hg).elim | exact ret_pair hg
  | makeFunc fn first caps =>
    cases fn <;> first | exact (no_get hg).elim | exact ret_pair (ite_get hg).2
  | slice t x lo hi mx => cases mx <;> first | exact pair_get hg | exact (not_loud rfl h).elim
  | fieldAddr t x f => exact pair_get hg
  | field t x f => simp only [stepE] at hg; split at hg <;> first | exact (no_get hg).elim | exact pair_get hg
  | indexAddr t x i => exact pair_get hg
  | index t x i => exact pair_get hg
  | extract x i =>
    simp only [stepE] at hg
    split at hg
    · split at hg <;> first | exact (no_get hg).elim | exact ret_pair hg
    · exact (no_get hg).elim
  | call c =>
    obtain ⟨callee, args, ts⟩ := c
    cases callee with
    | invoke r m => exact (no_get hg).elim
    | builtin b =>
      have hb : b = .len ∨ b = .min ∨ b = .max := by
        cases b <;> first | exact .inl rfl | exact .inr (.inl rfl) | exact .inr (.inr rfl) | exact (not_loud rfl h).elim
      have hg' : (builtinV X.P st b ts.toList (args.toList.map ev)).get = some r := hg
      have mm : ∀ mx, (match minV mx (args.toList.map ev) with | some v => Tr.ret (v, st) | none => .no).get = some r → r.2 = st := by
        intro mx hm
        split at hm <;> first | exact (no_get hm).elim | exact ret_pair hm
      rcases hb with rfl | rfl | rfl
      · simp only [builtinV] at hg'
        split at hg' <;> first | exact pair_get hg' | contradiction | exact (no_get hg').elim
      · exact mm false hg'
      · exact mm true hg'
    | value f =>
      cases f with
      | func f =>
        have hcl : clsOf X ⟨dst, .call ⟨.value (.func f), args, ts⟩, type, pos, after, guard⟩ = match X.C f with | some c => if c.quiet then .read else .loud | none => .loud := rfl
        rw [hcl] at h
        have hg' : (match ev (.func f) with | .fn g caps => callV X st g (args.toList.map ev ++ caps) | _ => .no).get = some r := hg
        rw [hev] at hg'
        cases hc : X.C f with
        | none => rw [hc] at h; exact (not_loud rfl h).elim
        | some c =>
          rw [hc] at h
          cases hq : c.quiet with
          | false => simp only [hq] at h; exact (not_loud rfl h).elim
          | true => exact callV_quiet hc hq hg'
      | tmp t => exact (not_loud rfl h).elim
      | const v => exact (not_loud rfl h).elim
      | global g => exact (not_loud rfl h).elim
  | alloc t => exact (not_alloc rfl h).elim
  | _ => first | exact (no_get hg).elim | exact (not_loud rfl h).elim

/-- What is pure does not look at the store. -/
theorem stepE_pure {ev : Operand → AV} (h : clsOf X o = .pure) (hev : ∀ f, ev (.func f) = .fn f []) {v : AV} (hg : (stepE X ev st o).get = some (v, st')) : (stepE X ev st' o).get = some (v, st') := by
  have hst : st' = st := stepE_still (.inl h) hev hg
  subst hst; exact hg

theorem map_other {t : Tr AV} {v : AV} (h : (t.map (·, st)).get = some (v, st')) (st2 : Store) : (t.map (·, st2)).get = some (v, st2) := by
  obtain ⟨h1, _⟩ := map_pair_get h
  rw [Tr.get_map]; simp only at h1; rw [h1]; rfl

theorem ret_other {u v : AV} (h : (Tr.ret (u, st)).get = some (v, st')) (st2 : Store) : (Tr.ret (u, st2)).get = some (v, st2) := by
  have := ret_get h; cases this; rfl

theorem stepE_any {ev : Operand → AV} (h : clsOf X o = .pure) {v : AV} (hg : (stepE X ev st o).get = some (v, st')) (st2 : Store) : (stepE X ev st2 o).get = some (v, st2) := by
  obtain ⟨dst, op, type, pos, after, guard⟩ := o
  cases op with
  | move x => cases x <;> first | exact (not_alloc rfl (.inl h)).elim | exact ret_other hg st2
  | assign x => cases x <;> first | exact (not_alloc rfl (.inl h)).elim | exact ret_other hg st2
  | pick c x y =>
    (unfold stepE at hg ⊢; dsimp only at hg ⊢)
    split at hg
    · rename_i b e
      cases b <;> exact ret_other hg st2
    · exact (no_get hg).elim
  | nilCheck x => (unfold stepE at hg ⊢; dsimp only at hg ⊢); split at hg <;> first | exact (no_get hg).elim | exact ret_other hg st2
  | binOp op t x y yt => exact map_other hg st2
  | unOp op t x => exact map_other hg st2
  | convert src d x =>
    rcases cls_conv h with ⟨_, h1⟩ | ⟨⟨k, h1⟩, _⟩ | h1
    · cases h1
    · exact convV_any h1 hg st2
    · cases h1
  | makeInterface t x =>
    (unfold stepE at hg ⊢; dsimp only at hg ⊢)
    split at hg
    · exact (no_get hg).elim
    · exact (no_get hg).elim
    · exact ret_other hg st2
  | makeFunc fn first caps =>
    cases fn with
    | func f =>
      (unfold stepE at hg ⊢; dsimp only at hg ⊢)
      obtain ⟨h1, h2⟩ := ite_get hg
      rw [if_pos h1]; exact ret_other h2 st2
    | _ => exact (no_get hg).elim
  | fieldAddr t x f => exact map_other hg st2
  | slice t x lo hi mx => cases mx <;> first | exact (not_loud rfl (.inl h)).elim | exact (Cls.noConfusion (show Cls.read = Cls.pure from h))
  | field t x f => (unfold stepE at hg ⊢; dsimp only at hg ⊢); split at hg <;> first | exact (no_get hg).elim | exact map_other hg st2
  | index t x i => exact map_other hg st2
  | extract x i =>
    (unfold stepE at hg ⊢; dsimp only at hg ⊢)
    split at hg
    · split at hg
      · exact ret_other hg st2
      · exact (no_get hg).elim
    · exact (no_get hg).elim
  | call c =>
    obtain ⟨callee, args, ts⟩ := c
    cases callee with
    | invoke r m => exact (no_get hg).elim
    | builtin b =>
      have hb : b = .min ∨ b = .max := by
        cases b <;> first | exact .inl rfl | exact .inr rfl | exact (not_loud rfl (.inl h)).elim | exact (Cls.noConfusion (show Cls.read = Cls.pure from h))
      have hg' : (builtinV X.P st b ts.toList (args.toList.map ev)).get = some (v, st') := hg
      show (builtinV X.P st2 b ts.toList (args.toList.map ev)).get = some (v, st2)
      have mm : ∀ mx, (match minV mx (args.toList.map ev) with | some v => Tr.ret (v, st) | none => .no).get = some (v, st') → (match minV mx (args.toList.map ev) with | some v => Tr.ret (v, st2) | none => .no).get = some (v, st2) := by
        intro mx hm
        cases hq : minV mx (args.toList.map ev) with
        | none => rw [hq] at hm; exact (no_get hm).elim
        | some q => rw [hq] at hm; exact ret_other hm st2
      rcases hb with rfl | rfl
      · exact mm false hg'
      · exact mm true hg'
    | value f =>
      cases f with
      | func f =>
        have hcl : clsOf X ⟨dst, .call ⟨.value (.func f), args, ts⟩, type, pos, after, guard⟩ = match X.C f with | some c => if c.quiet then .read else .loud | none => .loud := rfl
        rw [hcl] at h
        cases hc : X.C f with
        | none => rw [hc] at h; exact (not_loud rfl (.inl h)).elim
        | some c =>
          rw [hc] at h
          cases hq : c.quiet with
          | false => simp only [hq] at h; exact (not_loud rfl (.inl h)).elim
          | true => simp only [hq] at h; cases h
      | tmp t => exact (not_loud rfl (.inl h)).elim
      | const v => exact (not_loud rfl (.inl h)).elim
      | global g => exact (not_loud rfl (.inl h)).elim
  | alloc t => exact (not_alloc rfl (.inl h)).elim
  | _ => first | exact (no_get hg).elim | exact (not_loud rfl (.inl h)).elim | exact (Cls.noConfusion (show Cls.read = Cls.pure from h))
end
end Go.Abs
