/- The abstract machine: code. Conditions: follows mixedOrders. -/
import Derived.Test.YtpiphiieflnabaaDoorAbs20
import Derived.Scope
import Derived.LoopN
namespace Go.Abs
section
variable {X : Ctx} {w w' : World} {N N' : Names} {E : Fix} {s s' : St} {st st' : Store} {a : Act}

def exOf : Ex → Exit
  | .normal => .normal
  | .exit id => .exit id
  | .ret => .ret

/-- The names that were given stay. -/
def ExtN (n0 : List Bool) (N N' : Names) : Prop := ∀ l, n0[l]? = some true → ∀ ni, N l = some ni → N' l = some ni

theorem ExtN.trans {n0 : List Bool} {N1 N2 N3 : Names} (h : ExtN n0 N1 N2) (k : ExtN n0 N2 N3) : ExtN n0 N1 N3 := fun l hl ni hn => k l hl ni (h l hl ni hn)
theorem Ext.n {n0 : List Bool} (h : Ext N N') : ExtN n0 N N' := fun l _ ni hn => h l ni hn
theorem ExtN.refl (n0 : List Bool) (N : Names) : ExtN n0 N N := fun _ _ _ h => h

/-- Code goes from a state to this end. -/
def CodeSem (X : Ctx) (n0 : List Bool) (c : Code) (s : St) (r : Ex × St) : Prop :=
  ∀ (E : Fix) (a : Act) (w : World) (N : Names) (Q : Exit → Act → World → Prop), E.G = X.G → At E s a w N → (∀ a' w' N', At E r.2 a' w' N' → ExtN n0 N N' → Q (exOf r.1) a' w') → c.wp X.P Q a w

def LoopSem (X : Ctx) (n0 : List Bool) (c : Code) (s : St) (r : Ex × St) : Prop :=
  ∃ k, ∀ (E : Fix) (a : Act) (w : World) (N : Names) (Q : Exit → Act → World → Prop), E.G = X.G → At E s a w N → (∀ a' w' N', At E r.2 a' w' N' → ExtN n0 N N' → Q (exOf r.1) a' w') → Code.rounds X.P c Q k a w

/-- What is told of the loops in a piece of code holds. -/
def LoopsAt (X : Ctx) (L : Nat → St → Tr (Ex × St)) (n0 : List Bool) (c : Code) (off : Nat) : Prop :=
  ∀ n body, loopAt c n = some body → ∀ s r, (L (off + n) s).get = some r → LoopSem X n0 body s r

theorem noloops {c : Code} : ∀ n, nloops c ≤ n → loopAt c n = none := by
  induction c with
  | seq x y ihx ihy =>
    intro n hn
    simp only [nloops] at hn
    simp only [loopAt]
    rw [if_neg (by omega)]; exact ihy _ (by omega)
  | cond o x y ihx ihy =>
    intro n hn
    simp only [nloops] at hn
    simp only [loopAt]
    rw [if_neg (by omega)]; exact ihy _ (by omega)
  | block id x ih => intro n hn; exact ih n hn
  | scope x ih => intro n hn; exact ih n hn
  | loop x ih =>
    intro n hn
    simp only [nloops] at hn
    cases n with
    | zero => omega
    | succ n => simp only [loopAt]; exact ih n (by omega)
  | _ => intro n hn; rfl

theorem code_ok {R : Type} (hX : X.ok) (hm : X.P.follows .mixedOrders = true) {L : Nat → St → Tr (Ex × St)} {n0 : List Bool} {r : R} : ∀ (c : Code) (off : Nat) (s : St) (K : Ex → St → Tr R), (evCode X L c off s K).get = some r →
    LoopsAt X L n0 c off → ∃ e s', (K e s').get = some r ∧ CodeSem X n0 c s (e, s') := by
  intro c
  induction c with
  | skip => intro off s K h _; exact ⟨_, _, h, fun E a w N Q _ h hQ => wp_skip (hQ _ _ _ h (.refl _ _))⟩
  | label l => intro off s K h _; exact ⟨_, _, h, fun E a w N Q _ h hQ => wp_label (hQ _ _ _ h (.refl _ _))⟩
  | exit id => intro off s K h _; exact ⟨_, _, h, fun E a w N Q _ h hQ => wp_exit (hQ _ _ _ h (.refl _ _))⟩
  | ret => intro off s K h _; exact ⟨_, _, h, fun E a w N Q _ h hQ => wp_ret (hQ _ _ _ h (.refl _ _))⟩
  | region id ops draw =>
    intro off s K h _
    simp only [evCode] at h
    cases draw with
    | false =>
      obtain ⟨s', h1, h2⟩ := evOps_run _ _ h
      exact ⟨.normal, s', h2, fun E a w N Q hG h hQ => region_ok hX hG h h1 fun a' w' N' h' he => hQ a' w' N' h' he.n⟩
    | true =>
      dsimp only at h
      split at h
      · exact (no_get h).elim
      · rename_i p hp
        obtain ⟨s', h1, h2⟩ := evOps_run _ _ h
        exact ⟨.normal, s', h2, fun E a w N Q hG h hQ => drawn_ok hX hG hm hp h h1 fun a' w' N' h' he => hQ a' w' N' h' he.n⟩
  | seq x y ihx ihy =>
    intro off s K h hL
    simp only [evCode] at h
    obtain ⟨e, s1, h1, c1⟩ := ihx off s _ h fun n body hb s r hr => hL n body (by
      simp only [loopAt]
      by_cases hn : n < nloops x
      · rw [if_pos hn]; exact hb
      · rw [noloops n (by omega)] at hb; cases hb) s r hr
    cases e with
    | normal =>
      obtain ⟨e, s2, h2, c2⟩ := ihy _ s1 K h1 fun n body hb s r hr => hL (nloops x + n) body (by
        simp only [loopAt]
        rw [if_neg (by omega), show nloops x + n - nloops x = n by omega]; exact hb) s r (by rw [← Nat.add_assoc]; exact hr)
      exact ⟨e, s2, h2, fun E a w N Q hG h hQ => wp_seq (c1 E a w N _ hG h fun a' w' N' h' he => c2 E a' w' N' Q hG h' fun a2 w2 N2 h2 he2 => hQ a2 w2 N2 h2 (he.trans he2))⟩
    | exit id => exact ⟨_, s1, h1, fun E a w N Q hG h hQ => wp_seq (c1 E a w N _ hG h fun a' w' N' h' he => hQ a' w' N' h' he)⟩
    | ret => exact ⟨_, s1, h1, fun E a w N Q hG h hQ => wp_seq (c1 E a w N _ hG h fun a' w' N' h' he => hQ a' w' N' h' he)⟩
  | cond o x y ihx ihy =>
    intro off s K h hL
    simp only [evCode] at h
    split at h
    · rename_i b hb
      have hc : ∀ {E : Fix} {a : Act} {w : World} {N : Names}, E.G = X.G → At E s a w N → a.eval o = .bool b := by
        intro E a w N hG h
        have := h.eval hG o
        rw [hb] at this
        exact rel_bool this
      rw [br_get] at h
      cases b with
      | true =>
        obtain ⟨e, s1, h1, c1⟩ := ihx off s K h fun n body hb s r hr => hL n body (by
          simp only [loopAt]
          by_cases hn : n < nloops x
          · rw [if_pos hn]; exact hb
          · rw [noloops n (by omega)] at hb; cases hb) s r hr
        exact ⟨e, s1, h1, fun E a w N Q hG h hQ => wp_cond_true (hc hG h) (c1 E a w N Q hG h hQ)⟩
      | false =>
        obtain ⟨e, s1, h1, c1⟩ := ihy _ s K h fun n body hb s r hr => hL (nloops x + n) body (by
          simp only [loopAt]
          rw [if_neg (by omega), show nloops x + n - nloops x = n by omega]; exact hb) s r (by rw [← Nat.add_assoc]; exact hr)
        exact ⟨e, s1, h1, fun E a w N Q hG h hQ => wp_cond_false (hc hG h) (c1 E a w N Q hG h hQ)⟩
    · exact (no_get h).elim
  | block id x ih =>
    intro off s K h hL
    simp only [evCode] at h
    obtain ⟨e, s1, h1, c1⟩ := ih off s _ h hL
    cases e with
    | normal => exact ⟨_, s1, h1, fun E a w N Q hG h hQ => wp_block (c1 E a w N _ hG h fun a' w' N' h' he => hQ a' w' N' h' he)⟩
    | ret => exact ⟨_, s1, h1, fun E a w N Q hG h hQ => wp_block (c1 E a w N _ hG h fun a' w' N' h' he => hQ a' w' N' h' he)⟩
    | exit id' =>
      dsimp only at h1
      split at h1
      · rename_i he
        have he : id' = id := by simpa using he
        exact ⟨_, s1, h1, fun E a w N Q hG h hQ => wp_block (c1 E a w N _ hG h fun a' w' N' h' hx => by
          show (if id' = id then Q .normal a' w' else Q (.exit id') a' w')
          rw [if_pos he]; exact hQ a' w' N' h' hx)⟩
      · rename_i he
        have he : id' ≠ id := by simpa using he
        exact ⟨_, s1, h1, fun E a w N Q hG h hQ => wp_block (c1 E a w N _ hG h fun a' w' N' h' hx => by
          show (if id' = id then Q .normal a' w' else Q (.exit id') a' w')
          rw [if_neg he]; exact hQ a' w' N' h' hx)⟩
  | scope x ih =>
    intro off s K h hL
    simp only [evCode] at h
    obtain ⟨e, s1, h1, c1⟩ := ih off s K h hL
    refine ⟨e, s1, h1, fun E a w N Q hG h hQ => wp_scope_straight (c1 E a w N _ hG h fun a' w' N' h' he => ?_)⟩
    have := hQ a' w' N' h' he
    cases e <;> exact this
  | loop x ih =>
    intro off s K h hL
    simp only [evCode] at h
    obtain ⟨p, hp, h⟩ := bind_get h
    obtain ⟨k, hk⟩ := hL 0 x rfl s p hp
    exact ⟨p.1, p.2, h, fun E a w N Q hG h hQ => wp_loop_rounds k (hk E a w N Q hG h hQ)⟩
  | _ => intro off s K h _; exact (no_get h).elim

/-! ### What hangs together under new names -/
theorem addName_pre (l : Nat) (names : List Nat) : names <+: addName l names := by
  unfold addName; split
  · exact List.prefix_rfl
  · exact List.prefix_append _ _

theorem foldl_pre {f : List Nat → AV → List Nat} (hf : ∀ names a, names <+: f names a) : ∀ (cs : List AV) (names : List Nat), names <+: cs.foldl f names
  | [], _ => List.prefix_rfl
  | c :: cs, names => (hf names c).trans (foldl_pre hf cs _)

theorem visit_pre (st : Store) : ∀ (n : Nat) (names : List Nat) (a : AV), names <+: visit st n names a
  | 0, names, a => List.prefix_rfl
  | n + 1, names, a => by
    have fold := fun cs names => foldl_pre (fun names a => visit_pre st n names a) cs names
    cases a <;> simp only [visit]
    case ptr l o =>
      split
      · exact List.prefix_rfl
      · split
        · exact (List.prefix_append _ _).trans (fold _ _)
        · exact List.prefix_append _ _
    case rptr l i o => exact addName_pre _ _
    case whole l => exact addName_pre _ _
    case own l o m => exact addName_pre _ _
    case agg cs => exact fold _ _
    case tup cs => exact fold _ _
    case fn g cs => exact fold _ _
    case ifc t v => exact visit_pre st n names v
    all_goals exact List.prefix_rfl

theorem sub_mem (h : Mem E st w N) {names : List Nat} (hnd : names.Nodup) : Goes E st w N st w N ∧ Mem E (sub names st) w (subN names N) ∧
    ∀ (a : AV) (v : Value), Rel w (SS E.F N st) N a v → Rel w (SS E.F (subN names N) (sub names st)) (subN names N) (ren (place names) 8 a) v := by
  have hsub : ∀ b, SS E.F (subN names N) (sub names st) b → SS E.F N st b := fun b hb => hb.imp own_of_sub id
  have hS : ∀ b, ¬ SS E.F N st b → b < w.heap.size → ¬ SS E.F (subN names N) (sub names st) b := fun b hb _ hb' => hb (hsub b hb')
  refine ⟨.refl h, ⟨fun j blk hj => ?_, ?_, fun j hj => ?_, h.evo, fun b hb => h.sub b (own_of_sub hb), fun g cs hg => ?_⟩, fun a v hr => ren_rel (fun l l' ni h1 h2 => place_ok h1 h2) hS hr 8⟩
  · cases ha : alive blk with
    | false => cases blk <;> simp [alive] at ha; trivial
    | true =>
      obtain ⟨l, b, hl, hs, rfl⟩ := sub_get hj ha
      exact rel_renB (fun l l' ni h1 h2 => place_ok h1 h2) hS (h.blks l b hs) (fun ni hn => by unfold subN; rw [hl]; exact hn)
  · intro j j' blk blk' ni ni' b base base' hj hj' ha ha' hn hn' hb hb'
    obtain ⟨l, b1, hl, hs, rfl⟩ := sub_get hj ha
    obtain ⟨l', b1', hl', hs', rfl⟩ := sub_get hj' ha'
    rw [alive_renB] at ha ha'
    unfold subN at hn hn'; rw [hl] at hn; rw [hl'] at hn'
    have := h.apart l l' b1 b1' ni ni' b base base' hs hs' ha ha' hn hn' hb hb'
    subst this
    exact nodup_get hnd hl hl'
  · unfold subN
    rw [List.getElem?_eq_none (by simpa [sub] using hj)]; rfl
  · exact (h.glob g cs hg).grow (.less (N := N) hsub)

theorem start_get (ks : List Bool) (st : Store) (l : Nat) : (startNames ks st)[l]? = (ks[l]?).map fun b => if b then l else st.length + ks.length + l := by
  unfold startNames; rw [mapI_get]; simp

theorem start_nodup (ks : List Bool) (st : Store) : (startNames ks st).Nodup := by
  have hlen : (startNames ks st).length = ks.length := mapI_length _ _ _
  refine List.pairwise_iff_getElem.2 fun i j hi hj hij e => ?_
  have ei := start_get ks st i
  have ej := start_get ks st j
  rw [List.getElem?_eq_getElem hi, List.getElem?_eq_getElem (by omega)] at ei
  rw [List.getElem?_eq_getElem hj, List.getElem?_eq_getElem (by omega)] at ej
  simp only [Option.map_some, Option.some.injEq] at ei ej
  rw [ei, ej] at e
  have hM : ks.length ≤ st.length + ks.length := Nat.le_add_left _ _
  have hj' : j < ks.length := by omega
  generalize st.length + ks.length = M at e hM
  split at e <;> split at e <;> first | (have e : i = j := e; omega) | (have e : i = M + j := e; omega) | (have e : M + i = j := e; omega) | (have e : M + i = M + j := e; omega)

theorem canonF_ok (h : Mem E st w N) (ks : List Bool) (roots : List AV) : ∃ N', Mem E (canonF ks roots st).2 w N' ∧ (∀ l, ks[l]? = some true → N' l = N l) ∧
    (canonF ks roots st).1.length = roots.length ∧
    ∀ (j : Nat) (a : AV) (v : Value), roots[j]? = some a → Rel w (SS E.F N st) N a v → ∃ a', (canonF ks roots st).1[j]? = some a' ∧ Rel w (SS E.F N' (canonF ks roots st).2) N' a' v := by
  let names := (firstOf st ks.length ++ roots).foldl (visit st 12) (startNames ks st)
  have hnd : names.Nodup := foldl_nodup (fun names a h => visit_nodup st 12 names a h) _ _ (start_nodup ks st)
  have hpre : startNames ks st <+: names := foldl_pre (fun names a => visit_pre st 12 names a) _ _
  obtain ⟨_, hm, hr⟩ := sub_mem h hnd
  refine ⟨subN names N, hm, fun l hl => ?_, by simp [canonF], fun j a v h1 h2 => ⟨ren (place names) 8 a, ?_, hr a v h2⟩⟩
  · obtain ⟨t, ht⟩ := hpre
    have hlt : l < ks.length := (List.getElem?_eq_some_iff.1 hl).1
    have : names[l]? = some l := by
      rw [← ht, List.getElem?_append_left (by unfold startNames; rw [mapI_length]; exact hlt), start_get, hl]; rfl
    unfold subN; rw [this]; rfl
  · show (roots.map (ren (place names) 8))[j]? = some _
    rw [List.getElem?_map, h1]; rfl

/-- What is not asked for any more is struck. -/
theorem mask_ok (n0 : List Bool) (live : List Tmp) (h : At E s a w N) : ∃ N', At E (mask n0 live s) a w N' ∧ ExtN n0 N N' := by
  obtain ⟨N', hm, hn, hl, hr⟩ := canonF_ok h.mem n0 (live.map fun t => s.env.getD t .top)
  refine ⟨N', ⟨hm, ⟨by simp [mask, h.env.1], fun t x v h1 h2 => ?_⟩, h.defers⟩, fun l hl ni hni => by rw [hn l hl]; exact hni⟩
  simp only [mask, List.getElem?_map] at h1
  obtain ⟨t', ht, rfl⟩ := Option.map_eq_some_iff.1 h1
  obtain ⟨ht1, ht2⟩ := List.getElem?_eq_some_iff.1 ht
  simp only [List.getElem_range] at ht2
  subst ht2
  rw [List.length_range] at ht1
  split
  · rename_i j hj
    unfold place at hj
    split at hj
    · rename_i hc
      cases hj
      have hp := pos_get live t hc
      have hx := h.env.2 t _ v (List.getElem?_eq_getElem ht1) h2
      obtain ⟨a', h3, h4⟩ := hr (pos t live) _ v (by rw [List.getElem?_map, hp]; rfl) (by show Rel w (SS E.F N s.st) N (s.env.getD t .top) v; rw [List.getD_eq_getElem?_getD, List.getElem?_eq_getElem ht1]; exact hx)
      show Rel w _ N' (List.getD _ _ _) v
      rw [List.getD_eq_getElem?_getD, h3]; exact h4
    · cases hj
  · exact .top v

/-! ### Loops -/
theorem LoopSem.mask {n0 : List Bool} {c : Code} {r : Ex × St} (live : List Tmp) (h : LoopSem X n0 c (mask n0 live s) r) : LoopSem X n0 c s r := by
  obtain ⟨k, hk⟩ := h
  refine ⟨k, fun E a w N Q hG h hQ => ?_⟩
  obtain ⟨N1, h1, e1⟩ := mask_ok n0 live h
  exact hk E a w N1 Q hG h1 fun a' w' N' h' he => hQ a' w' N' h' (e1.trans he)

theorem LoopSem.next {n0 : List Bool} {c : Code} {s1 : St} {r : Ex × St} (h : CodeSem X n0 c s (.normal, s1)) (k : LoopSem X n0 c s1 r) : LoopSem X n0 c s r := by
  obtain ⟨k, hk⟩ := k
  exact ⟨k + 1, fun E a w N Q hG h0 hQ => h E a w N _ hG h0 fun a' w' N' h' he => hk E a' w' N' Q hG h' fun a2 w2 N2 h2 he2 => hQ a2 w2 N2 h2 (he.trans he2)⟩

theorem LoopSem.out {n0 : List Bool} {c : Code} {s1 : St} {e : Ex} (he : e ≠ .normal) (live : List Tmp) (h : CodeSem X n0 c s (e, s1)) : LoopSem X n0 c s (e, Abs.mask n0 live s1) := by
  refine ⟨1, fun E a w N Q hG h0 hQ => h E a w N _ hG h0 fun a' w' N' h' hx => ?_⟩
  obtain ⟨N1, h1, e1⟩ := mask_ok n0 live h'
  have := hQ a' w' N1 h1 (hx.trans e1)
  cases e with
  | normal => exact absurd rfl he
  | exit id => exact this
  | ret => exact this

/-- One round of a loop: what the evaluator says of its body. -/
def evRound (X : Ctx) (L : Nat → St → Tr (Ex × St)) (n0 : List Bool) (body : Code) (off : Nat) (live out : List Tmp) (s : St) (T : St → Tr (Ex × St)) : Tr (Ex × St) :=
  evCode X L body off s fun e s1 =>
    match e with
    | .normal => T (mask n0 live s1)
    | e => .ret (e, mask n0 out s1)

theorem round_ok (hX : X.ok) (hm : X.P.follows .mixedOrders = true) {L : Nat → St → Tr (Ex × St)} {n0 : List Bool} {body : Code} {off : Nat} {live out : List Tmp} {T : St → Tr (Ex × St)} {r : Ex × St}
    (hL : LoopsAt X L n0 body off) (h : (evRound X L n0 body off live out s T).get = some r) (hT : ∀ s2, (T s2).get = some r → LoopSem X n0 body s2 r) : LoopSem X n0 body s r := by
  obtain ⟨e, s1, h1, hc⟩ := code_ok hX hm body off s _ h hL
  cases e with
  | normal => exact .next hc (.mask live (hT _ h1))
  | exit id =>
    have := ret_get h1; subst this
    exact .out (by simp) out hc
  | ret =>
    have := ret_get h1; subst this
    exact .out (by simp) out hc
end
end Go.Abs
