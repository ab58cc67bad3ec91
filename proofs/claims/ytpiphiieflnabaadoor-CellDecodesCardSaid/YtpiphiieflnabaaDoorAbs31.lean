/- The abstract machine: contracts of the library taken over; tables of numbers. Conditions: the library's contract at each world. -/
import Derived.Test.YtpiphiieflnabaaDoorAbs30
import Derived.Below
import Derived.Stop.LaidErr
namespace Go.Abs
section
variable {P : Program} {G : Nat → Option (List AV)}

theorem GlobOK.less {w : World} {S S' : Nat → Prop} {g : Nat} {cs : List AV} (h : GlobOK w S g cs) (hS : ∀ b, S' b → S b) : GlobOK w S' g cs :=
  h.grow (N := noN) (N' := noN) ⟨fun _ _ h => h, fun _ _ _ _ h => h, fun b hb _ hb' => hb (hS b hb'), fun _ c T fr h => ⟨c, T, fr, h, rfl⟩, Nat.le_refl _⟩

/-- A function that at most puts memory behind the rest, and hands back a value without names. -/
theorem shelf_sem {f : Nat} {fn : Func} {c : Code} {args : List AV} {r : AV} (hf : P.funcs[f]? = some fn) (hb : fn.body = some c) (hn : (fn.name == "runtime.NumGoroutine") = false)
    (h : ∀ (w : World) (S : Nat → Prop) (N : Names) (vs : Array Value), (∀ g cs, G g = some cs → GlobOK w S g cs) → RelL w S N args vs →
      Calls P f vs w fun e w' => ∃ v, e = .returned v ∧ RowKit.Below w.heap.size w w' ∧ ∀ S N, Rel w' S N r v) : CallsSem P G f args [] r [] := by
  intro F w N vs hF hM hR
  refine .inl ⟨fn, hf, by simpa using hn, by rw [hb]; rfl, (h w _ N vs (fun g cs hg => hM.glob g cs hg) hR).mono ?_⟩
  rintro e w' ⟨v, rfl, hB, hr⟩
  have keep : ∀ b, b < w.heap.size → w'.heap[b]? = w.heap[b]? := fun b hb => hB.block b hb
  have g : Grow w (SS F N []) N w' (SS F N []) N := by
    refine ⟨fun _ _ h => h, fun b o u _ hc => ?_, fun _ h _ => h, fun b c T fr hb => ⟨c, T, fr, (keep b (Array.getElem?_eq_some_iff.1 hb).1).trans hb, rfl⟩, hB.size⟩
    obtain ⟨c, T, fr, h1, h2⟩ := cell?_iff.1 hc
    exact cell?_iff.2 ⟨c, T, fr, (keep b (lt_of_cell hc)).trans h1, h2⟩
  refine ⟨v, rfl, N, ⟨fun l blk hl => by simp at hl, fun l l' blk blk' ni ni' b base base' hl => by simp at hl, hM.fresh, ?_, fun b hb => (own_none b hb).elim, fun x cs hx => (hM.glob x cs hx).grow g⟩, hr _ _, fun l hl => by simp [isCells] at hl⟩
  exact ⟨hB.os, hB.tape, hB.output, hB.size, fun b hb _ => keep b hb, fun b c T fr hb => ⟨c, T, fr, (keep b (Array.getElem?_eq_some_iff.1 hb).1).trans hb, rfl⟩⟩

/-- A table of numbers, known whole. -/
theorem tab_is {w : World} {S : Nat → Prop} {name : String} {g : Nat} {k : IntKind} {zs : List Int} (hg : P.globalNamed name = some g) (h : GlobOK w S g (zs.map fun z => .int k z)) : Lib.TabIs P w name k zs := by
  obtain ⟨h1, c, T, fr, h2, h3⟩ := h
  unfold Lib.TabIs World.var?
  rw [hg]
  simp only [Option.bind_some, h2, Option.some.injEq]
  have := h1 noN
  cases this with
  | pim _ _ _ vs hS hlt e1 e2 =>
    apply Array.ext_getElem?
    intro i
    by_cases hi : i < zs.length
    · have a1 := e1 i (by simpa using hi)
      have a2 := e2 i (.int k zs[i]) (by simp [hi])
      obtain ⟨c', T', fr', b1, b2⟩ := cell?_iff.1 a1
      rw [h2] at b1; cases b1
      rw [Nat.zero_add] at b2
      rw [b2, rel_int a2]; simp [hi]
    · rw [Array.getElem?_eq_none (by simpa using (by simp at h3; omega : c.size ≤ i)), Array.getElem?_eq_none (by simpa using hi)]

/-- A variable of one cell, known to be this value. -/
theorem var_is {w : World} {S : Nat → Prop} {g : Nat} {ev : Value} (h : GlobOK w S g [.lit ev]) : w.cell? ⟨g, 0, none⟩ = some ev := by
  have := h.1 noN
  cases this with
  | pim _ _ _ vs hS hlt e1 e2 =>
    have a1 := e1 0 (by simp)
    have a2 := e2 0 (.lit ev) rfl
    cases a2
    exact a1
/-- A variable that holds one value. -/
theorem glob_one {w : World} {S : Nat → Prop} {name : String} {g : Nat} {v : Value} (hg : P.globalNamed name = some g) (h : w.var? P name = some #[v]) (hS : ¬ S g) : GlobOK w S g [.lit v] := by
  unfold World.var? at h
  rw [hg] at h
  simp only [Option.bind_some] at h
  cases hh : w.heap[g]? with
  | none => rw [hh] at h; cases h
  | some o =>
    rw [hh] at h
    cases o with
    | cells c T fr =>
      obtain rfl := Option.some.inj h
      refine ⟨fun M => .pim _ g 0 (fun _ => v) hS (Array.getElem?_eq_some_iff.1 hh).1 (fun j hj => ?_) fun j a ha => ?_, _, T, fr, hh, rfl⟩
      · exact cell?_iff.2 ⟨_, T, fr, hh, by simp at hj; subst hj; rfl⟩
      · match j with
        | 0 => cases ha; exact .lit _
        | j + 1 => simp at ha
    | _ => cases h

theorem relL_get {w : World} {S : Nat → Prop} {N : Names} {as' : List AV} {vs : Array Value} (h : RelL w S N as' vs) (j : Nat) (hj : j < as'.length) : ∃ v, vs[j]? = some v ∧ Rel w S N as'[j] v := by
  have hj' : j < vs.size := by have := h.1; omega
  exact ⟨vs[j], Array.getElem?_eq_getElem hj', h.2 j _ _ (List.getElem?_eq_getElem hj) (Array.getElem?_eq_getElem hj')⟩

theorem relL2 {w : World} {S : Nat → Prop} {N : Names} {a b : AV} {vs : Array Value} (h : RelL w S N [a, b] vs) : ∃ u v, vs = #[u, v] ∧ Rel w S N a u ∧ Rel w S N b v := by
  obtain ⟨u, hu, ru⟩ := relL_get h 0 (by simp)
  obtain ⟨v, hv, rv⟩ := relL_get h 1 (by simp)
  refine ⟨u, v, ?_, ru, rv⟩
  have hs := h.1
  apply Array.ext_getElem?
  intro i
  match i with
  | 0 => simpa using hu
  | 1 => simpa using hv
  | i + 2 => rw [Array.getElem?_eq_none (by simp at hs; omega), Array.getElem?_eq_none (by simp)]

theorem relL3 {w : World} {S : Nat → Prop} {N : Names} {a b c : AV} {vs : Array Value} (h : RelL w S N [a, b, c] vs) : ∃ u v x, vs = #[u, v, x] ∧ Rel w S N a u ∧ Rel w S N b v ∧ Rel w S N c x := by
  obtain ⟨u, hu, ru⟩ := relL_get h 0 (by simp)
  obtain ⟨v, hv, rv⟩ := relL_get h 1 (by simp)
  obtain ⟨x, hx, rx⟩ := relL_get h 2 (by simp)
  refine ⟨u, v, x, ?_, ru, rv, rx⟩
  have hs := h.1
  apply Array.ext_getElem?
  intro i
  match i with
  | 0 => simpa using hu
  | 1 => simpa using hv
  | 2 => simpa using hx
  | i + 3 => rw [Array.getElem?_eq_none (by simp at hs; omega), Array.getElem?_eq_none (by simp)]

theorem below_same (w : World) : RowKit.Below w.heap.size w w := RowKit.Below.refl _ _
end
end Go.Abs
