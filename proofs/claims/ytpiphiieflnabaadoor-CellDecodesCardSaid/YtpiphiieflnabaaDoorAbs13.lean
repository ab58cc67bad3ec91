/- The abstract machine: what a function's outcome says of the model; calls. Conditions: none. -/
import Derived.Test.YtpiphiieflnabaaDoorAbs12
namespace Go.Abs
section
variable {P : Program} {w w' : World} {S S' : Nat → Prop} {N N' : Names} {E : Fix} {st : Store}

def RelL (w : World) (S : Nat → Prop) (N : Names) (as' : List AV) (vs : Array Value) : Prop :=
  as'.length = vs.size ∧ ∀ (j : Nat) (a : AV) (v : Value), as'[j]? = some a → vs[j]? = some v → Rel w S N a v

theorem RelL.grow (g : Grow w S N w' S' N') {as' : List AV} {vs : Array Value} (h : RelL w S N as' vs) : RelL w' S' N' as' vs :=
  ⟨h.1, fun j a v h1 h2 => (h.2 j a v h1 h2).grow g⟩

/-- Where a function begins. -/
def Fix.at (F : Nat → Prop) (w : World) (N : Names) (st : Store) (G : Nat → Option (List AV)) (h : ∀ b, F b → b < w.heap.size ∧ ¬ Own N st b) : Fix :=
  { F := F, w0 := w, S0 := Own N st, G := G, ok := h }

/-- The function hands back a value, whether it has a body or not. -/
def Does (P : Program) (f : Nat) (vs : Array Value) (w : World) (R : Value → World → Prop) : Prop :=
  (∃ fn, P.funcs[f]? = some fn ∧ fn.name ≠ "runtime.NumGoroutine" ∧ fn.body.isSome = true ∧ Calls P f vs w fun e w' => ∃ v, e = .returned v ∧ R v w') ∨
  ∃ v w', (callFunc f vs).run P w = .ok (.value v) w' ∧ R v w'

theorem Does.mono {f : Nat} {vs : Array Value} {R R' : Value → World → Prop} (h : Does P f vs w R) (hr : ∀ v w', R v w' → R' v w') : Does P f vs w R' := by
  rcases h with ⟨fn, h1, h2, h3, h4⟩ | ⟨v, w', h1, h2⟩
  · exact .inl ⟨fn, h1, h2, h3, h4.mono fun e w' ⟨v, he, hv⟩ => ⟨v, he, hr v w' hv⟩⟩
  · exact .inr ⟨v, w', h1, hr v w' h2⟩

/-- The function, called with what these values tell, in a memory that this store tells, hands back what r tells, in a memory that st' tells; variables keep their places. -/
def CallsSem (P : Program) (G : Nat → Option (List AV)) (f : Nat) (args : List AV) (st : Store) (r : AV) (st' : Store) : Prop :=
  ∀ (F : Nat → Prop) (w : World) (N : Names) (vs : Array Value) (h : ∀ b, F b → b < w.heap.size ∧ ¬ Own N st b), Mem (Fix.at F w N st G h) st w N → RelL w (SS F N st) N args vs →
    Does P f vs w fun v w' => ∃ N', Mem (Fix.at F w N st G h) st' w' N' ∧ Rel w' (SS F N' st') N' r v ∧
      (∀ l, isCells st[l]? = true → isCells st'[l]? = true ∧ N' l = N l)

/-- What is known of a function holds. -/
def Con.ok (P : Program) (G : Nat → Option (List AV)) (f : Nat) (c : Con) : Prop :=
  ∀ args st r st', (c.spec args st).get = some (r, st') → CallsSem P G f args st r st'

/-! ### New names -/
theorem enc_plain : ∀ (k : EK) (x : k.α) (a : AV), a ∈ k.enc x → (∃ k n, a = .int k n) ∨ (∃ b, a = .bool b) ∨ (∃ s, a = .str s) ∨ ∃ k xs, a = .seq k xs
  | .int _, _, a, h => by simp [EK.enc] at h; exact .inl ⟨_, _, h⟩
  | .bool, _, a, h => by simp [EK.enc] at h; exact .inr (.inl ⟨_, h⟩)
  | .str, _, a, h => by simp [EK.enc] at h; exact .inr (.inr (.inl ⟨_, h⟩))
  | .seq _, _, a, h => by simp [EK.enc] at h; exact .inr (.inr (.inr ⟨_, _, h⟩))
  | .pair k1 k2, p, a, h => by
    simp only [EK.enc, List.mem_append] at h
    rcases h with h | h
    · exact enc_plain k1 _ a h
    · exact enc_plain k2 _ a h

/-- Under new names, in other sets that do not hold what is immutable, the same is told. -/
theorem ren_rel2 {f : Nat → Option Nat} (hf : ∀ l l' ni, f l = some l' → N l = some ni → N' l' = some ni) (hS : ∀ b, ¬ S b → b < w.heap.size → ¬ S' b) {a : AV} {v : Value} (h : Rel w S N a v) :
    (∀ n, Rel w S' N' (ren f n a) v) ∧ (((∃ k n, a = .int k n) ∨ (∃ b, a = .bool b) ∨ (∃ s, a = .str s) ∨ ∃ k xs, a = .seq k xs) → Rel w S' N' a v) := by
  have zero : ∀ (a : AV) (v : Value), (∀ n, Rel w S' N' (ren f (n + 1) a) v) → ∀ n, Rel w S' N' (ren f n a) v := by
    intro a v h n
    cases n with
    | zero => exact .top v
    | succ n => exact h n
  have maps : ∀ (cs : List AV) (vs : Array Value), cs.length = vs.size → (∀ (j : Nat) (a : AV) (v : Value), cs[j]? = some a → vs[j]? = some v → ∀ n, Rel w S' N' (ren f n a) v) →
      ∀ n, (cs.map (ren f n)).length = vs.size ∧ ∀ (j : Nat) (a : AV) (v : Value), (cs.map (ren f n))[j]? = some a → vs[j]? = some v → Rel w S' N' a v := by
    intro cs vs hl h n
    refine ⟨by simpa using hl, fun j a v h1 h2 => ?_⟩
    rw [List.getElem?_map] at h1
    obtain ⟨b, hb, rfl⟩ := Option.map_eq_some_iff.1 h1
    exact h j b v hb h2 n
  induction h with
  | top v => exact ⟨zero _ _ fun n => .top v, by simp⟩
  | bool b => exact ⟨zero _ _ fun n => .bool b, fun _ => .bool b⟩
  | int k n => exact ⟨zero _ _ fun _ => .int k n, fun _ => .int k n⟩
  | str s => exact ⟨zero _ _ fun _ => .str s, fun _ => .str s⟩
  | lit v => exact ⟨zero _ _ fun _ => .lit v, by simp⟩
  | ptr l o ni b base hn hb =>
    refine ⟨zero _ _ fun n => ?_, by simp⟩
    simp only [ren]
    split
    · rename_i l' hl; exact .ptr l' o ni b base (hf l l' ni hl hn) hb
    · exact .top _
  | rptr l i o ni b base hn hb =>
    refine ⟨zero _ _ fun n => ?_, by simp⟩
    simp only [ren]
    split
    · rename_i l' hl; exact .rptr l' i o ni b base (hf l l' ni hl hn) hb
    · exact .top _
  | pim cs b off vs h1 h2 h3 h4 ih =>
    refine ⟨zero _ _ fun n => ?_, by simp⟩
    refine .pim _ b off vs (hS b h1 h2) h2 (fun j hj => h3 j (by simpa using hj)) (fun j a ha => ?_)
    rw [List.getElem?_map] at ha
    obtain ⟨c, hc, rfl⟩ := Option.map_eq_some_iff.1 ha
    exact (ih j c hc).1 n
  | whole l ni c A hn hh =>
    refine ⟨zero _ _ fun n => ?_, by simp⟩
    simp only [ren]
    split
    · rename_i l' hl; exact .whole l' ni c A (hf l l' ni hl hn) hh
    · exact .top _
  | own l o m ni c A hn hl hh =>
    refine ⟨zero _ _ fun n => ?_, by simp⟩
    simp only [ren]
    split
    · rename_i l' hl'; exact .own l' o m ni c A (hf l l' ni hl' hn) hl hh
    · exact .top _
  | seq0 k c A => exact ⟨zero _ _ fun _ => .seq0 k c A, fun _ => .seq0 k c A⟩
  | seq k xs b off c vs hc h1 h2 h3 h4 ih =>
    have : Rel w S' N' (.seq k xs) (.slice (some ⟨b, off, none⟩) xs.length c) :=
      .seq k xs b off c vs hc (hS b h1 h2) h2 h3 (fun i x j a hx ha => (ih i x j a hx ha).2 (enc_plain k x a (List.mem_of_getElem? ha)))
    exact ⟨zero _ _ fun _ => this, fun _ => this⟩
  | agg cs vs hl h ih =>
    refine ⟨zero _ _ fun n => ?_, by simp⟩
    obtain ⟨h1, h2⟩ := maps cs vs hl (fun j a v h1 h2 => (ih j a v h1 h2).1) n
    exact .agg _ vs h1 h2
  | tup cs vs hl h ih =>
    refine ⟨zero _ _ fun n => ?_, by simp⟩
    obtain ⟨h1, h2⟩ := maps cs vs hl (fun j a v h1 h2 => (ih j a v h1 h2).1) n
    exact .tup _ vs h1 h2
  | fn g cs vs hl h ih =>
    refine ⟨zero _ _ fun n => ?_, by simp⟩
    obtain ⟨h1, h2⟩ := maps cs vs hl (fun j a v h1 h2 => (ih j a v h1 h2).1) n
    exact .fn g _ vs h1 h2
  | ifc t x v h ih => exact ⟨zero _ _ fun n => .ifc t _ v (ih.1 n), by simp⟩

theorem ren_rel {f : Nat → Option Nat} (hf : ∀ l l' ni, f l = some l' → N l = some ni → N' l' = some ni) (hS : ∀ b, ¬ S b → b < w.heap.size → ¬ S' b) {a : AV} {v : Value} (h : Rel w S N a v) (n : Nat) :
    Rel w S' N' (ren f n a) v := (ren_rel2 hf hS h).1 n

/-- Where nothing is immutable memory the sets don't count. -/
theorem noImm_rel {n : Nat} {a : AV} {v : Value} (hq : noImm n a = true) (h : Rel w S N a v) : Rel w S' N a v := by
  induction n generalizing a v with
  | zero => simp [noImm] at hq
  | succ n ih =>
    have all : ∀ (cs : List AV) (vs : Array Value), cs.all (noImm n) = true → (∀ (j : Nat) (a : AV) (v : Value), cs[j]? = some a → vs[j]? = some v → Rel w S N a v) →
        ∀ (j : Nat) (a : AV) (v : Value), cs[j]? = some a → vs[j]? = some v → Rel w S' N a v := fun cs vs hc h j a v h1 h2 =>
      ih (List.all_eq_true.1 hc a (List.mem_of_getElem? h1)) (h j a v h1 h2)
    cases h with
    | top v => exact .top v
    | bool b => exact .bool b
    | int k n => exact .int k n
    | str s => exact .str s
    | lit v => exact .lit v
    | ptr l o ni b base hn hb => exact .ptr l o ni b base hn hb
    | rptr l i o ni b base hn hb => exact .rptr l i o ni b base hn hb
    | pim => simp [noImm] at hq
    | whole l ni c A hn hh => exact .whole l ni c A hn hh
    | own l o m ni c A hn hl hh => exact .own l o m ni c A hn hl hh
    | seq0 => simp [noImm] at hq
    | seq => simp [noImm] at hq
    | agg cs vs hl h => exact .agg cs vs hl (all cs vs (by simpa [noImm] using hq) h)
    | tup cs vs hl h => exact .tup cs vs hl (all cs vs (by simpa [noImm] using hq) h)
    | fn g cs vs hl h => exact .fn g cs vs hl (all cs vs (by simpa [noImm] using hq) h)
    | ifc t x v h => exact .ifc t x v (ih (by simpa [noImm] using hq) h)

theorem noName_rel {n : Nat} {a : AV} {v : Value} (hq : noName n a = true) (hm : noImm n a = true) (h : Rel w S N a v) : Rel w' S' N' a v := by
  induction n generalizing a v with
  | zero => simp [noImm] at hm
  | succ n ih =>
    have all : ∀ (cs : List AV) (vs : Array Value), cs.all (noName n) = true → cs.all (noImm n) = true → (∀ (j : Nat) (a : AV) (v : Value), cs[j]? = some a → vs[j]? = some v → Rel w S N a v) →
        ∀ (j : Nat) (a : AV) (v : Value), cs[j]? = some a → vs[j]? = some v → Rel w' S' N' a v := fun cs vs hc hc' h j a v h1 h2 =>
      ih (List.all_eq_true.1 hc a (List.mem_of_getElem? h1)) (List.all_eq_true.1 hc' a (List.mem_of_getElem? h1)) (h j a v h1 h2)
    cases h with
    | top v => exact .top v
    | bool b => exact .bool b
    | int k n => exact .int k n
    | str s => exact .str s
    | lit v => exact .lit v
    | ptr => simp [noName] at hq
    | rptr => simp [noName] at hq
    | pim => simp [noImm] at hm
    | whole => simp [noName] at hq
    | own => simp [noName] at hq
    | seq0 => simp [noImm] at hm
    | seq => simp [noImm] at hm
    | agg cs vs hl h => exact .agg cs vs hl (all cs vs (by simpa [noName] using hq) (by simpa [noImm] using hm) h)
    | tup cs vs hl h => exact .tup cs vs hl (all cs vs (by simpa [noName] using hq) (by simpa [noImm] using hm) h)
    | fn g cs vs hl h => exact .fn g cs vs hl (all cs vs (by simpa [noName] using hq) (by simpa [noImm] using hm) h)
    | ifc t x v h => exact .ifc t x v (ih (by simpa [noName] using hq) (by simpa [noImm] using hm) h)
end
end Go.Abs
