/- The abstract machine: what its values and stores have to do with the model's. Conditions: none. -/
import Derived.Test.YtpiphiieflnabaaDoorAbs2
namespace Go.Abs

/-- A name's block and where in it, how many elements, how many cells each. -/
structure NI where
  blk : Option (Nat × Nat)
  len : Nat
  esz : Nat

abbrev Names := Nat → Option NI

def Hdr (w : World) (ni : NI) (o n c : Nat) (A : Option Addr) : Prop :=
  (n = 0 ∧ c = 0) ∨ ∃ b base cs E fr, ni.blk = some (b, base) ∧ A = some ⟨b, base + o * ni.esz, none⟩ ∧ w.heap[b]? = some (Obj.cells cs E fr) ∧ base + (o + c) * ni.esz ≤ cs.size ∧ n ≤ c

inductive Rel (w : World) (S : Nat → Prop) (N : Names) : AV → Value → Prop
  | top (v) : Rel w S N .top v
  | bool (b) : Rel w S N (.bool b) (.bool b)
  | int (k n) : Rel w S N (.int k n) (.int k n)
  | str (s) : Rel w S N (.str s) (.string ⟨s.toArray⟩)
  | lit (v) : Rel w S N (.lit v) v
  | ptr (l o : Nat) (ni : NI) (b base : Nat) (hn : N l = some ni) (hb : ni.blk = some (b, base)) : Rel w S N (.ptr l o) (.pointer (some ⟨b, base + o, none⟩))
  | rptr (l i o : Nat) (ni : NI) (b base : Nat) (hn : N l = some ni) (hb : ni.blk = some (b, base)) : Rel w S N (.rptr l i o) (.pointer (some ⟨b, base + (i * ni.esz + o), none⟩))
  | pim (cs : List AV) (b off : Nat) (vs : Nat → Value) (hS : ¬ S b) (hlt : b < w.heap.size) (h1 : ∀ j, j < cs.length → w.cell? ⟨b, off + j, none⟩ = some (vs j)) (h2 : ∀ (j : Nat) (a : AV), cs[j]? = some a → Rel w S N a (vs j)) :
      Rel w S N (.pim cs) (.pointer (some ⟨b, off, none⟩))
  | whole (l : Nat) (ni : NI) (c : Nat) (A : Option Addr) (hn : N l = some ni) (hh : Hdr w ni 0 ni.len c A) : Rel w S N (.whole l) (.slice A ni.len c)
  | own (l o n : Nat) (ni : NI) (c : Nat) (A : Option Addr) (hn : N l = some ni) (hl : o + n ≤ ni.len) (hh : Hdr w ni o n c A) : Rel w S N (.own l o n) (.slice A n c)
  | seq0 (k : EK) (c : Nat) (A : Option Addr) : Rel w S N (.seq k []) (.slice A 0 c)
  | seq (k : EK) (xs : List k.α) (b off c : Nat) (vs : Nat → Nat → Value) (hc : xs.length ≤ c) (hS : ¬ S b) (hlt : b < w.heap.size)
      (h1 : ∀ i j, i < xs.length → j < k.size → w.cell? ⟨b, off + (i * k.size + j), none⟩ = some (vs i j))
      (h2 : ∀ (i : Nat) (x : k.α) (j : Nat) (a : AV), xs[i]? = some x → (k.enc x)[j]? = some a → Rel w S N a (vs i j)) : Rel w S N (.seq k xs) (.slice (some ⟨b, off, none⟩) xs.length c)
  | agg (cs : List AV) (vs : Array Value) (hl : cs.length = vs.size) (h : ∀ (j : Nat) (a : AV) (v : Value), cs[j]? = some a → vs[j]? = some v → Rel w S N a v) : Rel w S N (.agg cs) (.agg vs)
  | tup (cs : List AV) (vs : Array Value) (hl : cs.length = vs.size) (h : ∀ (j : Nat) (a : AV) (v : Value), cs[j]? = some a → vs[j]? = some v → Rel w S N a v) : Rel w S N (.tup cs) (.tuple vs)
  | fn (f : Nat) (cs : List AV) (vs : Array Value) (hl : cs.length = vs.size) (h : ∀ (j : Nat) (a : AV) (v : Value), cs[j]? = some a → vs[j]? = some v → Rel w S N a v) : Rel w S N (.fn f cs) (.func (.func f) #[] vs)
  | ifc (t : Nat) (x : AV) (v : Value) (h : Rel w S N x v) : Rel w S N (.ifc t x) (.iface t v)

/-- What may change so that each relation stays. -/
structure Grow (w : World) (S : Nat → Prop) (N : Names) (w' : World) (S' : Nat → Prop) (N' : Names) : Prop where
  names : ∀ l ni, N l = some ni → N' l = some ni
  cells : ∀ b o u, ¬ S b → w.cell? ⟨b, o, none⟩ = some u → w'.cell? ⟨b, o, none⟩ = some u
  off : ∀ b, ¬ S b → b < w.heap.size → ¬ S' b
  sizes : ∀ (b : Nat) (c : Array Value) E fr, w.heap[b]? = some (Obj.cells c E fr) → ∃ c' E' fr', w'.heap[b]? = some (Obj.cells c' E' fr') ∧ c'.size = c.size
  size : w.heap.size ≤ w'.heap.size

theorem cell?_iff {w : World} {b o : Nat} {u : Value} : w.cell? ⟨b, o, none⟩ = some u ↔ ∃ c E fr, w.heap[b]? = some (Obj.cells c E fr) ∧ c[o]? = some u := by
  unfold World.cell?
  constructor
  · intro h
    split at h
    · rename_i c E fr hb; exact ⟨c, E, fr, hb, by simpa using h⟩
    · simp at h
  · rintro ⟨c, E, fr, hb, hc⟩
    simp only [hb]; simpa using hc

theorem lt_of_cell {w : World} {b o : Nat} {u : Value} (h : w.cell? ⟨b, o, none⟩ = some u) : b < w.heap.size := by
  obtain ⟨c, E, fr, hb, _⟩ := cell?_iff.1 h
  exact (Array.getElem?_eq_some_iff.1 hb).1

theorem Grow.refl (w : World) (S : Nat → Prop) (N : Names) : Grow w S N w S N :=
  ⟨fun _ _ h => h, fun _ _ _ _ h => h, fun _ h _ => h, fun _ c E fr h => ⟨c, E, fr, h, rfl⟩, Nat.le_refl _⟩

theorem Grow.any {w w' : World} {S S' : Nat → Prop} {N N' M : Names} (g : Grow w S N w' S' N') : Grow w S M w' S' M :=
  ⟨fun _ _ h => h, g.cells, g.off, g.sizes, g.size⟩

theorem Grow.trans {w w1 w2 : World} {S S1 S2 : Nat → Prop} {N N1 N2 : Names} (h : Grow w S N w1 S1 N1) (k : Grow w1 S1 N1 w2 S2 N2) : Grow w S N w2 S2 N2 where
  names l ni hl := k.names _ _ (h.names _ _ hl)
  cells b o u hS hc := k.cells _ _ _ (h.off b hS (lt_of_cell hc)) (h.cells _ _ _ hS hc)
  off b hS hb := k.off _ (h.off _ hS hb) (Nat.lt_of_lt_of_le hb h.size)
  sizes b c E fr hb := by
    obtain ⟨c1, E1, fr1, h1, e1⟩ := h.sizes _ _ _ _ hb
    obtain ⟨c2, E2, fr2, h2, e2⟩ := k.sizes _ _ _ _ h1
    exact ⟨c2, E2, fr2, h2, e2.trans e1⟩
  size := Nat.le_trans h.size k.size

theorem Hdr.grow {w w' : World} {S S' : Nat → Prop} {N N' : Names} (g : Grow w S N w' S' N') {ni : NI} {o n c : Nat} {A : Option Addr} (h : Hdr w ni o n c A) : Hdr w' ni o n c A := by
  rcases h with h | ⟨b, base, cs, E, fr, h1, h2, h3, h4, h5⟩
  · exact .inl h
  · obtain ⟨c', E', fr', hb, hs⟩ := g.sizes _ _ _ _ h3
    exact .inr ⟨b, base, c', E', fr', h1, h2, hb, by rw [hs]; exact h4, h5⟩

theorem Rel.grow {w w' : World} {S S' : Nat → Prop} {N N' : Names} (g : Grow w S N w' S' N') {a : AV} {v : Value} (h : Rel w S N a v) : Rel w' S' N' a v := by
  induction h with
  | top v => exact .top v
  | bool b => exact .bool b
  | int k n => exact .int k n
  | str s => exact .str s
  | lit v => exact .lit v
  | ptr l o ni b base hn hb => exact .ptr l o ni b base (g.names _ _ hn) hb
  | rptr l i o ni b base hn hb => exact .rptr l i o ni b base (g.names _ _ hn) hb
  | pim cs b off vs hS hlt h1 h2 ih =>
    exact .pim cs b off vs (g.off _ hS hlt) (Nat.lt_of_lt_of_le hlt g.size) (fun j hj => g.cells _ _ _ hS (h1 j hj)) ih
  | whole l ni c A hn hh => exact .whole l ni c A (g.names _ _ hn) (hh.grow g)
  | own l o n ni c A hn hl hh => exact .own l o n ni c A (g.names _ _ hn) hl (hh.grow g)
  | seq0 k c A => exact .seq0 k c A
  | seq k xs b off c vs hc hS hlt h1 h2 ih =>
    exact .seq k xs b off c vs hc (g.off _ hS hlt) (Nat.lt_of_lt_of_le hlt g.size) (fun i j hi hj => g.cells _ _ _ hS (h1 i j hi hj)) ih
  | agg cs vs hl h ih => exact .agg cs vs hl ih
  | tup cs vs hl h ih => exact .tup cs vs hl ih
  | fn f cs vs hl h ih => exact .fn f cs vs hl ih
  | ifc t x v h ih => exact .ifc t x v ih

/-! ### Stores -/
def alive : Blk → Bool
  | .dead => false
  | _ => true

def Own (N : Names) (st : Store) (b : Nat) : Prop := ∃ (l : Nat) (blk : Blk) (ni : NI) (base : Nat), st[l]? = some blk ∧ alive blk = true ∧ N l = some ni ∧ ni.blk = some (b, base)

/-- The blocks that may be written, or are somebody else's. -/
def SS (F : Nat → Prop) (N : Names) (st : Store) (b : Nat) : Prop := Own N st b ∨ F b

def Thaw (fr : Nat × Nat) (n : Nat) : Prop := ∀ i, i < n → ¬ (fr.1 ≤ i ∧ i < fr.2)

def BlkRel (w : World) (S : Nat → Prop) (N : Names) (l : Nat) : Blk → Prop
  | .dead => True
  | .cells cs => ∃ ni b c E fr, N l = some ni ∧ ni.blk = some (b, 0) ∧ w.heap[b]? = some (Obj.cells c E fr) ∧ Thaw fr c.size ∧ c.size = cs.length ∧
      ∀ (j : Nat) (a : AV) (v : Value), cs[j]? = some a → c[j]? = some v → Rel w S N a v
  | .row k xs => ∃ ni, N l = some ni ∧ ni.len = xs.length ∧ ni.esz = k.size ∧ ((ni.blk = none ∧ xs = []) ∨
      ∃ b base c E fr, ni.blk = some (b, base) ∧ w.heap[b]? = some (Obj.cells c E fr) ∧ Thaw fr c.size ∧ base + xs.length * k.size ≤ c.size ∧
        ∀ (i : Nat) (x : k.α) (j : Nat) (a : AV), xs[i]? = some x → (k.enc x)[j]? = some a → ∃ v, c[base + (i * k.size + j)]? = some v ∧ Rel w S N a v)

/-- What does not turn while a function runs: others' blocks; where it began; what it owned then; the package variables. -/
structure Fix where
  F : Nat → Prop
  w0 : World
  S0 : Nat → Prop
  G : Nat → Option (List AV)
  ok : ∀ b, F b → b < w0.heap.size ∧ ¬ S0 b

structure Evo (w0 : World) (S0 : Nat → Prop) (w : World) : Prop where
  os : w.os = w0.os
  tape : w.tape = w0.tape
  output : w.output = w0.output
  size : w0.heap.size ≤ w.heap.size
  keep : ∀ b, b < w0.heap.size → ¬ S0 b → w.heap[b]? = w0.heap[b]?
  sizes : ∀ (b : Nat) (c : Array Value) E fr, w0.heap[b]? = some (Obj.cells c E fr) → ∃ c' E' fr', w.heap[b]? = some (Obj.cells c' E' fr') ∧ c'.size = c.size

/-- A package variable holds what is known of it, and no cell more. -/
def GlobOK (w : World) (S : Nat → Prop) (g : Nat) (cs : List AV) : Prop :=
  (∀ M : Names, Rel w S M (.pim cs) (.pointer (some ⟨g, 0, none⟩))) ∧ ∃ c T fr, w.heap[g]? = some (Obj.cells c T fr) ∧ c.size = cs.length

theorem GlobOK.grow {w w' : World} {S S' : Nat → Prop} {N N' : Names} (g : Grow w S N w' S' N') {x : Nat} {cs : List AV} (h : GlobOK w S x cs) : GlobOK w' S' x cs := by
  obtain ⟨h1, c, T, fr, h2, h3⟩ := h
  obtain ⟨c', T', fr', h4, h5⟩ := g.sizes _ _ _ _ h2
  exact ⟨fun M => (h1 M).grow g.any, c', T', fr', h4, h5.trans h3⟩

structure Mem (E : Fix) (st : Store) (w : World) (N : Names) : Prop where
  blks : ∀ l blk, st[l]? = some blk → BlkRel w (SS E.F N st) N l blk
  apart : ∀ (l l' : Nat) (blk blk' : Blk) (ni ni' : NI) (b base base' : Nat), st[l]? = some blk → st[l']? = some blk' → alive blk = true → alive blk' = true → N l = some ni → N l' = some ni' →
    ni.blk = some (b, base) → ni'.blk = some (b, base') → l = l'
  fresh : ∀ l, st.length ≤ l → N l = none
  evo : Evo E.w0 E.S0 w
  sub : ∀ b, Own N st b → E.S0 b ∨ E.w0.heap.size ≤ b
  glob : ∀ g cs, E.G g = some cs → GlobOK w (SS E.F N st) g cs

/-- The way from one state of the memory to another one. -/
def Goes (E : Fix) (st : Store) (w : World) (N : Names) (st' : Store) (w' : World) (N' : Names) : Prop :=
  Mem E st' w' N' ∧ Grow w (SS E.F N st) N w' (SS E.F N' st') N'

theorem Own.lt {E : Fix} {st : Store} {w : World} {N : Names} (h : Mem E st w N) {b : Nat} (ho : Own N st b) : b < w.heap.size := by
  obtain ⟨l, blk, ni, base, hl, ha, hn, hb⟩ := ho
  have := h.blks l blk hl
  cases blk with
  | dead => simp [alive] at ha
  | cells cs =>
    obtain ⟨ni', b', c, E, fr, hn', hb', hh, _⟩ := this
    rw [hn] at hn'; cases hn'; rw [hb] at hb'; cases hb'
    exact (Array.getElem?_eq_some_iff.1 hh).1
  | row k xs =>
    obtain ⟨ni', hn', _, _, h1⟩ := this
    rw [hn] at hn'; cases hn'
    rcases h1 with ⟨h1, _⟩ | ⟨b', base', c, E, fr, hb', hh, _⟩
    · rw [hb] at h1; cases h1
    · rw [hb] at hb'; cases hb'
      exact (Array.getElem?_eq_some_iff.1 hh).1

theorem SS.lt {E : Fix} {st : Store} {w : World} {N : Names} (h : Mem E st w N) {b : Nat} (ho : SS E.F N st b) : b < w.heap.size := by
  rcases ho with ho | ho
  · exact ho.lt h
  · exact Nat.lt_of_lt_of_le (E.ok b ho).1 h.evo.size

theorem Mem.notF {E : Fix} {st : Store} {w : World} {N : Names} (h : Mem E st w N) {b : Nat} (ho : Own N st b) : ¬ E.F b := by
  intro hf
  obtain ⟨h1, h2⟩ := E.ok b hf
  rcases h.sub b ho with h3 | h3
  · exact h2 h3
  · omega

theorem Goes.refl {E : Fix} {st : Store} {w : World} {N : Names} (h : Mem E st w N) : Goes E st w N st w N := ⟨h, Grow.refl _ _ _⟩
theorem Goes.trans {E : Fix} {st st1 st2 : Store} {w w1 w2 : World} {N N1 N2 : Names} (h : Goes E st w N st1 w1 N1) (k : Goes E st1 w1 N1 st2 w2 N2) : Goes E st w N st2 w2 N2 :=
  ⟨k.1, h.2.trans k.2⟩

theorem BlkRel.grow {w w' : World} {S S' : Nat → Prop} {N N' : Names} (g : Grow w S N w' S' N') {l : Nat} {blk : Blk} (h : BlkRel w S N l blk)
    (hb : ∀ ni b base, alive blk = true → N l = some ni → ni.blk = some (b, base) → w'.heap[b]? = w.heap[b]?) : BlkRel w' S' N' l blk := by
  cases blk with
  | dead => trivial
  | cells cs =>
    obtain ⟨ni, b, c, E, fr, hn, hbb, hh, ht, hs, hr⟩ := h
    exact ⟨ni, b, c, E, fr, g.names _ _ hn, hbb, (hb ni b 0 rfl hn hbb).trans hh, ht, hs, fun j a v h1 h2 => (hr j a v h1 h2).grow g⟩
  | row k xs =>
    obtain ⟨ni, hn, hl, he, h1⟩ := h
    refine ⟨ni, g.names _ _ hn, hl, he, ?_⟩
    rcases h1 with h1 | ⟨b, base, c, E, fr, hbb, hh, ht, hs, hr⟩
    · exact .inl h1
    · refine .inr ⟨b, base, c, E, fr, hbb, (hb ni b base rfl hn hbb).trans hh, ht, hs, fun i x j a h2 h3 => ?_⟩
      obtain ⟨v, hv, hR⟩ := hr i x j a h2 h3
      exact ⟨v, hv, hR.grow g⟩

/-- A name more. -/
def Names.add (N : Names) (l : Nat) (ni : NI) : Names := fun x => if x = l then some ni else N x

theorem Names.add_same (N : Names) (l : Nat) (ni : NI) : (N.add l ni) l = some ni := by simp [Names.add]
theorem Names.add_other (N : Names) (l : Nat) (ni : NI) {x : Nat} (h : x ≠ l) : (N.add l ni) x = N x := by simp [Names.add, h]

theorem Mem.name_lt {E : Fix} {st : Store} {w : World} {N : Names} (h : Mem E st w N) {l : Nat} {ni : NI} (hn : N l = some ni) : l < st.length := by
  rcases Nat.lt_or_ge l st.length with h1 | h1
  · exact h1
  · rw [h.fresh l h1] at hn; cases hn

theorem getElem?_snoc_ne {st : Store} {b blk : Blk} {l : Nat} (hl : l ≠ st.length) (h : (st ++ [b])[l]? = some blk) : st[l]? = some blk := by
  rcases Nat.lt_or_ge l st.length with h1 | h1
  · rwa [List.getElem?_append_left h1] at h
  · rw [List.getElem?_append_right h1] at h
    have : l - st.length ≠ 0 := by omega
    rw [show l - st.length = (l - st.length - 1) + 1 by omega] at h
    simp at h

/-- A block is put to the store; its row is new, or was nobody's: 'hnew'. -/
theorem Mem.snoc {E : Fix} {st : Store} {w w' : World} {N : Names} (h : Mem E st w N) (blk : Blk) (ni : NI) (ha : alive blk = true)
    (hev : Evo E.w0 E.S0 w') (hsz : w.heap.size ≤ w'.heap.size)
    (hkeep : ∀ b, b < w.heap.size → w'.heap[b]? = w.heap[b]?)
    (hnew : ∀ b base, ni.blk = some (b, base) → ¬ SS E.F N st b ∧ w.heap.size ≤ b)
    (hrel : ∀ S', (∀ b, SS E.F N st b → S' b) → Grow w (SS E.F N st) N w' S' (N.add st.length ni) → BlkRel w' S' (N.add st.length ni) st.length blk) :
    Goes E st w N (st ++ [blk]) w' (N.add st.length ni) := by
  have hnames : ∀ l x, N l = some x → (N.add st.length ni) l = some x := fun l x hl => by
    rw [Names.add_other _ _ _ (Nat.ne_of_lt (h.name_lt hl))]; exact hl
  have hown : ∀ b, Own (N.add st.length ni) (st ++ [blk]) b → Own N st b ∨ ∃ base, ni.blk = some (b, base) := by
    rintro b ⟨l, blk', ni', base, hl, ha', hn', hb'⟩
    by_cases e : l = st.length
    · subst e; rw [Names.add_same] at hn'; cases hn'; exact .inr ⟨base, hb'⟩
    · rw [Names.add_other _ _ _ e] at hn'
      exact .inl ⟨l, blk', ni', base, getElem?_snoc_ne e hl, ha', hn', hb'⟩
  have hown' : ∀ b, Own N st b → Own (N.add st.length ni) (st ++ [blk]) b := by
    rintro b ⟨l, blk', ni', base, hl, ha', hn', hb'⟩
    have hlt := h.name_lt hn'
    exact ⟨l, blk', ni', base, by rw [List.getElem?_append_left hlt]; exact hl, ha', hnames _ _ hn', hb'⟩
  have g : Grow w (SS E.F N st) N w' (SS E.F (N.add st.length ni) (st ++ [blk])) (N.add st.length ni) := by
    refine ⟨hnames, fun b o u hS hc => ?_, fun b hS hb hS' => ?_, fun b c E' fr hb => ?_, hsz⟩
    · have := hkeep b (lt_of_cell hc)
      obtain ⟨c, E', fr, h1, h2⟩ := cell?_iff.1 hc
      exact cell?_iff.2 ⟨c, E', fr, this.trans h1, h2⟩
    · rcases hS' with hS' | hS'
      · rcases hown b hS' with h1 | ⟨base, h1⟩
        · exact hS (.inl h1)
        · have := (hnew b base h1).2; omega
      · exact hS (.inr hS')
    · exact ⟨c, E', fr, (hkeep b (Array.getElem?_eq_some_iff.1 hb).1).trans hb, rfl⟩
  refine ⟨⟨fun l blk' hl => ?_, ?_, fun l hl => ?_, hev, fun b hb => ?_, fun x cs hx => (h.glob x cs hx).grow g⟩, g⟩
  · by_cases e : l = st.length
    · subst e
      have : blk' = blk := by simpa using hl.symm
      subst this
      exact hrel _ (fun b hb => hb.imp (hown' b) id) g
    · have hl' := getElem?_snoc_ne e hl
      refine (h.blks l blk' hl').grow g fun ni' b base ha' hn' hb' => hkeep b ?_
      exact Own.lt h ⟨l, blk', ni', base, hl', ha', hn', hb'⟩
  · intro l l' blk1 blk2 ni1 ni2 b base base' hl hl' ha1 ha2 hn1 hn2 hb1 hb2
    by_cases e : l = st.length
    · by_cases e' : l' = st.length
      · rw [e, e']
      · exfalso
        subst e; rw [Names.add_same] at hn1; cases hn1
        rw [Names.add_other _ _ _ e'] at hn2
        exact (hnew b base hb1).1 (.inl ⟨l', blk2, ni2, base', getElem?_snoc_ne e' hl', ha2, hn2, hb2⟩)
    · by_cases e' : l' = st.length
      · exfalso
        subst e'; rw [Names.add_same] at hn2; cases hn2
        rw [Names.add_other _ _ _ e] at hn1
        exact (hnew b base' hb2).1 (.inl ⟨l, blk1, ni1, base, getElem?_snoc_ne e hl, ha1, hn1, hb1⟩)
      · rw [Names.add_other _ _ _ e] at hn1
        rw [Names.add_other _ _ _ e'] at hn2
        exact h.apart l l' blk1 blk2 ni1 ni2 b base base' (getElem?_snoc_ne e hl) (getElem?_snoc_ne e' hl') ha1 ha2 hn1 hn2 hb1 hb2
  · rw [Names.add_other _ _ _ (by simp at hl; omega)]; exact h.fresh l (by simp at hl; omega)
  · rcases hown b hb with h1 | ⟨base, h1⟩
    · exact h.sub b h1
    · exact .inr (Nat.le_trans h.evo.size (hnew b base h1).2)

/-- An empty row without memory. -/
theorem Mem.ghost {E : Fix} {st : Store} {w : World} {N : Names} (h : Mem E st w N) (k : EK) :
    Goes E st w N (st ++ [.row k []]) w (N.add st.length ⟨none, 0, k.size⟩) :=
  h.snoc _ _ rfl h.evo (Nat.le_refl _) (fun _ _ => rfl) (fun _ _ hb => by cases hb) fun _ _ _ => ⟨_, Names.add_same _ _ _, rfl, rfl, .inl ⟨rfl, rfl⟩⟩

theorem set_cases {st : Store} {l x : Nat} {b y : Blk} (h : (st.set l b)[x]? = some y) : (x = l ∧ y = b) ∨ (x ≠ l ∧ st[x]? = some y) := by
  by_cases e : l = x
  · subst e
    by_cases hlt : l < st.length
    · rw [List.getElem?_set_self hlt] at h; cases h; exact .inl ⟨rfl, rfl⟩
    · rw [List.getElem?_eq_none (by simp; omega)] at h; cases h
  · rw [List.getElem?_set_ne e] at h; exact .inr ⟨fun e' => e e'.symm, h⟩

/-- A block is struck. -/
theorem Mem.kill {E : Fix} {st : Store} {w : World} {N : Names} (h : Mem E st w N) (l : Nat) : Goes E st w N (st.set l .dead) w N := by
  have hget : ∀ x blk, (st.set l .dead)[x]? = some blk → alive blk = true → x ≠ l ∧ st[x]? = some blk := by
    intro x blk hx ha
    rcases set_cases hx with ⟨_, rfl⟩ | hx
    · simp [alive] at ha
    · exact hx
  have hown : ∀ b, Own N (st.set l .dead) b → Own N st b := by
    rintro b ⟨x, blk, ni, base, hx, ha, hn, hb⟩
    exact ⟨x, blk, ni, base, (hget x blk hx ha).2, ha, hn, hb⟩
  have g : Grow w (SS E.F N st) N w (SS E.F N (st.set l .dead)) N :=
    ⟨fun _ _ h => h, fun _ _ _ _ h => h, fun b hS _ hS' => hS (hS'.imp (hown b) id), fun _ c E' fr h => ⟨c, E', fr, h, rfl⟩, Nat.le_refl _⟩
  refine ⟨⟨fun x blk hx => ?_, ?_, fun x hx => h.fresh x (by simpa using hx), h.evo, fun b hb => h.sub b (hown b hb), fun x cs hx => (h.glob x cs hx).grow g⟩, g⟩
  · cases hb : alive blk with
    | false => cases blk <;> simp [alive] at hb; trivial
    | true => exact (h.blks x blk (hget x blk hx hb).2).grow g fun _ _ _ _ _ _ => rfl
  · intro x x' blk blk' ni ni' b base base' hx hx' ha ha'
    exact h.apart x x' blk blk' ni ni' b base base' (hget x blk hx ha).2 (hget x' blk' hx' ha').2 ha ha'

/-- One block's cells turned, all else as it was. -/
structure Wrote (w w' : World) (b : Nat) (c' : Array Value) (E : TypeId) (fr : Nat × Nat) : Prop where
  os : w'.os = w.os
  tape : w'.tape = w.tape
  output : w'.output = w.output
  size : w'.heap.size = w.heap.size
  other : ∀ x, x ≠ b → w'.heap[x]? = w.heap[x]?
  here : w'.heap[b]? = some (Obj.cells c' E fr)

theorem Wrote.refl {w : World} {b : Nat} {c : Array Value} {E : TypeId} {fr : Nat × Nat} (h : w.heap[b]? = some (Obj.cells c E fr)) : Wrote w w b c E fr :=
  ⟨rfl, rfl, rfl, rfl, fun _ _ => rfl, h⟩

theorem Wrote.evo {E : Fix} {st : Store} {w w' : World} {N : Names} (h : Mem E st w N) {b : Nat} (ho : Own N st b) {c c' : Array Value} {T : TypeId} {fr : Nat × Nat}
    (hb : w.heap[b]? = some (Obj.cells c T fr)) (k : Wrote w w' b c' T fr) (hs : c'.size = c.size) : Evo E.w0 E.S0 w' := by
  have ev := h.evo
  refine ⟨k.os.trans ev.os, k.tape.trans ev.tape, k.output.trans ev.output, by rw [k.size]; exact ev.size, fun x hx hS => ?_, fun x c1 E1 fr1 hx => ?_⟩
  · have hne : x ≠ b := by
      rintro rfl
      rcases h.sub x ho with h1 | h1
      · exact hS h1
      · omega
    exact (k.other x hne).trans (ev.keep x hx hS)
  · obtain ⟨c2, E2, fr2, h2, e2⟩ := ev.sizes x c1 E1 fr1 hx
    by_cases hne : x = b
    · subst hne; rw [hb] at h2; cases h2; exact ⟨_, _, _, k.here, hs.trans e2⟩
    · exact ⟨c2, E2, fr2, (k.other x hne).trans h2, e2⟩

theorem Wrote.grow {E : Fix} {st : Store} {w w' : World} {N N' : Names} {S' : Nat → Prop} {b : Nat} (ho : Own N st b) {c c' : Array Value} {T : TypeId} {fr : Nat × Nat}
    (hb : w.heap[b]? = some (Obj.cells c T fr)) (k : Wrote w w' b c' T fr) (hs : c'.size = c.size) (hn : ∀ l ni, N l = some ni → N' l = some ni) (hS : ∀ x, S' x → SS E.F N st x) :
    Grow w (SS E.F N st) N w' S' N' := by
  refine ⟨hn, fun x o u hx hc => ?_, fun x hx _ hx' => hx (hS x hx'), fun x c1 E1 fr1 hx => ?_, Nat.le_of_eq k.size.symm⟩
  · have hne : x ≠ b := fun e => hx (.inl (e ▸ ho))
    obtain ⟨c1, E1, fr1, h1, h2⟩ := cell?_iff.1 hc
    exact cell?_iff.2 ⟨c1, E1, fr1, (k.other x hne).trans h1, h2⟩
  · by_cases hne : x = b
    · subst hne; rw [hb] at hx; cases hx; exact ⟨_, _, _, k.here, hs⟩
    · exact ⟨c1, E1, fr1, (k.other x hne).trans hx, rfl⟩

/-- A block's content turned, under its name. -/
theorem Mem.update {E : Fix} {st : Store} {w w' : World} {N : Names} (h : Mem E st w N) {l : Nat} {blk blk' : Blk} {ni : NI} {b base : Nat} {c c' : Array Value} {T : TypeId} {fr : Nat × Nat}
    (hl : st[l]? = some blk) (ha : alive blk = true) (hn : N l = some ni) (hbb : ni.blk = some (b, base)) (hb : w.heap[b]? = some (Obj.cells c T fr))
    (k : Wrote w w' b c' T fr) (hs : c'.size = c.size) (ha' : alive blk' = true)
    (hrel : Grow w (SS E.F N st) N w' (SS E.F N st) N → BlkRel w' (SS E.F N st) N l blk') : Goes E st w N (st.set l blk') w' N := by
  have ho : Own N st b := ⟨l, blk, ni, base, hl, ha, hn, hbb⟩
  have hlt : l < st.length := (List.getElem?_eq_some_iff.1 hl).1
  have hget : ∀ x y, (st.set l blk')[x]? = some y → (x = l ∧ y = blk') ∨ (x ≠ l ∧ st[x]? = some y) := fun x y hx => set_cases hx
  have hback : ∀ (x : Nat) (y : Blk), (st.set l blk')[x]? = some y → alive y = true → ∃ y', st[x]? = some y' ∧ alive y' = true := by
    intro x y hx hy
    rcases hget x y hx with ⟨rfl, rfl⟩ | ⟨_, h2⟩
    · exact ⟨blk, hl, ha⟩
    · exact ⟨y, h2, hy⟩
  have hown : ∀ x, Own N (st.set l blk') x ↔ Own N st x := by
    intro x
    constructor
    · rintro ⟨y, z, ni1, base1, h1, h2, h3, h4⟩
      obtain ⟨z', h5, h6⟩ := hback y z h1 h2
      exact ⟨y, z', ni1, base1, h5, h6, h3, h4⟩
    · rintro ⟨y, z, ni1, base1, h1, h2, h3, h4⟩
      by_cases e : y = l
      · subst e; exact ⟨y, blk', ni1, base1, by rw [List.getElem?_set]; simp [hlt], ha', h3, h4⟩
      · exact ⟨y, z, ni1, base1, by rw [List.getElem?_set, if_neg (fun e' => e e'.symm)]; exact h1, h2, h3, h4⟩
  have hSS : SS E.F N (st.set l blk') = SS E.F N st := by
    funext x; exact propext ⟨fun hx => hx.imp (hown x).1 id, fun hx => hx.imp (hown x).2 id⟩
  have g : Grow w (SS E.F N st) N w' (SS E.F N st) N := k.grow ho hb hs (fun _ _ h => h) (fun _ h => h)
  refine ⟨⟨fun x y hx => ?_, ?_, fun x hx => h.fresh x (by simpa using hx), k.evo h ho hb hs, fun x hx => h.sub x ((hown x).1 hx), fun x cs hx => ?_⟩, ?_⟩
  · rw [hSS]
    rcases hget x y hx with ⟨rfl, rfl⟩ | ⟨hne, h2⟩
    · exact hrel g
    · refine (h.blks x y h2).grow g fun ni1 b1 base1 h3 h4 h5 => k.other b1 ?_
      rintro rfl
      exact hne (h.apart x l y blk ni1 ni b1 base1 base h2 hl h3 ha h4 hn h5 hbb)
  · intro x x' y y' ni1 ni2 b1 base1 base2 hx hx' hy hy'
    obtain ⟨z, h1, h2⟩ := hback x y hx hy
    obtain ⟨z', h3, h4⟩ := hback x' y' hx' hy'
    exact h.apart x x' z z' ni1 ni2 b1 base1 base2 h1 h3 h2 h4
  · rw [hSS]; exact (h.glob x cs hx).grow g
  · rw [hSS]; exact g

/-- A row goes on under a new name, its cells turned maybe. -/
theorem Mem.renew {E : Fix} {st : Store} {w w' : World} {N : Names} (h : Mem E st w N) {l : Nat} {blk blk' : Blk} {ni ni' : NI} {b base base' : Nat} {c c' : Array Value} {T : TypeId} {fr : Nat × Nat}
    (hl : st[l]? = some blk) (ha : alive blk = true) (hn : N l = some ni) (hbb : ni.blk = some (b, base)) (hb : w.heap[b]? = some (Obj.cells c T fr))
    (k : Wrote w w' b c' T fr) (hs : c'.size = c.size) (ha' : alive blk' = true) (hbb' : ni'.blk = some (b, base'))
    (hrel : Grow w (SS E.F N st) N w' (SS E.F N st) (N.add st.length ni') → BlkRel w' (SS E.F N st) (N.add st.length ni') st.length blk') :
    Goes E st w N (st.set l .dead ++ [blk']) w' (N.add st.length ni') := by
  have ho : Own N st b := ⟨l, blk, ni, base, hl, ha, hn, hbb⟩
  have hlt : l < st.length := (List.getElem?_eq_some_iff.1 hl).1
  have hnames : ∀ x y, N x = some y → (N.add st.length ni') x = some y := fun x y hx => by
    rw [Names.add_other _ _ _ (Nat.ne_of_lt (h.name_lt hx))]; exact hx
  have hget : ∀ x y, (st.set l .dead ++ [blk'])[x]? = some y → alive y = true → (x = st.length ∧ y = blk') ∨ (x ≠ st.length ∧ x ≠ l ∧ st[x]? = some y) := by
    intro x y hx hy
    by_cases e : x = st.length
    · subst e
      rw [List.getElem?_append_right (by simp)] at hx
      simp at hx; exact .inl ⟨rfl, hx.symm⟩
    · have hx' := getElem?_snoc_ne (st := st.set l .dead) (by simpa using e) hx
      rcases set_cases hx' with ⟨_, rfl⟩ | hx'
      · simp [alive] at hy
      · exact .inr ⟨e, hx'⟩
  have hown : ∀ x, Own (N.add st.length ni') (st.set l .dead ++ [blk']) x ↔ Own N st x := by
    intro x
    constructor
    · rintro ⟨y, z, ni1, base1, h1, h2, h3, h4⟩
      rcases hget y z h1 h2 with ⟨rfl, rfl⟩ | ⟨e, hne, h5⟩
      · rw [Names.add_same] at h3; cases h3; rw [hbb'] at h4; cases h4; exact ho
      · rw [Names.add_other _ _ _ e] at h3; exact ⟨y, z, ni1, base1, h5, h2, h3, h4⟩
    · rintro ⟨y, z, ni1, base1, h1, h2, h3, h4⟩
      by_cases e : y = l
      · subst e; rw [hn] at h3; cases h3; rw [hbb] at h4; cases h4
        exact ⟨st.length, blk', ni', base', by simp, ha', Names.add_same _ _ _, hbb'⟩
      · refine ⟨y, z, ni1, base1, ?_, h2, hnames _ _ h3, h4⟩
        rw [List.getElem?_append_left (by simp; exact h.name_lt h3), List.getElem?_set, if_neg (fun e' => e e'.symm)]; exact h1
  have hSS : SS E.F (N.add st.length ni') (st.set l .dead ++ [blk']) = SS E.F N st := by
    funext x; exact propext ⟨fun hx => hx.imp (hown x).1 id, fun hx => hx.imp (hown x).2 id⟩
  have g : Grow w (SS E.F N st) N w' (SS E.F N st) (N.add st.length ni') := k.grow ho hb hs hnames (fun _ h => h)
  refine ⟨⟨fun x y hx => ?_, ?_, fun x hx => ?_, k.evo h ho hb hs, fun x hx => h.sub x ((hown x).1 hx), fun x cs hx => ?_⟩, ?_⟩
  · rw [hSS]
    cases hy : alive y with
    | false => cases y <;> simp [alive] at hy; trivial
    | true =>
      rcases hget x y hx hy with ⟨rfl, rfl⟩ | ⟨e, hne, h2⟩
      · exact hrel g
      · refine (h.blks x y h2).grow g fun ni1 b1 base1 h3 h4 h5 => k.other b1 ?_
        rintro rfl
        exact hne (h.apart x l y blk ni1 ni b1 base1 base h2 hl h3 ha h4 hn h5 hbb)
  · intro x x' y y' ni1 ni2 b1 base1 base2 hx hx' hy hy' h1 h2 h3 h4
    rcases hget x y hx hy with ⟨rfl, rfl⟩ | ⟨e, hne, h5⟩
    · rcases hget x' y' hx' hy' with ⟨rfl, _⟩ | ⟨e', hne', h6⟩
      · rfl
      · exfalso
        rw [Names.add_same] at h1; cases h1; rw [hbb'] at h3; cases h3
        rw [Names.add_other _ _ _ e'] at h2
        exact hne' (h.apart x' l y' blk ni2 ni b base2 base h6 hl hy' ha h2 hn h4 hbb)
    · rcases hget x' y' hx' hy' with ⟨rfl, rfl⟩ | ⟨e', hne', h6⟩
      · exfalso
        rw [Names.add_same] at h2; cases h2; rw [hbb'] at h4; cases h4
        rw [Names.add_other _ _ _ e] at h1
        exact hne (h.apart x l y blk ni1 ni b base1 base h5 hl hy ha h1 hn h3 hbb)
      · rw [Names.add_other _ _ _ e] at h1
        rw [Names.add_other _ _ _ e'] at h2
        exact h.apart x x' y y' ni1 ni2 b1 base1 base2 h5 h6 hy hy' h1 h2 h3 h4
  · rw [Names.add_other _ _ _ (by simp at hx; omega)]; exact h.fresh x (by simp at hx; omega)
  · rw [hSS]; exact (h.glob x cs hx).grow g
  · rw [hSS]; exact g
end Go.Abs
