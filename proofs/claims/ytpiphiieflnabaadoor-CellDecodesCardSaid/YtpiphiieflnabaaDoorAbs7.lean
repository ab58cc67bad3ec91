/- The abstract machine: new memory; nil slices told as rows; rows given away, rows cut. Conditions: none. -/
import Derived.Test.YtpiphiieflnabaaDoorAbs6
namespace Go.Abs
section
variable {P : Program} {w w' : World} {N : Names} {E : Fix} {st : Store}

/-- One block more, all else as it was (but draws). -/
structure Pushed (w w' : World) (o : Obj) : Prop where
  heap : w'.heap = w.heap.push o
  os : w'.os = w.os
  tape : w'.tape = w.tape
  output : w'.output = w.output

theorem Pushed.old {o : Obj} (h : Pushed w w' o) {b : Nat} (hb : b < w.heap.size) : w'.heap[b]? = w.heap[b]? := by
  rw [h.heap, Array.getElem?_push_lt hb, Array.getElem?_eq_getElem hb]
theorem Pushed.new {o : Obj} (h : Pushed w w' o) : w'.heap[w.heap.size]? = some o := by
  rw [h.heap, Array.getElem?_push_size]
theorem Pushed.size {o : Obj} (h : Pushed w w' o) : w.heap.size ≤ w'.heap.size := by rw [h.heap, Array.size_push]; omega

theorem Pushed.evo {o : Obj} (h : Pushed w w' o) {w0 : World} {S0 : Nat → Prop} (ev : Evo w0 S0 w) : Evo w0 S0 w' := by
  refine ⟨h.os.trans ev.os, h.tape.trans ev.tape, h.output.trans ev.output, Nat.le_trans ev.size h.size, fun b hb hS => (h.old (Nat.lt_of_lt_of_le hb ev.size)).trans (ev.keep b hb hS), fun b c T fr hb => ?_⟩
  obtain ⟨c', T', fr', h1, h2⟩ := ev.sizes b c T fr hb
  exact ⟨c', T', fr', (h.old (Array.getElem?_eq_some_iff.1 h1).1).trans h1, h2⟩

theorem Mem.pushed (h : Mem E st w N) {o : Obj} (hp : Pushed w w' o) (blk : Blk) (len esz : Nat) (ha : alive blk = true)
    (hrel : ∀ S', Grow w (SS E.F N st) N w' S' (N.add st.length ⟨some (w.heap.size, 0), len, esz⟩) → BlkRel w' S' (N.add st.length ⟨some (w.heap.size, 0), len, esz⟩) st.length blk) :
    Goes E st w N (st ++ [blk]) w' (N.add st.length ⟨some (w.heap.size, 0), len, esz⟩) := by
  refine h.snoc blk _ ha (hp.evo h.evo) hp.size (fun b hb => hp.old hb) (fun b base hb => ?_) fun S' _ g => hrel S' g
  cases hb
  exact ⟨fun hS => by have := hS.lt h; omega, Nat.le_refl _⟩

theorem thaw0 (n : Nat) : Thaw (0, 0) n := fun i _ h => by simp at h

/-- A new variable in memory. -/
theorem Mem.newCells (h : Mem E st w N) {c : Array Value} {T : TypeId} {cs : List AV} (hp : Pushed w w' (Obj.cells c T (0, 0))) (hs : c.size = cs.length)
    (hr : ∀ (j : Nat) (a : AV) (v : Value), cs[j]? = some a → c[j]? = some v → Rel w (SS E.F N st) N a v) :
    ∃ N', Goes E st w N (st ++ [.cells cs]) w' N' ∧ Rel w' (SS E.F N' (st ++ [.cells cs])) N' (.ptr st.length 0) (.pointer (some ⟨w.heap.size, 0, none⟩)) := by
  refine ⟨_, h.pushed hp (.cells cs) 0 0 rfl fun S' g => ?_, .ptr _ 0 _ _ 0 (Names.add_same _ _ _) rfl⟩
  exact ⟨_, _, c, T, _, Names.add_same _ _ _, rfl, hp.new, thaw0 _, hs, fun j a v h1 h2 => (hr j a v h1 h2).grow g⟩

/-- A new row. -/
theorem Mem.newRow (h : Mem E st w N) {c : Array Value} {T : TypeId} {fr : Nat × Nat} {k : EK} {xs : List k.α} {cap : Nat} (hp : Pushed w w' (Obj.cells c T fr)) (ht : Thaw fr c.size)
    (hc : xs.length ≤ cap) (hcs : cap * k.size ≤ c.size)
    (hr : ∀ (i : Nat) (x : k.α) (j : Nat) (a : AV), xs[i]? = some x → (k.enc x)[j]? = some a → ∃ v, c[i * k.size + j]? = some v ∧ Rel w (SS E.F N st) N a v) :
    ∃ N', Goes E st w N (st ++ [.row k xs]) w' N' ∧ Rel w' (SS E.F N' (st ++ [.row k xs])) N' (.whole st.length) (.slice (some ⟨w.heap.size, 0, none⟩) xs.length cap) := by
  refine ⟨_, h.pushed hp (.row k xs) xs.length k.size rfl fun S' g => ?_, .whole _ _ _ _ (Names.add_same _ _ _) (.inr ⟨_, 0, c, T, fr, rfl, ?_, hp.new, ?_, hc⟩)⟩
  · refine ⟨_, Names.add_same _ _ _, rfl, rfl, .inr ⟨_, 0, c, T, fr, rfl, hp.new, ht, ?_, fun i x j a h1 h2 => ?_⟩⟩
    · have := Nat.mul_le_mul_right k.size hc; omega
    · obtain ⟨v, hv, hR⟩ := hr i x j a h1 h2
      exact ⟨v, by rw [Nat.zero_add]; exact hv, hR.grow g⟩
  · simp
  · simp; exact hcs

/-! ### Nil slices -/
theorem ghost1_ok (h : Mem E st w N) {v : AV} {t : TypeId} {u : Value} (hv : Rel w (SS E.F N st) N v u) :
    ∃ N', Goes E st w N (ghost1 P st v t).2 w N' ∧ Rel w (SS E.F N' (ghost1 P st v t).2) N' (ghost1 P st v t).1 u := by
  unfold ghost1
  split
  · split
    · split
      · rename_i k _
        obtain rfl := rel_lit hv
        exact ⟨_, h.ghost k, .whole _ _ _ _ (Names.add_same _ _ _) (.inl ⟨rfl, rfl⟩)⟩
      · exact ⟨N, .refl h, hv⟩
    · exact ⟨N, .refl h, hv⟩
  · exact ⟨N, .refl h, hv⟩

theorem ghosts_ok : ∀ (vs : List AV) (ts : List TypeId) (us : List Value) (st : Store) (N : Names), Mem E st w N →
    (∀ (j : Nat) (a : AV) (u : Value), vs[j]? = some a → us[j]? = some u → Rel w (SS E.F N st) N a u) →
    (ghosts P st vs ts).1.length = vs.length ∧ ∃ N', Goes E st w N (ghosts P st vs ts).2 w N' ∧
      ∀ (j : Nat) (a : AV) (u : Value), (ghosts P st vs ts).1[j]? = some a → us[j]? = some u → Rel w (SS E.F N' (ghosts P st vs ts).2) N' a u
  | [], ts, us, st, N, h, hr => by cases ts <;> exact ⟨rfl, N, .refl h, hr⟩
  | v :: vs, [], us, st, N, h, hr => ⟨rfl, N, .refl h, hr⟩
  | v :: vs, t :: ts, [], st, N, h, hr => by
    obtain ⟨N1, g1, hv1⟩ := ghost1_ok (P := P) (t := t) h (.top undef : Rel w (SS E.F N st) N .top undef)
    have hg : ∃ N1, Goes E st w N (ghost1 P st v t).2 w N1 := by
      unfold ghost1
      split
      · split
        · split
          · exact ⟨_, h.ghost _⟩
          · exact ⟨N, .refl h⟩
        · exact ⟨N, .refl h⟩
      · exact ⟨N, .refl h⟩
    obtain ⟨N2, g2⟩ := hg
    obtain ⟨h3, N3, g3, _⟩ := ghosts_ok vs ts [] _ N2 g2.1 (by simp)
    exact ⟨by simp [ghosts, h3], N3, g2.trans g3, by simp⟩
  | v :: vs, t :: ts, u :: us, st, N, h, hr => by
    obtain ⟨N1, g1, hv1⟩ := ghost1_ok (P := P) (t := t) h (hr 0 v u rfl rfl)
    obtain ⟨h2, N2, g2, hv2⟩ := ghosts_ok vs ts us _ N1 g1.1 (fun j a u' h1 h2 => (hr (j + 1) a u' (by simpa using h1) (by simpa using h2)).grow g1.2)
    refine ⟨by simp [ghosts, h2], N2, g1.trans g2, fun j a u' h3 h4 => ?_⟩
    cases j with
    | zero =>
      simp only [ghosts, List.getElem?_cons_zero, Option.some.injEq] at h3 h4
      subst h3; subst h4
      exact hv1.grow g2.2
    | succ j => exact hv2 j a u' (by simpa [ghosts] using h3) (by simpa using h4)

/-- A value's cells, as the model has them. -/
theorem rel_cells {S : Nat → Prop} {v : AV} {u : Value} (h : Rel w S N v u) (hv : okC v = true) :
    u.cells.size = v.cells.length ∧ ∀ (j : Nat) (a : AV) (x : Value), v.cells[j]? = some a → u.cells[j]? = some x → Rel w S N a x := by
  have one : ∀ (a : AV) (x : Value), Rel w S N a x → ∀ (j : Nat) (a' : AV) (x' : Value), [a][j]? = some a' → #[x][j]? = some x' → Rel w S N a' x' := by
    intro a x hr j a' x' h1 h2
    cases j with
    | zero => simp at h1 h2; subst h1; subst h2; exact hr
    | succ j => simp at h1
  cases h with
  | top => simp [okC] at hv
  | agg cs vs hl hr => exact ⟨hl.symm, hr⟩
  | lit u =>
    cases u <;> first | exact ⟨rfl, one _ _ (.lit _)⟩ | (simp [okC] at hv)
  | tup cs vs hl hr => exact ⟨rfl, one _ _ (.tup _ _ hl hr)⟩
  | bool => exact ⟨rfl, one _ _ (.bool _)⟩
  | int => exact ⟨rfl, one _ _ (.int _ _)⟩
  | str => exact ⟨rfl, one _ _ (.str _)⟩
  | ptr _ _ ni b base hn hb => exact ⟨rfl, one _ _ (.ptr _ _ ni b base hn hb)⟩
  | rptr _ _ _ ni b base hn hb => exact ⟨rfl, one _ _ (.rptr _ _ _ ni b base hn hb)⟩
  | pim _ _ _ vs h1 h2 h3 h4 => exact ⟨rfl, one _ _ (.pim _ _ _ vs h1 h2 h3 h4)⟩
  | whole _ ni c A hn hh => exact ⟨rfl, one _ _ (.whole _ ni c A hn hh)⟩
  | own _ _ _ ni c A hn hl hh => exact ⟨rfl, one _ _ (.own _ _ _ ni c A hn hl hh)⟩
  | seq0 => exact ⟨rfl, one _ _ (.seq0 _ _ _)⟩
  | seq _ _ _ _ _ vs h1 h2 h3 h4 h5 => exact ⟨rfl, one _ _ (.seq _ _ _ _ _ vs h1 h2 h3 h4 h5)⟩
  | fn _ _ _ hl hr => exact ⟨rfl, one _ _ (.fn _ _ _ hl hr)⟩
  | ifc _ _ _ h => exact ⟨rfl, one _ _ (.ifc _ _ _ h)⟩

theorem rel_sc1 {S : Nat → Prop} {v : AV} {u : Value} (h : Rel w S N v u) (hv : sc1 v = true) : u.oneCell' = true := by
  cases h <;> first | rfl | (simp [sc1] at hv; done) | (simpa [sc1] using hv)

/-! ### Rows that are given away -/
/-- A row seen as an immutable slice, in whatever sets do not hold its block. -/
theorem seq_of_row {S : Nat → Prop} {k : EK} {xs : List k.α} {ni : NI} {b base o n c : Nat} {A : Option Addr} (hh : Hdr w ni o n c A) (hbl : ni.blk = some (b, base) ∨ (ni.blk = none ∧ xs = []))
    (hesz : ni.esz = k.size) (hon : o + n ≤ xs.length) (hS : ni.blk = some (b, base) → ¬ S b)
    (hr : ni.blk = some (b, base) → ∀ (i : Nat) (x : k.α), xs[i]? = some x → ReadsAt w S N b (base + i * k.size) (k.enc x)) :
    Rel w S N (.seq k ((xs.drop o).take n)) (.slice A n c) := by
  have hlen : ((xs.drop o).take n).length = n := by simp; omega
  by_cases hn : n = 0
  · subst hn; rw [List.take_zero]; exact .seq0 _ _ _
  rcases hh with ⟨h1, _⟩ | ⟨b', base', cs, T, fr, h1, h2, h3, h4, h5⟩
  · exact absurd h1 hn
  have hbl : ni.blk = some (b, base) := by
    rcases hbl with hbl | ⟨hbl, _⟩
    · exact hbl
    · rw [hbl] at h1; cases h1
  rw [hbl] at h1; cases h1
  subst h2
  have hr' := hr hbl
  have : Rel w S N (.seq k ((xs.drop o).take n)) (.slice (some ⟨b, base + o * ni.esz, none⟩) ((xs.drop o).take n).length c) := by
    refine .seq k _ b _ _ (fun i j => (w.cell? ⟨b, base + o * ni.esz + (i * k.size + j), none⟩).getD undef) (by rw [hlen]; exact h5) (hS hbl) (Array.getElem?_eq_some_iff.1 h3).1 (fun i j hi hj => ?_) (fun i x j a hx ha => ?_)
    · rw [hlen] at hi
      have hlt : o + i < xs.length := by omega
      obtain ⟨v, hv, _⟩ := hr' (o + i) _ (List.getElem?_eq_getElem hlt) j _ (List.getElem?_eq_getElem (by rw [enc_length]; exact hj))
      have e : base + (o + i) * k.size + j = base + o * ni.esz + (i * k.size + j) := by rw [hesz, Nat.add_mul]; omega
      rw [e] at hv; rw [hv]; rfl
    · rw [List.getElem?_take] at hx
      split at hx
      · rw [List.getElem?_drop] at hx
        obtain ⟨v, hv, hR⟩ := hr' (o + i) x hx j a ha
        have e : base + (o + i) * k.size + j = base + o * ni.esz + (i * k.size + j) := by rw [hesz, Nat.add_mul]; omega
        rw [e] at hv; rw [hv]; exact hR
      · cases hx
  rw [hlen] at this; exact this
end
end Go.Abs
