/- The abstract machine: structs, arrays and slices built; slices made; append; conversions. Conditions: none. -/
import Derived.Test.YtpiphiieflnabaaDoorAbs9
import Derived.Laws.Append
import Derived.Laws.Tables
namespace Go.Abs
section
variable {P : Program} {w w' : World} {S : Nat → Prop} {N : Names} {E : Fix} {st : Store}

def CellsRel (w : World) (S : Nat → Prop) (N : Names) (cs : List AV) (c : Array Value) : Prop :=
  c.size = cs.length ∧ ∀ (j : Nat) (a : AV) (u : Value), cs[j]? = some a → c[j]? = some u → Rel w S N a u

theorem foldl_set (off : Nat) : ∀ (l : List Value) (k : Nat) (c : Array Value), off + k + l.length ≤ c.size →
    ((l.zipIdx k).foldl (fun (cs : Array Value) (p : Value × Nat) => cs.setIfInBounds (off + p.2) p.1) c).size = c.size ∧
    ∀ j, ((l.zipIdx k).foldl (fun (cs : Array Value) (p : Value × Nat) => cs.setIfInBounds (off + p.2) p.1) c)[j]? = if off + k ≤ j ∧ j < off + k + l.length then l[j - (off + k)]? else c[j]?
  | [], k, c, _ => ⟨rfl, fun j => by simp only [List.zipIdx_nil, List.foldl_nil, List.length_nil]; rw [if_neg (by omega)]⟩
  | v :: l, k, c, h => by
    simp only [List.length_cons] at h
    obtain ⟨h1, h2⟩ := foldl_set off l (k + 1) (c.setIfInBounds (off + k) v) (by rw [Array.size_setIfInBounds]; omega)
    simp only [List.zipIdx_cons, List.foldl_cons, List.length_cons]
    refine ⟨by rw [h1, Array.size_setIfInBounds], fun j => ?_⟩
    rw [h2 j]
    by_cases hj : j = off + k
    · subst hj
      rw [if_neg (by omega), if_pos (by omega), Array.getElem?_setIfInBounds_self_of_lt (by omega)]
      simp
    · by_cases hr : off + (k + 1) ≤ j ∧ j < off + (k + 1) + l.length
      · rw [if_pos hr, if_pos (by omega), show j - (off + k) = (j - (off + (k + 1))) + 1 by omega, List.getElem?_cons_succ]
      · rw [if_neg hr, if_neg (by omega), Array.getElem?_setIfInBounds_ne (by omega)]

/-- One part laid into cells. -/
theorem laid (u : Value) (o : Nat) (c : Array Value) (h : o + u.cells.size ≤ c.size) :
    (u.cells.zipIdx.foldl (fun cs (c, j) => cs.setIfInBounds (o + j) c) c).size = c.size ∧
    ∀ j, (u.cells.zipIdx.foldl (fun cs (c, j) => cs.setIfInBounds (o + j) c) c)[j]? = if o ≤ j ∧ j < o + u.cells.size then u.cells[j - o]? else c[j]? := by
  have e : u.cells.zipIdx.foldl (fun cs (c, j) => cs.setIfInBounds (o + j) c) c = (u.cells.toList.zipIdx 0).foldl (fun (cs : Array Value) (p : Value × Nat) => cs.setIfInBounds (o + p.2) p.1) c := by
    rw [← Array.foldl_toList, Array.toList_zipIdx]
  rw [e]
  obtain ⟨h1, h2⟩ := foldl_set o u.cells.toList 0 c (by simpa using h)
  refine ⟨h1, fun j => ?_⟩
  rw [h2 j]; simp

theorem fill_ok {pl pl' : Nat → Option (Nat × Nat)} (hp : ∀ i q, pl i = some q → pl' i = some q) : ∀ (ps : List (Nat × AV)) (rs : List (Nat × Value)) (cs cs' : List AV) (c : Array Value),
    fillV pl cs ps = some cs' → CellsRel w S N cs c → ps.length = rs.length →
    (∀ (j i : Nat) (a : AV) (i' : Nat) (u : Value), ps[j]? = some (i, a) → rs[j]? = some (i', u) → i = i' ∧ Rel w S N a u) → ∃ c', Instr.fill pl' c rs = some c' ∧ CellsRel w S N cs' c'
  | [], [], cs, cs', c, h, hc, _, _ => by simp only [fillV] at h; cases h; exact ⟨c, rfl, hc⟩
  | (i, v) :: ps, (i', u) :: rs, cs, cs', c, h, hc, hl, hr => by
    obtain ⟨rfl, hv⟩ := hr 0 i v i' u rfl rfl
    simp only [fillV] at h
    split at h
    · rename_i o z hpl
      split at h
      · rename_i hcond
        simp only [Bool.and_eq_true, decide_eq_true_eq] at hcond
        obtain ⟨⟨hok, hlen⟩, hle⟩ := hcond
        obtain ⟨hs, hrel⟩ := rel_cells hv hok
        have hsz : u.cells.size = z := hs.trans hlen
        obtain ⟨l1, l2⟩ := laid u o c (by rw [hsz, hc.1]; exact hle)
        have hle' : o + v.cells.length ≤ cs.length := by omega
        obtain ⟨c', h1, h2⟩ := fill_ok hp ps rs _ cs' (u.cells.zipIdx.foldl (fun cs (c, j) => cs.setIfInBounds (o + j) c) c) h ⟨by rw [l1, splice_length _ _ _ hle']; exact hc.1, fun j a x h1 h2 => by
          rw [splice_get _ _ _ _ hle', hlen] at h1
          rw [l2 j, hsz] at h2
          split at h1
          · rename_i hj; rw [if_pos hj] at h2; exact hrel _ _ _ h1 h2
          · rename_i hj; rw [if_neg hj] at h2; exact hc.2 _ _ _ h1 h2⟩ (by simpa using hl) (fun j i a i' u h1 h2 => hr (j + 1) i a i' u (by simpa using h1) (by simpa using h2))
        refine ⟨c', ?_, h2⟩
        simp only [Instr.fill, hp _ _ hpl]
        rw [if_neg]
        · exact h1
        · have := hc.1
          simp only [Bool.or_eq_true, decide_eq_true_eq, not_or, ne_eq, Decidable.not_not]
          exact ⟨hsz, by omega⟩
      · cases h
    · cases h

theorem mapM_some {α β : Type} (f : α → Option β) : ∀ (l : List α), (∀ x ∈ l, (f x).isSome = true) → ∃ r, l.mapM f = some r ∧ ∀ (i : Nat), r[i]? = (l[i]?).bind f
  | [], _ => ⟨[], rfl, by simp⟩
  | x :: l, h => by
    obtain ⟨y, hy⟩ := Option.isSome_iff_exists.1 (h x (by simp))
    obtain ⟨r, h1, h2⟩ := mapM_some f l (fun z hz => h z (by simp [hz]))
    refine ⟨y :: r, by simp [List.mapM_cons, hy, h1], fun i => ?_⟩
    cases i with
    | zero => simp [hy]
    | succ i => simpa using h2 i

theorem buildV_ok (h : Mem E st w N) {t : TypeId} {ps : List (Nat × AV)} {rs : Array (Nat × Value)} {r : AV × Store} (hl : ps.length = rs.size)
    (hr : ∀ (j i : Nat) (a : AV) (i' : Nat) (u : Value), ps[j]? = some (i, a) → rs.toList[j]? = some (i', u) → i = i' ∧ Rel w (SS E.F N st) N a u) (hg : (buildV P st t ps).get = some r) :
    ∃ v' N', (Instr.build t rs).run P w = .ok v' w ∧ Goes E st w N r.2 w N' ∧ Rel w (SS E.F N' r.2) N' r.1 v' := by
  unfold buildV at hg
  split at hg
  · exact (no_get hg).elim
  rename_i zs hz
  split at hg
  · rename_i cs hf
    split at hg
    · rename_i hok
      obtain rfl := ret_get hg
      unfold zeroT at hz
      obtain ⟨i, h1, h2⟩ := Option.bind_eq_some_iff.1 hz
      obtain ⟨z, h3, rfl⟩ := Option.map_eq_some_iff.1 h2
      have hzr : CellsRel w (SS E.F N st) N (z.cells.toList.map ofCell) z.cells := ⟨by simp, rel_ofCells z.cells⟩
      have key : ∃ c, P.built t rs.toList = some c ∧ CellsRel w (SS E.F N st) N cs c := by
        unfold fieldsOK at hok
        split at hok
        · rename_i fs hu
          obtain ⟨places, hm, hpl⟩ := mapM_some (fun f : Field => (P.info? f.type).map fun i => (f.offset, i.size)) fs.toList (fun f hf => by
            have := List.all_eq_true.1 hok f hf
            simp only [sizeT, Option.isSome_map] at this ⊢; exact this)
          obtain ⟨c, hc1, hc2⟩ := fill_ok (pl' := (places.toArray[·]?)) (fun i q hq => by
            simp only [placeT, hu] at hq
            split at hq
            · rename_i f hfi
              have := hpl i
              rw [hfi] at this
              simp only [Option.bind_some, sizeT, Option.map_map] at this hq
              simp only [List.getElem?_toArray]
              rw [this]; exact hq
            · cases hq) ps rs.toList _ cs z.cells hf hzr (by simpa using hl) hr
          exact ⟨c, by simp only [Program.built, h1, hu, h3, hm]; exact hc1, hc2⟩
        · rename_i n e hu
          have hes : ∀ i q, placeT P t i = some q → ∃ ie, P.info? e = some ie ∧ q = (i * ie.size, ie.size) := by
            intro i q hq
            simp only [placeT, hu, sizeT, Option.map_map] at hq
            obtain ⟨ie, h5, h6⟩ := Option.map_eq_some_iff.1 hq
            exact ⟨ie, h5, h6.symm⟩
          cases hie : P.info? e with
          | none => rw [hie] at hok; cases hok
          | some ie =>
            obtain ⟨c, hc1, hc2⟩ := fill_ok (pl' := fun i => some (i * ie.size, ie.size)) (fun i q hq => by
              obtain ⟨ie', h5, rfl⟩ := hes i q hq
              rw [hie] at h5; cases h5; rfl) ps rs.toList _ cs z.cells hf hzr (by simpa using hl) hr
            exact ⟨c, by simp only [Program.built, h1, hu, h3, hie]; exact hc1, hc2⟩
        · cases hok
      obtain ⟨c, hb, hcr⟩ := key
      obtain ⟨N', g, hR⟩ := ghostV_ok (P := P) (t := t) h (.agg cs c hcr.1.symm hcr.2)
      exact ⟨.agg c, N', run_build w t rs c hb, g, hR⟩
    · exact (no_get hg).elim
  · exact (no_get hg).elim
end
end Go.Abs
