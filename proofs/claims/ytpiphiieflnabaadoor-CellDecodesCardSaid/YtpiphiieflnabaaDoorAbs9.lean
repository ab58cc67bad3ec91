/- The abstract machine: stores; structs, arrays and slices built; slices made. Conditions: none. -/
import Derived.Test.YtpiphiieflnabaaDoorAbs8
namespace Go.Abs
section
variable {P : Program} {w w' : World} {N : Names} {E : Fix} {st : Store}

theorem setCell_here {w : World} {b j : Nat} {c : Array Value} {T : TypeId} {fr : Nat × Nat} (hb : w.heap[b]? = some (Obj.cells c T fr)) (v : Value) :
    (w.setCell ⟨b, j, none⟩ v).heap[b]? = some (Obj.cells (c.setIfInBounds j v) T fr) := by
  simp [World.setCell, Array.getElem?_modify, hb]

theorem setCell_other {w : World} {b j x : Nat} (h : x ≠ b) (v : Value) : (w.setCell ⟨b, j, none⟩ v).heap[x]? = w.heap[x]? := by
  simp [World.setCell, Array.getElem?_modify, h.symm]

theorem run_stores {b o : Nat} {T : TypeId} {fr : Nat × Nat} : ∀ (vs : List Value) (i : Nat) (c : Array Value) (w : World), w.heap[b]? = some (Obj.cells c T fr) → Thaw fr c.size → o + i + vs.length ≤ c.size →
    (∀ v ∈ vs, v.oneCell' = true) →
    ∃ w' c', (storeCells ⟨b, o, none⟩ vs i).run P w = .ok () w' ∧ Wrote w w' b c' T fr ∧ c'.size = c.size ∧
      ∀ j, c'[j]? = if o + i ≤ j ∧ j < o + i + vs.length then vs[j - (o + i)]? else c[j]?
  | [], i, c, w, hb, _, _, _ => ⟨w, c, by simp [storeCells], .refl hb, rfl, fun j => by rw [if_neg (by simp only [List.length_nil]; omega)]⟩
  | v :: vs, i, c, w, hb, ht, hl, h1 => by
    simp only [List.length_cons] at hl
    have hlt : o + i < c.size := by omega
    have hcell : w.cell? ⟨b, o + i, none⟩ = some c[o + i] := cell?_iff.2 ⟨c, T, fr, hb, Array.getElem?_eq_getElem hlt⟩
    have hfz : w.frozen? ⟨b, o + i, none⟩ = false := by
      simp only [World.frozen?, hb]
      have := ht (o + i) hlt
      simpa using this
    have hst : (store ((⟨b, o, none⟩ : Addr).add i) v).run P w = .ok () (w.setCell ⟨b, o + i, none⟩ v) := by
      rw [Addr.add_lit, run_store _ _ _ _ _ (h1 v (by simp)), hcell]
      simp [hfz]
    obtain ⟨w2, c2, h2, h3, h4, h5⟩ := run_stores (o := o) vs (i + 1) (c.setIfInBounds (o + i) v) (w.setCell ⟨b, o + i, none⟩ v) (setCell_here hb v) (by rwa [Array.size_setIfInBounds])
      (by rw [Array.size_setIfInBounds]; omega) (fun u hu => h1 u (by simp [hu]))
    refine ⟨w2, c2, by simp only [storeCells, Sem.run_bind, hst, Result.andThen_ok, h2], ?_, by rw [h4, Array.size_setIfInBounds], fun j => ?_⟩
    · exact ⟨h3.os, h3.tape, h3.output, by rw [h3.size]; simp [World.setCell], fun x hx => (h3.other x hx).trans (setCell_other hx v), h3.here⟩
    · rw [h5 j]
      simp only [List.length_cons]
      by_cases hj : j = o + i
      · subst hj
        rw [if_neg (by omega), if_pos (by omega), Array.getElem?_setIfInBounds_self_of_lt hlt]
        simp
      · by_cases hr : o + (i + 1) ≤ j ∧ j < o + (i + 1) + vs.length
        · rw [if_pos hr, if_pos (by omega)]
          rw [show j - (o + i) = (j - (o + (i + 1))) + 1 by omega, List.getElem?_cons_succ]
        · rw [if_neg hr, if_neg (by omega), Array.getElem?_setIfInBounds_ne (by omega)]

theorem splice_get (cs vs : List AV) (o j : Nat) (h : o + vs.length ≤ cs.length) : (splice cs o vs)[j]? = if o ≤ j ∧ j < o + vs.length then vs[j - o]? else cs[j]? := by
  unfold splice
  rw [List.append_assoc]
  by_cases h1 : j < o
  · rw [List.getElem?_append_left (by simp; omega), List.getElem?_take, if_pos h1, if_neg (by omega)]
  · rw [List.getElem?_append_right (by simp; omega)]
    have : (cs.take o).length = o := by simp; omega
    rw [this]
    by_cases h2 : j < o + vs.length
    · rw [List.getElem?_append_left (by omega), if_pos (by omega)]
    · rw [List.getElem?_append_right (by omega), List.getElem?_drop, if_neg (by omega)]
      congr 1; omega

theorem splice_length (cs vs : List AV) (o : Nat) (h : o + vs.length ≤ cs.length) : (splice cs o vs).length = cs.length := by
  unfold splice; simp; omega

theorem run_storeAt {t : TypeId} {a : Addr} {u : Value} {z : Nat} (hz : sizeT P t = some z) (hu : u.cells.size = z) (w : World) :
    (Instr.storeAt t (.pointer (some a)) u).run P w = (storeCells a u.cells.toList).run P w := by
  simp [Instr.storeAt, Instr.sureAddr, storeVar, run_sizeT hz, hu]

theorem storeV_ok (h : Mem E st w N) {t : TypeId} {a v : AV} {va vv : Value} {st' : Store} (ha : Rel w (SS E.F N st) N a va) (hv : Rel w (SS E.F N st) N v vv) (hg : (storeV P st t a v).get = some st') :
    ∃ w' N', (Instr.storeAt t va vv).run P w = .ok () w' ∧ Goes E st w N st' w' N' := by
  unfold storeV at hg
  split at hg
  · exact (no_get hg).elim
  rename_i z hz
  split at hg
  · rename_i hc
    simp only [Bool.and_eq_true, decide_eq_true_eq] at hc
    obtain ⟨hok, hlen⟩ := hc
    obtain ⟨hsz, _⟩ := rel_cells hv hok
    rw [hlen] at hsz
    split at hg
    · rename_i l o
      simp only at hg
      split at hg
      · rename_i cs hl
        split at hg
        · rename_i hc2
          simp only [Bool.and_eq_true, decide_eq_true_eq, List.all_eq_true] at hc2
          obtain ⟨⟨hok1, hoz⟩, hsc⟩ := hc2
          obtain rfl := ret_get hg
          obtain ⟨N1, g1, hr1⟩ := ghostV_ok (P := P) (t := t) h hv
          obtain ⟨hs1, hr2⟩ := rel_cells hr1 hok1
          obtain ⟨hl2, N2, g2, hr3⟩ := retires_ok (ghostV P st v t).1.cells vv.cells.toList _ N1 g1.1 (by simp [hs1]) (fun j a u h1 h2 => hr2 j a u h1 (by simpa using h2))
          have g12 := g1.trans g2
          cases ha.grow g12.2 with | ptr _ _ ni b base hn hb => ?_
          obtain ⟨ni', b', c, T, fr, q1, q2, q3, q4, q5, q6⟩ := g12.1.blks l _ hl
          rw [hn] at q1; cases q1; rw [hb] at q2; cases q2
          have hlv : (retires (ghostV P st v t).2 (ghostV P st v t).1.cells).1.length = z := by rw [hl2, ← hs1]; exact hsz
          obtain ⟨w3, c3, r1, r2, r3, r4⟩ := run_stores (P := P) (o := o) vv.cells.toList 0 c w q3 q4 (by simp [hsz]; omega) (by
            intro u hu
            obtain ⟨j, hj, rfl⟩ := List.getElem_of_mem hu
            have hj' : j < (retires (ghostV P st v t).2 (ghostV P st v t).1.cells).1.length := by rw [hlv, ← hsz]; simpa using hj
            exact rel_sc1 (hr3 j _ _ (List.getElem?_eq_getElem hj') (List.getElem?_eq_getElem hj)) (hsc _ (List.getElem_mem hj')))
          have hown : o + (retires (ghostV P st v t).2 (ghostV P st v t).1.cells).1.length ≤ cs.length := by omega
          have g3 := g12.1.update (blk' := .cells (splice cs o (retires (ghostV P st v t).2 (ghostV P st v t).1.cells).1)) hl rfl hn hb q3 r2 r3 rfl (fun g => by
            refine ⟨ni, b, c3, T, fr, hn, hb, r2.here, by rw [r3]; exact q4, by rw [r3, splice_length _ _ _ hown]; exact q5, fun j a u h1 h2 => ?_⟩
            rw [splice_get _ _ _ _ hown] at h1
            rw [r4 j] at h2
            have hvl : vv.cells.toList.length = z := by simpa using hsz
            simp only [Nat.add_zero, hvl] at h2
            rw [hlv] at h1
            split at h1
            · rename_i hj; rw [if_pos hj] at h2; exact (hr3 _ a u h1 h2).grow g
            · rename_i hj; rw [if_neg hj] at h2; exact (q6 j a u h1 h2).grow g)
          refine ⟨w3, N2, ?_, g12.trans g3⟩
          rw [run_storeAt hz hsz, Nat.zero_add]; exact r1
        · exact (no_get hg).elim
      · exact (no_get hg).elim
    · rename_i l i o
      simp only at hg
      split at hg
      · rename_i k xs hl
        split at hg
        · rename_i hc2
          simp only [Bool.and_eq_true, decide_eq_true_eq, List.all_eq_true] at hc2
          obtain ⟨hoz, hsc⟩ := hc2
          obtain ⟨x, hx, hg⟩ := at_get hg
          split at hg
          · rename_i x' hx'
            obtain rfl := ret_get hg
            obtain ⟨hs1, hr2⟩ := rel_cells hv hok
            obtain ⟨hl2, g1, hr3⟩ := releases_ok v.cells vv.cells.toList st h (fun j a u h1 h2 => hr2 j a u h1 (by simpa using h2))
            cases ha.grow g1.2 with | rptr _ _ _ ni b base hn hb => ?_
            obtain ⟨ni', q1, q2, q3, q4⟩ := g1.1.blks l _ hl
            rw [hn] at q1; cases q1
            rcases q4 with ⟨q4, _⟩ | ⟨b', base', c, T, fr, q5, q6, q7, q8, q9⟩
            · rw [hb] at q4; cases q4
            rw [hb] at q5; cases q5
            have hlv : (releases st v.cells).1.length = z := by rw [hl2, ← hs1]; exact hsz
            have hvl : vv.cells.toList.length = z := by simpa using hsz
            have hil : i < xs.length := (List.getElem?_eq_some_iff.1 hx).1
            have hend : base + (i * k.size + o) + z ≤ c.size := by
              have : i * k.size + k.size ≤ xs.length * k.size := by rw [← Nat.succ_mul]; exact Nat.mul_le_mul_right _ (by omega)
              omega
            obtain ⟨w3, c3, r1, r2, r3, r4⟩ := run_stores (P := P) (o := base + (i * k.size + o)) vv.cells.toList 0 c w q6 q7 (by rw [hvl]; omega) (by
              intro u hu
              obtain ⟨j, hj, rfl⟩ := List.getElem_of_mem hu
              have hj' : j < (releases st v.cells).1.length := by rw [hlv, ← hvl]; exact hj
              exact rel_sc1 (hr3 j _ _ (List.getElem?_eq_getElem hj') (List.getElem?_eq_getElem hj)) (hsc _ (List.getElem_mem hj')))
            have hle : o + (releases st v.cells).1.length ≤ (k.enc x).length := by rw [hlv, enc_length]; exact hoz
            have he := dec_enc k _ _ hx'
            have g3 := g1.1.update (blk' := .row k (xs.set i x')) hl rfl hn hb q6 r2 r3 rfl (fun g => by
              refine ⟨ni, hn, by rw [List.length_set]; exact q2, q3, .inr ⟨b, base, c3, T, fr, hb, r2.here, by rw [r3]; exact q7, by rw [r3, List.length_set]; exact q8, fun i2 y j a h1 h2 => ?_⟩⟩
              simp only [Nat.add_zero, hvl] at r4
              by_cases hii : i2 = i
              · subst hii
                rw [List.getElem?_set_self hil] at h1; cases h1
                rw [he, splice_get _ _ _ _ hle, hlv] at h2
                rw [r4]
                split at h2
                · rename_i hj
                  have hj2 : j - o < vv.cells.toList.length := by omega
                  rw [if_pos (by omega), show base + (i2 * k.size + j) - (base + (i2 * k.size + o)) = j - o by omega]
                  exact ⟨_, List.getElem?_eq_getElem hj2, (hr3 _ a _ h2 (List.getElem?_eq_getElem hj2)).grow g⟩
                · rename_i hj
                  rw [if_neg (by omega)]
                  obtain ⟨u, h3, h4⟩ := q9 i2 x j a hx h2
                  exact ⟨u, h3, h4.grow g⟩
              · rw [List.getElem?_set_ne (fun e => hii e.symm)] at h1
                obtain ⟨u, h3, h4⟩ := q9 i2 y j a h1 h2
                have hjk : j < k.size := by have := (List.getElem?_eq_some_iff.1 h2).1; rwa [enc_length] at this
                refine ⟨u, ?_, h4.grow g⟩
                rw [r4, if_neg ?_]; · exact h3
                rintro ⟨e1, e2⟩
                rcases Nat.lt_or_gt_of_ne hii with hlt | hlt
                · have : i2 * k.size + k.size ≤ i * k.size := by rw [← Nat.succ_mul]; exact Nat.mul_le_mul_right _ hlt
                  omega
                · have : i * k.size + k.size ≤ i2 * k.size := by rw [← Nat.succ_mul]; exact Nat.mul_le_mul_right _ hlt
                  omega)
            refine ⟨w3, N, ?_, g1.trans g3⟩
            rw [q3, run_storeAt hz hsz]; exact r1
          · exact (no_get hg).elim
        · exact (no_get hg).elim
      · exact (no_get hg).elim
    · exact (no_get hg).elim
  · exact (no_get hg).elim
end
end Go.Abs
