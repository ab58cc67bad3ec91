/- The abstract machine: rows given away and cut, variables and structs made. Conditions: none. -/
import Derived.Test.YtpiphiieflnabaaDoorAbs7
namespace Go.Abs
section
variable {P : Program} {w w' : World} {N : Names} {E : Fix} {st : Store}

/-- What a row's name stands for. -/
theorem Mem.rowAt (h : Mem E st w N) {l : Nat} {k : EK} {xs : List k.α} (hl : st[l]? = some (.row k xs)) {ni : NI} (hn : N l = some ni) :
    ni.len = xs.length ∧ ni.esz = k.size ∧ ∃ b base, (ni.blk = some (b, base) ∨ (ni.blk = none ∧ xs = [])) ∧
      (ni.blk = some (b, base) → Own N st b ∧ ∀ (i : Nat) (x : k.α), xs[i]? = some x → ReadsAt w (SS E.F N st) N b (base + i * k.size) (k.enc x)) := by
  obtain ⟨ni', h1, h2, h3, h4⟩ := h.blks l _ hl
  rw [hn] at h1; cases h1
  refine ⟨h2, h3, ?_⟩
  rcases h4 with ⟨h4, h5⟩ | ⟨b, base, c, T, fr, h4, _⟩
  · exact ⟨0, 0, .inr ⟨h4, h5⟩, fun h6 => by rw [h4] at h6; cases h6⟩
  · exact ⟨b, base, .inl h4, fun _ => ⟨⟨l, _, ni, base, hl, rfl, hn, h4⟩, (h.elemAt hl hn h4).2⟩⟩

/-- Behind a row's end its block is nobody's. -/
theorem Mem.kill_off (h : Mem E st w N) {l : Nat} {blk : Blk} {ni : NI} {b base : Nat} (hl : st[l]? = some blk) (ha : alive blk = true) (hn : N l = some ni) (hb : ni.blk = some (b, base)) :
    ¬ SS E.F N (st.set l .dead) b := by
  rintro (⟨l', blk', ni', base', h1, h2, h3, h4⟩ | hF)
  · rcases set_cases h1 with ⟨_, rfl⟩ | ⟨hne, h5⟩
    · simp [alive] at h2
    · exact hne (h.apart l' l blk' blk ni' ni b base' base h5 hl h2 ha h3 hn h4 hb)
  · exact h.notF ⟨l, blk, ni, base, hl, ha, hn, hb⟩ hF

theorem ReadsAt.grow {S S' : Nat → Prop} {N' : Names} (g : Grow w S N w S' N') {b off : Nat} {cs : List AV} (h : ReadsAt w S N b off cs) : ReadsAt w S' N' b off cs := by
  intro j a ha
  obtain ⟨v, h1, h2⟩ := h j a ha
  exact ⟨v, h1, h2.grow g⟩

theorem release_ok (h : Mem E st w N) {v : AV} {u : Value} (hv : Rel w (SS E.F N st) N v u) :
    Goes E st w N (release st v).2 w N ∧ Rel w (SS E.F N (release st v).2) N (release st v).1 u := by
  unfold release
  split
  · rename_i l hl
    have hk := h.kill l
    refine ⟨hk, ?_⟩
    show Rel w (SS E.F N (st.set l .dead)) N (borrow st v) u
    unfold rowName at hl
    split at hl
    · rename_i l'
      obtain rfl : l' = l := by simpa using hl
      simp only [borrow]
      split
      · rename_i k xs hlx
        cases hv with | whole _ ni c A hn hh => ?_
        obtain ⟨h1, h2, b, base, h3, h4⟩ := h.rowAt hlx hn
        have := seq_of_row (w := w) (S := SS E.F N (st.set l' .dead)) (N := N) (k := k) (xs := xs) hh h3 h2 (by omega) (fun hb => h.kill_off hlx rfl hn hb) (fun hb i x hx => ((h4 hb).2 i x hx).grow hk.2)
        rw [List.drop_zero, List.take_of_length_le (by omega)] at this
        exact this
      · exact hv.grow hk.2
    · rename_i l' o n
      obtain rfl : l' = l := by simpa using hl
      simp only [borrow]
      split
      · rename_i k xs hlx
        cases hv with | own _ _ _ ni c A hn hon hh => ?_
        obtain ⟨h1, h2, b, base, h3, h4⟩ := h.rowAt hlx hn
        exact seq_of_row (w := w) (S := SS E.F N (st.set l' .dead)) (N := N) (k := k) (xs := xs) hh h3 h2 (by omega) (fun hb => h.kill_off hlx rfl hn hb) (fun hb i x hx => ((h4 hb).2 i x hx).grow hk.2)
      · exact hv.grow hk.2
    · cases hl
  · exact ⟨.refl h, hv⟩

theorem releases_ok : ∀ (vs : List AV) (us : List Value) (st : Store), Mem E st w N →
    (∀ (j : Nat) (a : AV) (u : Value), vs[j]? = some a → us[j]? = some u → Rel w (SS E.F N st) N a u) →
    (releases st vs).1.length = vs.length ∧ Goes E st w N (releases st vs).2 w N ∧
      ∀ (j : Nat) (a : AV) (u : Value), (releases st vs).1[j]? = some a → us[j]? = some u → Rel w (SS E.F N (releases st vs).2) N a u
  | [], us, st, h, hr => ⟨rfl, .refl h, hr⟩
  | v :: vs, us, st, h, hr => by
    have hg : Goes E st w N (release st v).2 w N := (release_ok h (.top undef : Rel w (SS E.F N st) N .top undef)) |> fun _ => by
      unfold release; split
      · exact h.kill _
      · exact .refl h
    obtain ⟨h2, g2, hv2⟩ := releases_ok vs (us.drop 1) _ hg.1 (fun j a u' h1 h2 => (hr (j + 1) a u' (by simpa using h1) (by rw [List.getElem?_drop] at h2; rw [Nat.add_comm]; exact h2)).grow hg.2)
    refine ⟨by simp [releases, h2], hg.trans g2, fun j a u' h3 h4 => ?_⟩
    cases j with
    | zero =>
      simp only [releases, List.getElem?_cons_zero, Option.some.injEq] at h3
      subst h3
      exact ((release_ok h (hr 0 v u' rfl h4)).2).grow g2.2
    | succ j =>
      simp only [releases, List.getElem?_cons_succ] at h3
      exact hv2 j a u' h3 (by rw [List.getElem?_drop, Nat.add_comm]; exact h4)

theorem retire_ok (h : Mem E st w N) {v : AV} {u : Value} (hv : Rel w (SS E.F N st) N v u) :
    ∃ N', Goes E st w N (retire st v).2 w N' ∧ Rel w (SS E.F N' (retire st v).2) N' (retire st v).1 u := by
  unfold retire
  split
  · rename_i l o n
    split
    · rename_i k xs hlx
      cases hv with | own _ _ _ ni c A hn hon hh => ?_
      obtain ⟨h1, h2, b, base, h3, h4⟩ := h.rowAt hlx hn
      have hlen : ((xs.drop o).take n).length = n := by simp; omega
      by_cases hv0 : n = 0 ∧ c = 0
      · obtain ⟨rfl, rfl⟩ := hv0
        have g1 := h.kill l
        have g2 := g1.1.ghost k
        rw [List.length_set] at g2
        refine ⟨_, g1.trans (by rw [List.take_zero]; exact g2), ?_⟩
        exact .whole _ ⟨none, 0, k.size⟩ 0 A (Names.add_same _ _ _) (.inl ⟨rfl, rfl⟩)
      · rcases hh with hh | ⟨b', base', cs, T, fr, e1, e2, e3, e4, e5⟩
        · exact absurd hh hv0
        have hbl : ni.blk = some (b, base) := by
          rcases h3 with h3 | ⟨h3, _⟩
          · exact h3
          · rw [h3] at e1; cases e1
        rw [hbl] at e1; cases e1
        have ht : Thaw fr cs.size := by
          obtain ⟨ni', q1, q2, q3, q4⟩ := h.blks l _ hlx
          rw [hn] at q1; cases q1
          rcases q4 with ⟨q4, _⟩ | ⟨b2, base2, c2, T2, fr2, q5, q6, q7, _⟩
          · rw [hbl] at q4; cases q4
          · rw [hbl] at q5; cases q5; rw [e3] at q6; cases q6; exact q7
        have g := h.renew (blk' := .row k ((xs.drop o).take n)) (ni' := ⟨some (b, base + o * k.size), n, k.size⟩) hlx rfl hn hbl e3 (Wrote.refl e3) rfl rfl rfl (fun g => ?_)
        · refine ⟨_, g, .whole _ ⟨some (b, base + o * k.size), n, k.size⟩ c A (Names.add_same _ _ _) (.inr ⟨b, base + o * k.size, cs, T, fr, rfl, ?_, e3, ?_, e5⟩)⟩
          · rw [e2, h2]; simp
          · rw [h2] at e4; simp only; rw [Nat.zero_add]; rw [Nat.add_mul] at e4; omega
        · refine ⟨_, Names.add_same _ _ _, hlen.symm, rfl, .inr ⟨b, base + o * k.size, cs, T, fr, rfl, e3, ht, ?_, fun i x j a hx ha => ?_⟩⟩
          · rw [hlen]; rw [h2, Nat.add_mul] at e4
            have := Nat.mul_le_mul_right k.size e5; omega
          · rw [List.getElem?_take] at hx
            split at hx
            · rw [List.getElem?_drop] at hx
              obtain ⟨v, hv, hR⟩ := (h4 hbl).2 _ x hx j a ha
              obtain ⟨c3, T3, fr3, q1, q2⟩ := cell?_iff.1 hv
              rw [e3] at q1; cases q1
              refine ⟨v, ?_, hR.grow g⟩
              rw [Nat.add_mul] at q2
              rw [show base + o * k.size + (i * k.size + j) = base + (o * k.size + i * k.size) + j by omega]; exact q2
            · cases hx
    · exact ⟨N, .refl h, .top u⟩
  · exact ⟨N, .refl h, hv⟩

theorem retires_ok : ∀ (vs : List AV) (us : List Value) (st : Store) (N : Names), Mem E st w N → vs.length = us.length →
    (∀ (j : Nat) (a : AV) (u : Value), vs[j]? = some a → us[j]? = some u → Rel w (SS E.F N st) N a u) →
    (retires st vs).1.length = vs.length ∧ ∃ N', Goes E st w N (retires st vs).2 w N' ∧
      ∀ (j : Nat) (a : AV) (u : Value), (retires st vs).1[j]? = some a → us[j]? = some u → Rel w (SS E.F N' (retires st vs).2) N' a u
  | [], us, st, N, h, _, hr => ⟨rfl, N, .refl h, hr⟩
  | v :: vs, u :: us, st, N, h, hl, hr => by
    obtain ⟨N1, g1, hv1⟩ := retire_ok h (hr 0 v u rfl rfl)
    obtain ⟨h2, N2, g2, hv2⟩ := retires_ok vs us _ N1 g1.1 (by simpa using hl) (fun j a u' h1 h2 => (hr (j + 1) a u' (by simpa using h1) (by simpa using h2)).grow g1.2)
    refine ⟨by simp [retires, h2], N2, g1.trans g2, fun j a u' h3 h4 => ?_⟩
    cases j with
    | zero =>
      simp only [retires, List.getElem?_cons_zero, Option.some.injEq] at h3 h4
      subst h3; subst h4
      exact hv1.grow g2.2
    | succ j => exact hv2 j a u' (by simpa [retires] using h3) (by simpa using h4)

theorem ghostV_ok (h : Mem E st w N) {v : AV} {t : TypeId} {u : Value} (hv : Rel w (SS E.F N st) N v u) :
    ∃ N', Goes E st w N (ghostV P st v t).2 w N' ∧ Rel w (SS E.F N' (ghostV P st v t).2) N' (ghostV P st v t).1 u := by
  unfold ghostV
  split
  · rename_i cs
    cases hv with | agg _ vs hl hr => ?_
    obtain ⟨h1, N', g, h2⟩ := ghosts_ok (P := P) cs (leaves P 6 t) vs.toList st N h (fun j a u h1 h2 => hr j a u h1 (by simpa using h2))
    exact ⟨N', g, .agg _ _ (by rw [h1]; exact hl) (fun j a u h3 h4 => h2 j a u h3 (by simpa using h4))⟩
  · exact ghost1_ok h hv

theorem assignV_ok (h : Mem E st w N) {v : AV} {t : TypeId} {u : Value} (hv : Rel w (SS E.F N st) N v u) :
    ∃ N', Goes E st w N (assignV P st t v).2 w N' ∧ Rel w (SS E.F N' (assignV P st t v).2) N' (assignV P st t v).1 u := by
  unfold assignV
  split
  · exact ghost1_ok h hv
  · exact ⟨N, .refl h, hv⟩

/-! ### Variables -/
theorem zeroT_run {t : TypeId} {zs : List AV} (h : zeroT P t = some zs) (w : World) : ∃ z, (zeroValue t).run P w = .ok z w ∧ zs = z.cells.toList.map ofCell := by
  unfold zeroT at h
  obtain ⟨i, h1, h2⟩ := Option.bind_eq_some_iff.1 h
  obtain ⟨z, h3, h4⟩ := Option.map_eq_some_iff.1 h2
  exact ⟨z, by simp [zeroValue, typeInfo, h1, h3], h4.symm⟩

theorem pushed_of {o : Obj} : Pushed w { w with heap := w.heap.push o } o := ⟨rfl, rfl, rfl, rfl⟩

theorem alloc_ok (h : Mem E st w N) {t : TypeId} {zs : List AV} (hz : zeroT P t = some zs) :
    ∃ w' N', (Instr.alloc t true (.tuple #[])).run P w = .ok (.pointer (some ⟨w.heap.size, 0, none⟩)) w' ∧
      Goes E st w N ((ghosts P st zs (leaves P 6 t)).2 ++ [.cells (ghosts P st zs (leaves P 6 t)).1]) w' N' ∧
      Rel w' (SS E.F N' ((ghosts P st zs (leaves P 6 t)).2 ++ [.cells (ghosts P st zs (leaves P 6 t)).1])) N' (.ptr (ghosts P st zs (leaves P 6 t)).2.length 0) (.pointer (some ⟨w.heap.size, 0, none⟩)) := by
  obtain ⟨z, h1, rfl⟩ := zeroT_run hz w
  obtain ⟨h2, N1, g1, hr1⟩ := ghosts_ok (P := P) (z.cells.toList.map ofCell) (leaves P 6 t) z.cells.toList st N h (fun j a u h1 h2 => rel_ofCells z.cells j a u h1 (by simpa using h2))
  obtain ⟨N2, g2, hr2⟩ := g1.1.newCells (c := z.cells) (T := t) (cs := (ghosts P st (z.cells.toList.map ofCell) (leaves P 6 t)).1) (w' := { w with heap := w.heap.push (.cells z.cells t (0, 0)) }) pushed_of
    (by rw [h2]; simp) (fun j a v h3 h4 => hr1 j a v h3 (by simpa using h4))
  exact ⟨_, N2, by simp [Instr.alloc, h1, newVar, newRow], g1.trans g2, hr2⟩

theorem box_ok (h : Mem E st w N) {t : TypeId} {v : AV} {u : Value} (hv : Rel w (SS E.F N st) N v u) (hok : okC (ghostV P st v t).1 = true) :
    ∃ w' N', (Instr.box t u).run P w = .ok (.pointer (some ⟨w.heap.size, 0, none⟩)) w' ∧
      Goes E st w N ((ghostV P st v t).2 ++ [.cells (ghostV P st v t).1.cells]) w' N' ∧
      Rel w' (SS E.F N' ((ghostV P st v t).2 ++ [.cells (ghostV P st v t).1.cells])) N' (.ptr (ghostV P st v t).2.length 0) (.pointer (some ⟨w.heap.size, 0, none⟩)) := by
  obtain ⟨N1, g1, hr1⟩ := ghostV_ok (P := P) (t := t) h hv
  obtain ⟨h2, h3⟩ := rel_cells hr1 hok
  obtain ⟨N2, g2, hr2⟩ := g1.1.newCells (c := u.cells) (T := t) (cs := (ghostV P st v t).1.cells) (w' := { w with heap := w.heap.push (.cells u.cells t (0, 0)) }) pushed_of h2 h3
  exact ⟨_, N2, by simp [Instr.box, newVar, newRow], g1.trans g2, hr2⟩
end
end Go.Abs
