/- The abstract machine: slices built and made, append, conversions. Conditions: none. -/
import Derived.Test.YtpiphiieflnabaaDoorAbs10
import Derived.IntWalk
namespace Go.Abs
section
variable {P : Program} {w w' : World} {S : Nat → Prop} {N : Names} {E : Fix} {st : Store}

/-- A row's cells. -/
def RowRel (w : World) (S : Nat → Prop) (N : Names) (k : EK) (xs : List k.α) (c : Array Value) : Prop :=
  ∀ (i : Nat) (x : k.α) (j : Nat) (a : AV), xs[i]? = some x → (k.enc x)[j]? = some a → ∃ v, c[i * k.size + j]? = some v ∧ Rel w S N a v

theorem RowRel.grow {S' : Nat → Prop} {N' : Names} (g : Grow w S N w' S' N') {k : EK} {xs : List k.α} {c : Array Value} (h : RowRel w S N k xs c) : RowRel w' S' N' k xs c := by
  intro i x j a h1 h2
  obtain ⟨v, h3, h4⟩ := h i x j a h1 h2
  exact ⟨v, h3, h4.grow g⟩

theorem ofCell_int {v : Value} {k : IntKind} {n : Int} (h : ofCell v = .int k n) : v = .int k n := by cases v <;> simp [ofCell] at h; obtain ⟨rfl, rfl⟩ := h; rfl
theorem ofCell_bool {v : Value} {b : Bool} (h : ofCell v = .bool b) : v = .bool b := by cases v <;> simp [ofCell] at h; subst h; rfl
theorem ofCell_str {v : Value} (h : ofCell v = .str []) : v = .string ⟨#[]⟩ := by
  cases v <;> simp [ofCell] at h
  rename_i s
  obtain ⟨⟨l⟩⟩ := s
  simp at h; subst h; rfl
theorem ofCell_lit {v u : Value} (h : ofCell v = .lit u) : v = u := by cases v <;> simp [ofCell] at h <;> exact h

theorem okZ_ok {a : AV} {u : Value} (h : okZ a (ofCell u) = true) : Rel w S N a u := by
  unfold okZ at h
  split at h
  · rename_i hk
    obtain rfl := ofCell_int hk
    obtain rfl : _ = _ := by simpa using h
    exact .int _ _
  · rename_i hk; obtain rfl := ofCell_bool hk; exact .bool _
  · rename_i hk; obtain rfl := ofCell_str hk; exact .str []
  · rename_i hk; obtain rfl := ofCell_lit hk; exact .seq0 _ _ _
  · cases h

theorem okZs_ok : ∀ (as' : List AV) (us : List Value), okZs as' (us.map ofCell) = true → as'.length = us.length ∧ ∀ (j : Nat) (a : AV) (u : Value), as'[j]? = some a → us[j]? = some u → Rel w S N a u
  | [], [], _ => ⟨rfl, by simp⟩
  | [], u :: us, h => by simp [okZs] at h
  | a :: as', [], h => by simp [okZs] at h
  | a :: as', u :: us, h => by
    simp only [List.map_cons, okZs, Bool.and_eq_true] at h
    obtain ⟨h1, h2⟩ := okZs_ok as' us h.2
    refine ⟨by simp [h1], fun j b x hb hx => ?_⟩
    cases j with
    | zero => simp at hb hx; subst hb; subst hx; exact okZ_ok h.1
    | succ j => exact h2 j b x (by simpa using hb) (by simpa using hx)

theorem zeroOK_ok {e : TypeId} {k : EK} (h : zeroOK P e k = true) (w1 : World) :
    ∃ z, (zeroValue e).run P w1 = .ok z w1 ∧ z.cells.size = k.size ∧ ∀ (j : Nat) (a : AV) (u : Value), (k.enc (zeroE k))[j]? = some a → z.cells[j]? = some u → Rel w S N a u := by
  unfold zeroOK at h
  split at h
  · rename_i zs hz
    obtain ⟨z, h1, rfl⟩ := zeroT_run hz w1
    obtain ⟨h2, h3⟩ := okZs_ok (w := w) (S := S) (N := N) _ _ h
    refine ⟨z, h1, by rw [enc_length] at h2; simpa using h2.symm, fun j a u h4 h5 => h3 j a u h4 (by simpa using h5)⟩
  · cases h

theorem zeros_row {k : EK} {z : Value} (hz : z.cells.size = k.size) (hr : ∀ (j : Nat) (a : AV) (u : Value), (k.enc (zeroE k))[j]? = some a → z.cells[j]? = some u → Rel w S N a u) (n : Nat) :
    RowRel w S N k (List.replicate n (zeroE k)) ((Array.range (n * k.size)).map (z.cells[· % z.cells.size]!)) := by
  intro i x j a hx ha
  rw [List.getElem?_replicate] at hx
  split at hx
  · rename_i hi
    cases hx
    have hj : j < k.size := by have := (List.getElem?_eq_some_iff.1 ha).1; rwa [enc_length] at this
    have hle : i * k.size + j < n * k.size := by
      have : i * k.size + k.size ≤ n * k.size := by rw [← Nat.succ_mul]; exact Nat.mul_le_mul_right _ hi
      omega
    have hm : (i * k.size + j) % z.cells.size = j := by rw [hz, Nat.mul_comm, Nat.mul_add_mod, Nat.mod_eq_of_lt hj]
    have hjz : j < z.cells.size := by omega
    refine ⟨z.cells[j], ?_, hr j a _ ha (Array.getElem?_eq_getElem hjz)⟩
    rw [Array.getElem?_map, Array.getElem?_range, if_pos hle]
    simp only [Option.map_some, hm]
    rw [getElem!_pos z.cells j hjz]
  · cases hx

theorem fillRow_ok {k : EK} : ∀ (ps : List (Nat × AV)) (rs : List (Nat × Value)) (st : Store) (xs : List k.α) (c : Array Value) (xs' : List k.α) (st' : Store), Mem E st w N →
    fillRow k st xs ps = some (xs', st') → c.size = xs.length * k.size → RowRel w (SS E.F N st) N k xs c → ps.length = rs.length →
    (∀ (j i : Nat) (a : AV) (i' : Nat) (u : Value), ps[j]? = some (i, a) → rs[j]? = some (i', u) → i = i' ∧ Rel w (SS E.F N st) N a u) →
    ∃ c', Instr.fill (fun i => some (i * k.size, k.size)) c rs = some c' ∧ c'.size = xs'.length * k.size ∧ xs'.length = xs.length ∧ Goes E st w N st' w N ∧ RowRel w (SS E.F N st') N k xs' c'
  | [], [], st, xs, c, xs', st', h, hf, hc, hr, _, _ => by
    simp only [fillRow] at hf; cases hf
    exact ⟨c, rfl, hc, rfl, .refl h, hr⟩
  | (i, v) :: ps, (i', u) :: rs, st, xs, c, xs', st', h, hf, hc, hr, hl, hp => by
    obtain ⟨rfl, hv⟩ := hp 0 i v i' u rfl rfl
    simp only [fillRow] at hf
    split at hf
    · rename_i x hx
      split at hf
      · rename_i hcond
        simp only [Bool.and_eq_true, decide_eq_true_eq] at hcond
        obtain ⟨hok, hi⟩ := hcond
        obtain ⟨hs, hrel⟩ := rel_cells hv hok
        obtain ⟨hl1, g1, hr1⟩ := releases_ok v.cells u.cells.toList st h (fun j a u' h1 h2 => hrel j a u' h1 (by simpa using h2))
        have he := dec_enc k _ _ hx
        have hsz : u.cells.size = k.size := by rw [hs, ← hl1, ← he, enc_length]
        have hle : i * k.size + k.size ≤ c.size := by rw [hc, ← Nat.succ_mul]; exact Nat.mul_le_mul_right _ hi
        obtain ⟨l1, l2⟩ := laid u (i * k.size) c (by rw [hsz]; exact hle)
        obtain ⟨c', h1, h2, h3, h4, h5⟩ := fillRow_ok ps rs _ (xs.set i x) (u.cells.zipIdx.foldl (fun cs (c, j) => cs.setIfInBounds (i * k.size + j) c) c) xs' st' g1.1 hf
          (by rw [l1, List.length_set]; exact hc) (fun i2 y j a hy ha => by
            rw [l2, hsz]
            have hj : j < k.size := by have := (List.getElem?_eq_some_iff.1 ha).1; rwa [enc_length] at this
            by_cases hii : i2 = i
            · subst hii
              rw [List.getElem?_set_self hi] at hy; cases hy
              rw [if_pos (by omega), show i2 * k.size + j - i2 * k.size = j by omega]
              have hju : j < u.cells.toList.length := by simpa [hsz] using hj
              rw [he] at ha
              exact ⟨_, Array.getElem?_eq_getElem (by rw [hsz]; exact hj), hr1 j a _ ha (by simp [hsz, hj])⟩
            · rw [List.getElem?_set_ne (fun e => hii e.symm)] at hy
              rw [if_neg]
              · exact (hr.grow g1.2) i2 y j a hy ha
              · rintro ⟨e1, e2⟩
                rcases Nat.lt_or_gt_of_ne hii with hlt | hlt
                · have : i2 * k.size + k.size ≤ i * k.size := by rw [← Nat.succ_mul]; exact Nat.mul_le_mul_right _ hlt
                  omega
                · have : i * k.size + k.size ≤ i2 * k.size := by rw [← Nat.succ_mul]; exact Nat.mul_le_mul_right _ hlt
                  omega)
          (by simpa using hl) (fun j i a i' u h1 h2 => by
            obtain ⟨e1, e2⟩ := hp (j + 1) i a i' u (by simpa using h1) (by simpa using h2)
            exact ⟨e1, e2.grow g1.2⟩)
        refine ⟨c', ?_, h2, by rw [h3, List.length_set], g1.trans h4, h5⟩
        simp only [Instr.fill]
        rw [if_neg]
        · exact h1
        · simp only [Bool.or_eq_true, decide_eq_true_eq, not_or, ne_eq, Decidable.not_not]
          exact ⟨hsz, by omega⟩
      · cases hf
    · cases hf

theorem buildSliceV_ok (h : Mem E st w N) {t : TypeId} {n : Nat} {ps : List (Nat × AV)} {rs : Array (Nat × Value)} {r : AV × Store} (hl : ps.length = rs.size)
    (hr : ∀ (j i : Nat) (a : AV) (i' : Nat) (u : Value), ps[j]? = some (i, a) → rs.toList[j]? = some (i', u) → i = i' ∧ Rel w (SS E.F N st) N a u) (hg : (buildSliceV P st t n ps).get = some r) :
    ∃ v' w' N', (Instr.buildSlice t n rs).run P w = .ok v' w' ∧ Goes E st w N r.2 w' N' ∧ Rel w' (SS E.F N' r.2) N' r.1 v' := by
  unfold buildSliceV at hg
  split at hg
  · rename_i e hu
    split at hg
    · rename_i k z hk hz
      split at hg
      · rename_i hc
        simp only [Bool.and_eq_true, decide_eq_true_eq] at hc
        obtain ⟨⟨rfl, hz0⟩, hn⟩ := hc
        split at hg
        · rename_i xs st1 hf
          obtain rfl := ret_get hg
          obtain ⟨zv, hz1, hz2, hz3⟩ := zeroOK_ok (w := w) (S := SS E.F N st) (N := N) hz0 w
          obtain ⟨c', h1, h2, h3, h4, h5⟩ := fillRow_ok ps rs.toList st (List.replicate n (zeroE k)) ((Array.range (n * k.size)).map (zv.cells[· % zv.cells.size]!)) xs st1 h hf (by simp) (zeros_row hz2 hz3 n) (by simpa using hl) hr
          rw [List.length_replicate] at h3
          obtain ⟨N', g2, hR⟩ := h4.1.newRow (k := k) (xs := xs) (cap := n) (w' := { w with heap := w.heap.push (.cells c' e (0, 0)) }) (c := c') (T := e) pushed_of (thaw0 _) (by omega) (by rw [h2, h3]; exact Nat.le_refl _) h5
          have hsz : ¬ (n * k.size > 2 ^ 24) := by omega
          rw [h3] at hR
          refine ⟨_, _, N', ?_, h4.trans g2, hR⟩
          by_cases h0 : n * k.size = 0
          · have hr0 : ((Array.range (n * k.size)).map fun i => (#[] : Array Value)[i % (#[] : Array Value).size]!) = ((Array.range (n * k.size)).map (zv.cells[· % zv.cells.size]!)) := by rw [h0, Array.range_zero']; simp
            simp only [Instr.buildSlice, Sem.run_bind, run_underlying hu, Result.andThen_ok, run_sizeT hz, if_neg hsz, if_pos h0, Sem.run_pure, hr0, h1, newRow, run_newObj, Sem.run_ite]
          · simp only [Instr.buildSlice, Sem.run_bind, run_underlying hu, Result.andThen_ok, run_sizeT hz, if_neg hsz, if_neg h0, hz1, Sem.run_pure, h1, newRow, run_newObj, Sem.run_ite]
        · exact (no_get hg).elim
      · exact (no_get hg).elim
    · exact (no_get hg).elim
  · exact (no_get hg).elim

theorem small_ok {e : TypeId} (h : small P e = true) : ∃ i z, P.info? e = some i ∧ i.zero = some z ∧ i.bytes ≤ 4096 ∧ z.cells.size = i.size := by
  unfold small at h
  split at h
  · rename_i i hi
    simp only [Bool.and_eq_true, decide_eq_true_eq] at h
    obtain ⟨h1, h2⟩ := h
    split at h2
    · rename_i z hz; exact ⟨i, z, hi, hz, h1, by simpa using h2⟩
    · cases h2
  · cases h

theorem sizeT_info {e : TypeId} {z : Nat} {i : TypeInfo} (h : sizeT P e = some z) (hi : P.info? e = some i) : i.size = z := by
  simp [sizeT, hi] at h; exact h

theorem makeSliceV_ok (h : Mem E st w N) {t : TypeId} {n c : AV} {vn vc : Value} {r : AV × Store} (hn : Rel w (SS E.F N st) N n vn) (hc : Rel w (SS E.F N st) N c vc) (hg : (makeSliceV P st t n c).get = some r) :
    ∃ v' w' N', (Instr.makeSlice t vn vc).run P w = .ok v' w' ∧ Goes E st w N r.2 w' N' ∧ Rel w' (SS E.F N' r.2) N' r.1 v' := by
  unfold makeSliceV at hg
  split at hg
  · rename_i e n c hu
    obtain rfl := rel_int hn; obtain rfl := rel_int hc
    split at hg
    · rename_i k z hk hz
      split at hg
      · rename_i hcond
        simp only [Bool.and_eq_true, decide_eq_true_eq] at hcond
        obtain ⟨⟨rfl, hz0⟩, hsm⟩ := hcond
        obtain ⟨hb, hg⟩ := need_get hg
        obtain rfl := ret_get hg
        simp only [Bool.and_eq_true, decide_eq_true_eq] at hb
        obtain ⟨⟨h0, hnc⟩, hlim'⟩ := hb
        have hlim : c ≤ 4294967296 := by simpa [LIM] using hlim'
        obtain ⟨i, z', hi, hz', hby, hzs⟩ := small_ok hsm
        obtain ⟨zv, hz1, hz2, hz3⟩ := zeroOK_ok (w := w) (S := SS E.F N st) (N := N) hz0 w
        have hrow := zeros_row hz2 hz3 c.toNat
        have hwn : IntKind.i64.wrap n = n := IntWalk.i64_in n (by omega)
        have hwc : IntKind.i64.wrap c = c := IntWalk.i64_in c (by omega)
        obtain ⟨N', g, hR⟩ := h.newRow (k := k) (xs := List.replicate n.toNat (zeroE k)) (cap := c.toNat) (c := (Array.range (c.toNat * k.size)).map (zv.cells[· % zv.cells.size]!)) (T := e) (w' := { w with heap := w.heap.push (.cells ((Array.range (c.toNat * k.size)).map (zv.cells[· % zv.cells.size]!)) e (0, 0)) })
          pushed_of (thaw0 _) (by simp; omega) (by simp) (fun i2 x j a hx ha => hrow i2 x j a (by
            rw [List.getElem?_replicate] at hx ⊢
            split at hx
            · rename_i hlt; rw [if_pos (by omega)]; exact hx
            · cases hx) ha)
        rw [List.length_replicate] at hR
        refine ⟨_, _, N', ?_, g, hR⟩
        have hmul : (i.bytes : Int) * c ≤ 2 ^ 48 := by
          have h1 : (i.bytes : Int) * c ≤ 4096 * c := Int.mul_le_mul_of_nonneg_right (by omega) (by omega)
          omega
        have ht : (decide (c < 0) || decide ((i.bytes : Int) * c > 2 ^ 48)) = false := by
          simp only [Bool.or_eq_false_iff, decide_eq_false_iff_not]; omega
        have hl0 : decide (n < 0) = false := by simp only [decide_eq_false_iff_not]; omega
        have hl1 : decide (n > c) = false := by simp only [decide_eq_false_iff_not]; omega
        simp only [Instr.makeSlice, Sem.run_bind, run_underlying hu, Result.andThen_ok, asInt, asIntOf, Sem.run_pure, typeInfo, run_program, hi, hwn, hwc, ht, hl0, hl1, Bool.or_self, Bool.false_eq_true, if_false, run_askRoom, run_sizeT hz, Sem.run_ite]
        by_cases hcz : c.toNat * k.size = 0
        · have hr0 : ((Array.range (c.toNat * k.size)).map fun i => (#[] : Array Value)[i % (#[] : Array Value).size]!) = ((Array.range (c.toNat * k.size)).map (zv.cells[· % zv.cells.size]!)) := by rw [hcz, Array.range_zero']; simp
          simp only [if_pos hcz, Result.andThen_ok, newRow, Sem.run_bind, run_newObj, Sem.run_pure, hr0]
        · simp only [if_neg hcz, hz1, Result.andThen_ok, newRow, Sem.run_bind, run_newObj, Sem.run_pure]
      · exact (no_get hg).elim
    · exact (no_get hg).elim
  · exact (no_get hg).elim

/-! ### append -/
theorem enc_sc1 : ∀ (k : EK) (x : k.α) (a : AV), a ∈ k.enc x → sc1 a = true
  | .int _, _, a, h => by simp [EK.enc] at h; subst h; rfl
  | .bool, _, a, h => by simp [EK.enc] at h; subst h; rfl
  | .str, _, a, h => by simp [EK.enc] at h; subst h; rfl
  | .seq _, _, a, h => by simp [EK.enc] at h; subst h; rfl
  | .pair k1 k2, p, a, h => by
    simp only [EK.enc, List.mem_append] at h
    rcases h with h | h
    · exact enc_sc1 k1 _ a h
    · exact enc_sc1 k2 _ a h

/-- Whatever slice it is: where its elements lie. -/
theorem asSeq_ok (h : Mem E st w N) {x : AV} {vx : Value} {k : EK} {xs : List k.α} (hx : Rel w (SS E.F N st) N x vx) (hs : asSeq st x = some ⟨k, xs⟩) :
    ∃ A c, vx = .slice A xs.length c ∧ (xs.length = 0 ∨ ∃ b off, A = some ⟨b, off, none⟩ ∧ ∀ (i : Nat) (y : k.α), xs[i]? = some y → ReadsAt w (SS E.F N st) N b (off + i * k.size) (k.enc y)) := by
  unfold asSeq at hs
  split at hs
  · cases hs
    cases hx with
    | seq0 _ c A => exact ⟨A, c, rfl, .inl rfl⟩
    | seq _ _ b off c vs hc hS hlt h1 h2 =>
      refine ⟨_, c, rfl, .inr ⟨b, off, rfl, fun i y hy j a ha => ?_⟩⟩
      have hj : j < k.size := by have := (List.getElem?_eq_some_iff.1 ha).1; rwa [enc_length] at this
      exact ⟨_, by rw [Nat.add_assoc]; exact h1 i j (List.getElem?_eq_some_iff.1 hy).1 hj, h2 i y j a hy ha⟩
  · split at hs
    · rename_i l k' xs' hl
      cases hs
      cases hx with | whole _ ni c A hn hh => ?_
      obtain ⟨h1, h2, b, base, h3, h4⟩ := h.rowAt hl hn
      refine ⟨A, c, by rw [h1], ?_⟩
      rcases hh with ⟨q1, _⟩ | ⟨b', base', cs, T, fr, q1, q2, q3, q4, q5⟩
      · exact .inl (by omega)
      · have hbl : ni.blk = some (b, base) := by
          rcases h3 with h3 | ⟨h3, _⟩
          · exact h3
          · rw [h3] at q1; cases q1
        rw [hbl] at q1; cases q1
        exact .inr ⟨b, base, by rw [q2]; simp, fun i y hy => (h4 hbl).2 i y hy⟩
    · cases hs
  · split at hs
    · rename_i l o n _ k' xs' hl
      cases hs
      cases hx with | own _ _ _ ni c A hn hon hh => ?_
      obtain ⟨h1, h2, b, base, h3, h4⟩ := h.rowAt hl hn
      have hlen : ((xs'.drop o).take n).length = n := by simp; omega
      refine ⟨A, c, by rw [hlen], ?_⟩
      rcases hh with ⟨q1, _⟩ | ⟨b', base', cs, T, fr, q1, q2, q3, q4, q5⟩
      · exact .inl (by omega)
      · have hbl : ni.blk = some (b, base) := by
          rcases h3 with h3 | ⟨h3, _⟩
          · exact h3
          · rw [h3] at q1; cases q1
        rw [hbl] at q1; cases q1
        refine .inr ⟨b, base + o * k.size, by rw [q2, h2], fun i y hy => ?_⟩
        rw [List.getElem?_take] at hy
        split at hy
        · rw [List.getElem?_drop] at hy
          have := (h4 hbl).2 (o + i) y hy
          rwa [Nat.add_mul, ← Nat.add_assoc] at this
        · cases hy
    · cases hs
  · cases hs

/-- A slice's cells, read in one go. -/
theorem firstCells_ok {k : EK} {xs : List k.α} {A : Option Addr} {c : Nat}
    (h : xs.length = 0 ∨ ∃ b off, A = some ⟨b, off, none⟩ ∧ ∀ (i : Nat) (y : k.α), xs[i]? = some y → ReadsAt w S N b (off + i * k.size) (k.enc y)) :
    ∃ us : List Value, us.length = xs.length * k.size ∧ (∀ u ∈ us, u.oneCell' = true) ∧ RowRel w S N k xs us.toArray ∧
      ∀ W : World, W.heap = w.heap → (Builtin.firstCells k.size xs.length (.slice A xs.length c)).run P W = .ok us.toArray W := by
  by_cases h0 : xs.length = 0
  · obtain rfl : xs = [] := List.length_eq_zero_iff.1 h0
    refine ⟨[], by simp, by simp, fun i x j a hx => by simp at hx, fun W _ => ?_⟩
    cases A with
    | none => simp [Builtin.firstCells]
    | some a => simp [Builtin.firstCells, loadCells, loadCellsFrom]
  rcases h with h | ⟨b, off, rfl, hr⟩
  · exact absurd h h0
  have hk := size_pos k
  have hcell : ∀ m, m < xs.length * k.size → ∃ v, w.cell? ⟨b, off + m, none⟩ = some v ∧ v.oneCell' = true := by
    intro m hm
    have hi : m / k.size < xs.length := Nat.div_lt_of_lt_mul (by rw [Nat.mul_comm]; exact hm)
    have hj : m % k.size < (k.enc xs[m / k.size]).length := by rw [enc_length]; exact Nat.mod_lt _ hk
    obtain ⟨v, h1, h2⟩ := hr _ _ (List.getElem?_eq_getElem hi) _ _ (List.getElem?_eq_getElem hj)
    refine ⟨v, ?_, rel_sc1 h2 (enc_sc1 _ _ _ (List.getElem_mem hj))⟩
    rw [← h1]; congr 2
    have := Nat.div_add_mod m k.size
    rw [Nat.mul_comm] at this; omega
  refine ⟨(List.range (xs.length * k.size)).map fun m => (w.cell? ⟨b, off + m, none⟩).getD undef, by simp, fun u hu => ?_, fun i x j a hx ha => ?_, fun W hW => ?_⟩
  · obtain ⟨m, hm, rfl⟩ := List.mem_map.1 hu
    obtain ⟨v, h1, h2⟩ := hcell m (by simpa using hm)
    rw [h1]; exact h2
  · obtain ⟨v, h1, h2⟩ := hr i x hx j a ha
    have hi := (List.getElem?_eq_some_iff.1 hx).1
    have hj : j < k.size := by have := (List.getElem?_eq_some_iff.1 ha).1; rwa [enc_length] at this
    have hlt : i * k.size + j < xs.length * k.size := by
      have : i * k.size + k.size ≤ xs.length * k.size := by rw [← Nat.succ_mul]; exact Nat.mul_le_mul_right _ hi
      omega
    refine ⟨v, ?_, h2⟩
    rw [Nat.add_assoc] at h1
    simp [hlt, h1]
  · simp only [Builtin.firstCells]
    refine run_loadCells W _ _ (fun m => (w.cell? ⟨b, off + m, none⟩).getD undef) (fun m hm => ?_)
    obtain ⟨v, h1, _⟩ := hcell m hm
    rw [Addr.add_lit, h1]
    have : W.cell? ⟨b, off + m, none⟩ = w.cell? ⟨b, off + m, none⟩ := by simp [World.cell?, hW]
    rw [this, h1]; rfl

theorem newsOf_ok (h : Mem E st w N) {k : EK} {x : AV} {vx : Value} {ys : List k.α} (hx : Rel w (SS E.F N st) N x vx) (hy : newsOf st k x = some ys) :
    ∃ us : List Value, us.length = ys.length * k.size ∧ (∀ u ∈ us, u.oneCell' = true) ∧ RowRel w (SS E.F N st) N k ys us.toArray ∧
      (∀ W, (Builtin.lenOf vx).run P W = .ok ys.length W) ∧ ∀ W : World, W.heap = w.heap → (Builtin.firstCells k.size ys.length vx).run P W = .ok us.toArray W := by
  unfold newsOf at hy
  split at hy
  · rename_i s
    split at hy
    · rename_i hk; subst hk; cases hy
      obtain rfl := rel_str hx
      refine ⟨s.map fun b => .int .u8 b.toNat, by simp [toInts, EK.size], fun u hu => ?_, fun i y j a h1 h2 => ?_, fun W => by simp [Builtin.lenOf, size_mk, toInts], fun W _ => ?_⟩
      · obtain ⟨b, _, rfl⟩ := List.mem_map.1 hu; rfl
      · simp only [EK.enc] at h2
        cases j with
        | zero =>
          simp at h2; subst h2
          simp only [toInts, List.getElem?_map] at h1
          obtain ⟨b, hb, rfl⟩ := Option.map_eq_some_iff.1 h1
          exact ⟨.int .u8 b.toNat, by simp [EK.size, hb], .int _ _⟩
        | succ j => simp at h2
      · have he : (⟨s.toArray⟩ : ByteArray).extract 0 s.length = ⟨s.toArray⟩ := by rw [ByteArray.extract_mk]; simp
        simp [Builtin.firstCells, toInts, he]
    · cases hy
  · cases hy
    obtain rfl := rel_lit hx
    refine ⟨[], by simp, by simp, fun i x j a h1 => by simp at h1, fun W => by simp [Builtin.lenOf], fun W _hW => ?_⟩
    rename_i A c
    cases A with
    | none => simp [Builtin.firstCells]
    | some a =>
      simp only [Builtin.firstCells]
      simpa using run_loadCells W a 0 (fun _ => undef) (fun m hm => absurd hm (Nat.not_lt_zero m))
  · split at hy
    · rename_i k' xs hs
      split at hy
      · rename_i hk; subst hk; cases hy
        obtain ⟨A, c, rfl, hr⟩ := asSeq_ok h hx hs
        obtain ⟨us, h1, h2, h3, h4⟩ := firstCells_ok (P := P) (c := c) hr
        exact ⟨us, h1, h2, h3, fun W => by simp [Builtin.lenOf], h4⟩
      · cases hy
    · cases hy
end
end Go.Abs
