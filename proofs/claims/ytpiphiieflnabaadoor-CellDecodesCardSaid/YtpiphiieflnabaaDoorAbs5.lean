/- The abstract machine: what reads the memory: loads, elements, slice expressions, lengths. Conditions: none. -/
import Derived.Test.YtpiphiieflnabaaDoorAbs4
import Derived.Laws.Cells
namespace Go.Abs
section
variable {P : Program} {w : World} {S : Nat → Prop} {N : Names} {E : Fix} {st : Store}

/-- These cells lie there. -/
def ReadsAt (w : World) (S : Nat → Prop) (N : Names) (b off : Nat) (cs : List AV) : Prop :=
  ∀ (j : Nat) (a : AV), cs[j]? = some a → ∃ v, w.cell? ⟨b, off + j, none⟩ = some v ∧ Rel w S N a v

theorem ReadsAt.drop {b off : Nat} {cs : List AV} (h : ReadsAt w S N b off cs) (o : Nat) : ReadsAt w S N b (off + o) (cs.drop o) := by
  intro j a ha
  rw [List.getElem?_drop] at ha
  obtain ⟨v, h1, h2⟩ := h _ _ ha
  exact ⟨v, by rw [Nat.add_assoc]; exact h1, h2⟩

theorem ReadsAt.take {b off : Nat} {cs : List AV} (h : ReadsAt w S N b off cs) (n : Nat) : ReadsAt w S N b off (cs.take n) := by
  intro j a ha
  rw [List.getElem?_take] at ha
  split at ha
  · exact h _ _ ha
  · cases ha

theorem loadVar_ok {t : TypeId} {b off o : Nat} {cs : List AV} {v : AV} (h : ReadsAt w S N b off cs) (hg : (partV P t cs o).get = some v) :
    ∃ v', (loadVar t ⟨b, off + o, none⟩).run P w = .ok v' w ∧ Rel w S N v v' := by
  have hd := h.drop o
  unfold partV at hg
  split at hg
  · rename_i z hb hz
    split at hg
    · rename_i hl
      obtain rfl := ret_get hg
      have hl' : o + z ≤ cs.length := by simpa using hl
      have hc : ∀ j, j < z → w.cell? ((⟨b, off + o, none⟩ : Addr).add j) = some ((w.cell? ⟨b, off + o + j, none⟩).getD undef) := by
        intro j hj
        obtain ⟨u, h1, _⟩ := hd j _ (by rw [List.getElem?_drop]; exact List.getElem?_eq_getElem (by omega))
        rw [Addr.add_lit, h1]; rfl
      refine ⟨.agg ((List.range z).map fun j => (w.cell? ⟨b, off + o + j, none⟩).getD undef).toArray, ?_, ?_⟩
      · unfold loadVar
        simp only [Sem.run_bind, run_isAggT hb, Result.andThen_ok, if_true, run_sizeT hz, run_loadCells w _ z _ hc, Sem.run_pure]
      · refine .agg _ _ (by simp; omega) fun j a u ha hu => ?_
        rw [List.getElem?_take] at ha
        split at ha
        · rename_i hj
          obtain ⟨u', h1, h2⟩ := hd j a ha
          simp [hj, h1] at hu
          subst hu; exact h2
        · cases ha
    · exact (no_get hg).elim
  · rename_i z hb hz
    split at hg
    · rename_i a ha
      obtain rfl := ret_get hg
      obtain ⟨u, h1, h2⟩ := h o _ ha
      refine ⟨u, ?_, h2⟩
      unfold loadVar
      simp only [Sem.run_bind, run_isAggT hb, Result.andThen_ok, Bool.false_eq_true, if_false, run_load, h1]
    · exact (no_get hg).elim
  · exact (no_get hg).elim

/-- A struct of one's own. -/
theorem Mem.cellsAt (h : Mem E st w N) {l : Nat} {cs : List AV} {ni : NI} {b base : Nat} (hl : st[l]? = some (.cells cs)) (hn : N l = some ni) (hb : ni.blk = some (b, base)) :
    base = 0 ∧ ReadsAt w (SS E.F N st) N b 0 cs := by
  obtain ⟨ni', b', c, T, fr, h1, h2, h3, h4, h5, h6⟩ := h.blks l _ hl
  rw [hn] at h1; cases h1; rw [hb] at h2; cases h2
  refine ⟨rfl, fun j a ha => ?_⟩
  have hj : j < c.size := by rw [h5]; exact (List.getElem?_eq_some_iff.1 ha).1
  exact ⟨c[j], cell?_iff.2 ⟨c, T, fr, h3, by rw [Nat.zero_add]; exact Array.getElem?_eq_getElem hj⟩, h6 j a _ ha (Array.getElem?_eq_getElem hj)⟩

/-- An element of a row of one's own. -/
theorem Mem.elemAt (h : Mem E st w N) {l : Nat} {k : EK} {xs : List k.α} {ni : NI} {b base : Nat} (hl : st[l]? = some (.row k xs)) (hn : N l = some ni) (hb : ni.blk = some (b, base)) :
    ni.esz = k.size ∧ ∀ (i : Nat) (x : k.α), xs[i]? = some x → ReadsAt w (SS E.F N st) N b (base + i * k.size) (k.enc x) := by
  obtain ⟨ni', h1, h2, h3, h4⟩ := h.blks l _ hl
  rw [hn] at h1; cases h1
  refine ⟨h3, fun i x hx j a ha => ?_⟩
  rcases h4 with ⟨h4, _⟩ | ⟨b', base', c, T, fr, h5, h6, _, _, h7⟩
  · rw [hb] at h4; cases h4
  · rw [hb] at h5; cases h5
    obtain ⟨v, hv, hr⟩ := h7 i x j a hx ha
    exact ⟨v, cell?_iff.2 ⟨c, T, fr, h6, by rw [Nat.add_assoc]; exact hv⟩, hr⟩

theorem loadV_ok (h : Mem E st w N) {t : TypeId} {a v : AV} {va : Value} (ha : Rel w (SS E.F N st) N a va) (hg : (loadV P st t a).get = some v) :
    ∃ v', (Instr.loadAt t va).run P w = .ok v' w ∧ Rel w (SS E.F N st) N v v' := by
  unfold loadV at hg
  split at hg
  · rename_i l o
    split at hg
    · rename_i cs hl
      cases ha with | ptr _ _ ni b base hn hb => ?_
      obtain ⟨rfl, hr⟩ := h.cellsAt hl hn hb
      obtain ⟨v', h1, h2⟩ := loadVar_ok hr hg
      exact ⟨v', by simpa [Instr.loadAt, Instr.sureAddr] using h1, h2⟩
    · exact (no_get hg).elim
  · rename_i cs
    cases ha with | pim _ b off vs hS hlt h1 h2 => ?_
    have hr : ReadsAt w (SS E.F N st) N b off cs := fun j a ha => ⟨vs j, h1 j (List.getElem?_eq_some_iff.1 ha).1, h2 j a ha⟩
    obtain ⟨v', h3, h4⟩ := loadVar_ok hr hg
    exact ⟨v', by simpa [Instr.loadAt, Instr.sureAddr] using h3, h4⟩
  · rename_i l i o
    split at hg
    · rename_i k xs hl
      obtain ⟨x, hx, hg⟩ := at_get hg
      cases ha with | rptr _ _ _ ni b base hn hb => ?_
      obtain ⟨he, hr⟩ := h.elemAt hl hn hb
      obtain ⟨v', h1, h2⟩ := loadVar_ok (hr i x hx) hg
      refine ⟨v', ?_, h2⟩
      rw [he, ← Nat.add_assoc]
      simpa [Instr.loadAt, Instr.sureAddr] using h1
    · exact (no_get hg).elim
  · exact (no_get hg).elim

/-! ### Elements -/
theorem enc_length : ∀ (k : EK) (x : k.α), (k.enc x).length = k.size
  | .int _, _ | .bool, _ | .str, _ | .seq _, _ => rfl
  | .pair a b, p => by simp [EK.enc, EK.size, enc_length a, enc_length b]

theorem size_pos : ∀ k : EK, 0 < k.size
  | .int _ | .bool | .str | .seq _ => Nat.one_pos
  | .pair a b => by have := size_pos a; simp [EK.size]; omega

theorem dec_enc : ∀ (k : EK) (cs : List AV) (x : k.α), k.dec cs = some x → k.enc x = cs
  | .int k, cs, x, h => by
    simp only [EK.dec] at h
    unfold decInt at h
    split at h
    · split at h
      · rename_i hk; subst hk; cases h; rfl
      · cases h
    · cases h
  | .bool, cs, x, h => by
    simp only [EK.dec] at h
    unfold decBool at h
    split at h
    · cases h; rfl
    · cases h
  | .str, cs, x, h => by
    simp only [EK.dec] at h
    unfold decStr at h
    split at h
    · cases h; rfl
    · cases h
  | .seq e, cs, x, h => by
    simp only [EK.dec] at h
    unfold decSeq at h
    split at h
    · split at h
      · rename_i hk; subst hk; cases h; rfl
      · cases h
    · cases h
  | .pair a b, cs, p, h => by
    simp only [EK.dec] at h
    split at h
    · rename_i x y h1 h2
      cases h
      simp only [EK.enc, dec_enc a _ _ h1, dec_enc b _ _ h2, List.take_append_drop]
    · cases h

theorem chunks_get (z : Nat) : ∀ (n : Nat) (cs : List AV) (i : Nat) (c : List AV), (chunks z n cs)[i]? = some c → i < n ∧ c = (cs.drop (i * z)).take z
  | 0, cs, i, c, h => by simp [chunks] at h
  | n + 1, cs, 0, c, h => by simp [chunks] at h; simp [h]
  | n + 1, cs, i + 1, c, h => by
    simp only [chunks, List.getElem?_cons_succ] at h
    obtain ⟨h1, h2⟩ := chunks_get z n _ i c h
    refine ⟨by omega, ?_⟩
    rw [h2, List.drop_drop]; congr 2; rw [Nat.succ_mul]; omega

theorem chunks_length (z : Nat) : ∀ (n : Nat) (cs : List AV), (chunks z n cs).length = n
  | 0, _ => rfl
  | n + 1, cs => by simp [chunks, chunks_length z n]

theorem decAll_get (k : EK) : ∀ (l : List (List AV)) (xs : List k.α), decAll k l = some xs → xs.length = l.length ∧ ∀ (i : Nat) (x : k.α), xs[i]? = some x → ∃ c, l[i]? = some c ∧ k.dec c = some x
  | [], xs, h => by simp [decAll] at h; subst h; simp
  | c :: l, xs, h => by
    simp only [decAll] at h
    split at h
    · rename_i y ys h1 h2
      cases h
      obtain ⟨h3, h4⟩ := decAll_get k l ys h2
      refine ⟨by simp [h3], fun i x hx => ?_⟩
      cases i with
      | zero => simp at hx; subst hx; exact ⟨c, by simp, h1⟩
      | succ i => simpa using h4 i x (by simpa using hx)
    · cases h

theorem elems_ok {e : TypeId} {n : Nat} {cs : List AV} {k : EK} {xs : List k.α} (h : elems P e n cs = some ⟨k, xs⟩) :
    sizeT P e = some k.size ∧ cs.length = n * k.size ∧ xs.length = n ∧ ∀ (i : Nat) (x : k.α), xs[i]? = some x → k.enc x = (cs.drop (i * k.size)).take k.size := by
  unfold elems at h
  split at h
  · rename_i k' z hk hz
    split at h
    · rename_i hc
      simp only [Bool.and_eq_true, decide_eq_true_eq] at hc
      obtain ⟨rfl, hl⟩ := hc
      obtain ⟨ys, hy, he⟩ := Option.map_eq_some_iff.1 h
      cases he
      obtain ⟨h1, h2⟩ := decAll_get _ _ _ hy
      refine ⟨hz, hl, by rw [h1, chunks_length], fun i x hx => ?_⟩
      obtain ⟨c, h3, h4⟩ := h2 i x hx
      rw [dec_enc _ _ _ h4, (chunks_get _ _ _ _ _ h3).2]
    · cases h
  · cases h

theorem run_indexAt {t e : TypeId} {A : Option Addr} {n c z : Nat} {k : IntKind} {i : Int} (hu : P.underlying t = some (.slice e)) (hz : sizeT P e = some z) (h0 : 0 ≤ i) (h1 : i < n) {ad : Addr} (hA : A = some ad) :
    (Instr.indexAt t (.slice A n c) (.int k i)).run P w = .ok (.pointer (some (ad.add (i.toNat * z)))) w := by
  subst hA
  simp [Instr.indexAt, asIntOf, run_underlying hu, run_sizeT hz, h0, h1]

theorem run_indexAt_arr {t e : TypeId} {ad : Addr} {n z : Nat} {k : IntKind} {i : Int} (hu : P.underlying t = some (.array n e)) (hz : sizeT P e = some z) (h0 : 0 ≤ i) (h1 : i < n) :
    (Instr.indexAt t (.pointer (some ad)) (.int k i)).run P w = .ok (.pointer (some (ad.add (i.toNat * z)))) w := by
  simp [Instr.indexAt, asIntOf, run_underlying hu, run_sizeT hz, h0, h1, Instr.sureAddr]

theorem pim_of_reads {b off : Nat} {cs : List AV} (hS : ¬ S b) (hlt : b < w.heap.size) (h : ReadsAt w S N b off cs) : Rel w S N (.pim cs) (.pointer (some ⟨b, off, none⟩)) := by
  refine .pim cs b off (fun j => (w.cell? ⟨b, off + j, none⟩).getD undef) hS hlt (fun j hj => ?_) (fun j a ha => ?_)
  · obtain ⟨v, h1, _⟩ := h j _ (List.getElem?_eq_getElem hj)
    rw [h1]; rfl
  · obtain ⟨v, h1, h2⟩ := h j a ha
    rw [h1]; exact h2

theorem indexAddrV_ok (h : Mem E st w N) {t : TypeId} {x i v : AV} {vx vi : Value} (hx : Rel w (SS E.F N st) N x vx) (hi : Rel w (SS E.F N st) N i vi) (hg : (indexAddrV P st t x i).get = some v) :
    ∃ v', (Instr.indexAt t vx vi).run P w = .ok v' w ∧ Rel w (SS E.F N st) N v v' := by
  unfold indexAddrV at hg
  split at hg
  · rename_i e k xs ki i hu
    obtain rfl := rel_int hi
    split at hg
    · rename_i hz
      obtain ⟨h0, hg⟩ := need_get hg
      obtain ⟨y, hy, hg⟩ := at_get hg
      obtain rfl := ret_get hg
      have h0' : 0 ≤ i := by simpa using h0
      have hlt : i.toNat < xs.length := (List.getElem?_eq_some_iff.1 hy).1
      cases hx with
      | seq0 _ c A => simp at hlt
      | seq _ _ b off c vs hc hS hb h1 h2 =>
        refine ⟨_, run_indexAt hu hz h0' (by omega) rfl, ?_⟩
        rw [Addr.add_lit]
        refine .pim _ b _ (fun j => vs i.toNat j) hS hb (fun j hj => ?_) (fun j a ha => h2 _ _ _ _ hy ha)
        rw [Nat.add_assoc]; exact h1 _ _ hlt (by rw [enc_length] at hj; exact hj)
    · exact (no_get hg).elim
  · rename_i e l ki i hu
    obtain rfl := rel_int hi
    split at hg
    · rename_i k xs hl
      split at hg
      · rename_i hz
        obtain ⟨h0, hg⟩ := need_get hg
        obtain rfl := ret_get hg
        simp only [Bool.and_eq_true, decide_eq_true_eq] at h0
        cases hx with | whole _ ni c A hn hh => ?_
        obtain ⟨ni', hn', hlen, hesz, _⟩ := h.blks l _ hl
        rw [hn] at hn'; cases hn'
        rcases hh with ⟨h1, _⟩ | ⟨b, base, cs, T, fr, h1, h2, h3, h4, h5⟩
        · omega
        · refine ⟨_, run_indexAt hu hz h0.1 (by omega) h2, ?_⟩
          rw [Addr.add_lit]
          have := Rel.rptr (w := w) (S := SS E.F N st) l i.toNat 0 ni b base hn h1
          rw [hesz] at this ⊢
          rw [Nat.zero_mul, Nat.add_zero]; exact this
      · exact (no_get hg).elim
    · exact (no_get hg).elim
  · rename_i e l o n ki i hu
    obtain rfl := rel_int hi
    split at hg
    · rename_i k xs hl
      split at hg
      · rename_i hz
        obtain ⟨h0, hg⟩ := need_get hg
        obtain rfl := ret_get hg
        simp only [Bool.and_eq_true, decide_eq_true_eq] at h0
        cases hx with | own _ _ _ ni c A hn hol hh => ?_
        obtain ⟨ni', hn', hlen, hesz, _⟩ := h.blks l _ hl
        rw [hn] at hn'; cases hn'
        rcases hh with ⟨h1, _⟩ | ⟨b, base, cs, T, fr, h1, h2, h3, h4, h5⟩
        · omega
        · refine ⟨_, run_indexAt hu hz h0.1 (by omega) h2, ?_⟩
          rw [Addr.add_lit]
          have := Rel.rptr (w := w) (S := SS E.F N st) l (o + i.toNat) 0 ni b base hn h1
          rw [hesz] at this ⊢
          rw [Nat.add_mul, Nat.add_zero, ← Nat.add_assoc] at this; exact this
      · exact (no_get hg).elim
    · exact (no_get hg).elim
  · rename_i n e cs ki i hu
    obtain rfl := rel_int hi
    split at hg
    · exact (no_get hg).elim
    rename_i z hz
    split at hg
    · rename_i k xs hel
      obtain ⟨hz', hlc, hlx, hxs⟩ := elems_ok hel
      rw [hz] at hz'; cases hz'
      obtain ⟨h0, hg⟩ := need_get hg
      obtain ⟨y, hy, hg⟩ := at_get hg
      obtain rfl := ret_get hg
      have h0' : 0 ≤ i := by simpa using h0
      have hlt : i.toNat < xs.length := (List.getElem?_eq_some_iff.1 hy).1
      cases hx with | pim _ b off vs hS hb h1 h2 => ?_
      refine ⟨_, run_indexAt_arr hu hz h0' (by omega), ?_⟩
      rw [Addr.add_lit]
      refine pim_of_reads hS hb ?_
      rw [hxs _ _ hy]
      have hr : ReadsAt w (SS E.F N st) N b off cs := fun j a ha => ⟨vs j, h1 j (List.getElem?_eq_some_iff.1 ha).1, h2 j a ha⟩
      exact ((hr.take _).drop _).take _
    · exact (no_get hg).elim
  · rename_i n e l o ki i hu
    obtain rfl := rel_int hi
    split at hg
    · rename_i z hz
      obtain ⟨h0, hg⟩ := need_get hg
      obtain rfl := ret_get hg
      simp only [Bool.and_eq_true, decide_eq_true_eq] at h0
      cases hx with | ptr _ _ ni b base hn hb => ?_
      refine ⟨_, run_indexAt_arr hu hz h0.1 h0.2, ?_⟩
      rw [Addr.add_lit, Nat.add_assoc]
      exact .ptr _ _ ni b base hn hb
    · exact (no_get hg).elim
  · exact (no_get hg).elim
end
end Go.Abs
