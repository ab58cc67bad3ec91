/- The abstract machine: indexing, slice expressions, lengths, the least and the greatest. Conditions: none. -/
import Derived.Test.YtpiphiieflnabaaDoorAbs5
namespace Go.Abs
section
variable {P : Program} {w w1 : World} {S : Nat → Prop} {N : Names} {E : Fix} {st : Store}

theorem headV_ok {t : TypeId} {cs : List AV} {v : AV} {u : Value} (h : RelC P w S N t cs u) (hg : (headV P t cs).get = some v) : Rel w S N v u := by
  unfold headV at hg
  split at hg
  · rename_i ha
    obtain rfl := ret_get hg
    obtain ⟨vs, rfl, h1, h2⟩ := h.agg ha
    exact .agg _ _ h1.symm h2
  · rename_i ha
    obtain rfl := ret_get hg
    obtain ⟨a, h1, h2⟩ := h.one ha
    cases h1; exact h2
  · exact (no_get hg).elim

theorem getElem?_mk (l : List UInt8) (i : Nat) : (⟨l.toArray⟩ : ByteArray)[i]? = l[i]? := by
  by_cases h : i < l.length
  · rw [ByteArray.getElem?_lt' _ _ (by simpa [ByteArray.size] using h), List.getElem?_eq_getElem h]; rfl
  · rw [ByteArray.getElem?_ge' _ _ (by simpa [ByteArray.size] using h), List.getElem?_eq_none (by omega)]

theorem indexV_ok {t : TypeId} {x i v : AV} {vx vi : Value} (hx : Rel w S N x vx) (hi : Rel w S N i vi) (hg : (indexV P t x i).get = some v) :
    ∃ v', (Instr.index t vx vi).run P w1 = .ok v' w1 ∧ Rel w S N v v' := by
  unfold indexV at hg
  split at hg
  · rename_i s ki i hu
    obtain rfl := rel_int hi; obtain rfl := rel_str hx
    obtain ⟨h0, hg⟩ := need_get hg
    obtain ⟨y, hy, hg⟩ := at_get hg
    obtain rfl := ret_get hg
    have h0' : 0 ≤ i := by simpa using h0
    refine ⟨_, ?_, .int _ _⟩
    simp only [Instr.index, asIntOf, Sem.run_bind, Sem.run_pure, Result.andThen_ok, run_underlying hu, if_pos h0', getElem?_mk, hy]
  · rename_i n e cs ki i hu
    obtain rfl := rel_int hi
    split at hg
    · rename_i k xs hel
      obtain ⟨hz, hlc, hlx, hxs⟩ := elems_ok hel
      obtain ⟨h0, hg⟩ := need_get hg
      obtain ⟨y, hy, hg⟩ := at_get hg
      have h0' : 0 ≤ i := by simpa using h0
      have hlt : i.toNat < xs.length := (List.getElem?_eq_some_iff.1 hy).1
      cases hx with | agg _ vs hl hr => ?_
      have hle : i.toNat * k.size + k.size ≤ cs.length := by
        rw [hlc, ← Nat.succ_mul]; exact Nat.mul_le_mul_right _ (by omega)
      have hb : ∃ b, isAggT P e = some b ∧ (b = false → k.size = 1) := by
        unfold headV at hg
        split at hg
        · rename_i ha; exact ⟨true, ha, by simp⟩
        · rename_i ha he
          refine ⟨false, ha, fun _ => ?_⟩
          have := enc_length k y; rw [he] at this; exact this.symm
        · exact (no_get hg).elim
      obtain ⟨b, hb, hb1⟩ := hb
      obtain ⟨u, h1, h2⟩ := run_part (P := P) (w := w) (S := S) (N := N) (o := i.toNat * k.size) hb hz hle hl.symm hb1 hr w1
      refine ⟨u, ?_, headV_ok (by rw [hxs _ _ hy]; exact h2) hg⟩
      have hin : 0 ≤ i ∧ i < n := ⟨h0', by omega⟩
      simp only [Instr.index, asIntOf, Sem.run_bind, Sem.run_pure, Result.andThen_ok, run_underlying hu, if_pos hin, run_sizeT hz, h1]
    · exact (no_get hg).elim
  · exact (no_get hg).elim

theorem boundsV_ok {α : Type} {len : Nat} {lo hi : Option AV} {vlo vhi : Option Value} {k : Option Nat → Option Nat → Tr α} {r : α}
    (hlo : ∀ a, lo = some a → ∃ v, vlo = some v ∧ Rel w S N a v) (hlo' : lo = none → vlo = none) (hhi : ∀ a, hi = some a → ∃ v, vhi = some v ∧ Rel w S N a v) (hhi' : hi = none → vhi = none)
    (hg : (boundsV len lo hi k).get = some r) :
    ∃ l h, (k l h).get = some r ∧ l.getD 0 ≤ h.getD len ∧ h.getD len ≤ len ∧
      ∀ (isSl : Bool) (cap : Nat), len ≤ cap → (Instr.sliceBounds isSl len cap vlo vhi none).run P w1 = .ok (l.getD 0, h.getD len, cap) w1 := by
  unfold boundsV at hg
  split at hg
  · obtain rfl := hlo' rfl; obtain rfl := hhi' rfl
    exact ⟨none, none, hg, Nat.zero_le _, Nat.le_refl _, fun _ _ _ => by simp [Instr.sliceBounds]⟩
  · rename_i kl l
    obtain ⟨v, rfl, hv⟩ := hlo _ rfl; obtain rfl := hhi' rfl; obtain rfl := rel_int hv
    obtain ⟨h0, hg⟩ := need_get hg
    simp only [Bool.and_eq_true, decide_eq_true_eq] at h0
    refine ⟨some l.toNat, none, hg, ?_, Nat.le_refl _, fun _ cap hc => ?_⟩
    · simp only [Option.getD]; omega
    · simp [Instr.sliceBounds, Instr.sliceBound, asIntOf, h0]
  · rename_i kh h
    obtain ⟨v, rfl, hv⟩ := hhi _ rfl; obtain rfl := hlo' rfl; obtain rfl := rel_int hv
    obtain ⟨h0, hg⟩ := need_get hg
    simp only [Bool.and_eq_true, decide_eq_true_eq] at h0
    refine ⟨none, some h.toNat, hg, Nat.zero_le _, ?_, fun _ cap hc => ?_⟩
    · simp only [Option.getD]; omega
    · have : h ≤ (cap : Int) := by omega
      simp [Instr.sliceBounds, Instr.sliceBound, asIntOf, h0, this]
  · rename_i kl l kh h
    obtain ⟨v, rfl, hv⟩ := hlo _ rfl; obtain ⟨u, rfl, hu⟩ := hhi _ rfl; obtain rfl := rel_int hv; obtain rfl := rel_int hu
    obtain ⟨h0, hg⟩ := need_get hg
    simp only [Bool.and_eq_true, decide_eq_true_eq] at h0
    refine ⟨some l.toNat, some h.toNat, hg, ?_, ?_, fun _ cap hc => ?_⟩
    · simp only [Option.getD]; omega
    · simp only [Option.getD]; omega
    · have h1 : 0 ≤ h ∧ h ≤ (cap : Int) := by omega
      have h2 : 0 ≤ l ∧ l ≤ ((h.toNat : Nat) : Int) := by omega
      simp only [Instr.sliceBounds, Instr.sliceBound, asIntOf, Sem.run_bind, Sem.run_pure, Result.andThen_ok, if_pos h1, if_pos h2, Option.getD]
  · exact (no_get hg).elim

theorem cutL_eq {α : Type} (xs : List α) (l h : Option Nat) : cutL xs l h = (xs.drop (l.getD 0)).take (h.getD xs.length - l.getD 0) := by
  cases l <;> cases h <;> simp [cutL]
  rw [List.take_of_length_le (by simp)]

theorem cutN_eq (n : Nat) (l h : Option Nat) : cutN n l h = (l.getD 0, h.getD n - l.getD 0) := by
  cases l <;> cases h <;> simp [cutN]

/-- A view of a view. -/
theorem Hdr.cut {ni : NI} {o n c l h : Nat} {A : Option Addr} (hh : Hdr w ni o n c A) (hl : l ≤ h) (hn : h ≤ n) :
    Hdr w ni (o + l) (h - l) (c - l) (if c = l then A else A.map (·.add (l * ni.esz))) := by
  rcases hh with ⟨h1, h2⟩ | ⟨b, base, cs, T, fr, h1, h2, h3, h4, h5⟩
  · exact .inl ⟨by omega, by omega⟩
  · by_cases hc : c = l
    · exact .inl ⟨by omega, by omega⟩
    · rw [if_neg hc, h2]
      refine .inr ⟨b, base, cs, T, fr, h1, ?_, h3, ?_, by omega⟩
      · rw [Option.map_some, Addr.add_lit, Nat.add_mul, ← Nat.add_assoc]
      · have : o + l + (c - l) = o + c := by omega
        rw [this]; exact h4

theorem sliceV_ok (h : Mem E st w N) {t : TypeId} {x v : AV} {lo hi mx : Option AV} {vx : Value} {vlo vhi vmx : Option Value} (hx : Rel w (SS E.F N st) N x vx)
    (hlo : ∀ a, lo = some a → ∃ v, vlo = some v ∧ Rel w (SS E.F N st) N a v) (hlo' : lo = none → vlo = none) (hhi : ∀ a, hi = some a → ∃ v, vhi = some v ∧ Rel w (SS E.F N st) N a v) (hhi' : hi = none → vhi = none)
    (hmx : mx = none → vmx = none) (hg : (sliceV P st t x lo hi mx).get = some v) :
    ∃ v', (Instr.sliceAt t vx vlo vhi vmx).run P w = .ok v' w ∧ Rel w (SS E.F N st) N v v' := by
  unfold sliceV at hg
  split at hg
  · rename_i s hu
    obtain rfl := rel_str hx
    obtain rfl := hmx rfl
    obtain ⟨l, hh, hg, h1, h2, hr⟩ := boundsV_ok (P := P) (w1 := w) hlo hlo' hhi hhi' hg
    obtain rfl := ret_get hg
    refine ⟨.string ⟨(cutL s l hh).toArray⟩, ?_, .str _⟩
    have hb := hr false s.length (Nat.le_refl _)
    simp only [Instr.sliceAt, Sem.run_bind, run_underlying hu, Result.andThen_ok, Instr.slice, Option.isSome_none, Bool.false_eq_true, if_false, size_mk, hb, Sem.run_pure, ByteArray.extract_mk, cutL_eq]
  · rename_i e k xs hu
    obtain rfl := hmx rfl
    obtain ⟨l, hh, hg, h1, h2, hr⟩ := boundsV_ok (P := P) (w1 := w) hlo hlo' hhi hhi' hg
    split at hg
    · rename_i hz
      obtain rfl := ret_get hg
      have hrun : ∀ A c, xs.length ≤ c → (Instr.sliceAt t (.slice A xs.length c) vlo vhi none).run P w =
          .ok (.slice (if c = l.getD 0 then A else A.map (·.add (l.getD 0 * k.size))) (hh.getD xs.length - l.getD 0) (c - l.getD 0)) w := by
        intro A c hc
        have hb := hr true c hc
        simp only [Instr.sliceAt, Sem.run_bind, run_underlying hu, Result.andThen_ok, Instr.slice, hb, run_sizeT hz, Sem.run_pure]
      rw [cutL_eq]
      have hlen : ((xs.drop (l.getD 0)).take (hh.getD xs.length - l.getD 0)).length = hh.getD xs.length - l.getD 0 := by simp; omega
      cases hx with
      | seq0 _ c A =>
        have := hrun A c (by simp)
        refine ⟨_, this, ?_⟩
        simp only [List.length_nil] at h2
        have e1 : hh.getD ([] : List k.α).length - l.getD 0 = 0 := by simp only [List.length_nil]; omega
        rw [e1]; simp only [List.drop_nil, List.take_nil]; exact .seq0 _ _ _
      | seq _ _ b off c vs hc hS hb hv1 hv2 =>
        refine ⟨_, hrun _ c hc, ?_⟩
        by_cases he : hh.getD xs.length - l.getD 0 = 0
        · rw [he]; simp only [List.take_zero]; exact .seq0 _ _ _
        · rw [if_neg (by omega), Option.map_some, Addr.add_lit]
          have : Rel w (SS E.F N st) N (.seq k ((xs.drop (l.getD 0)).take (hh.getD xs.length - l.getD 0))) (.slice (some ⟨b, off + l.getD 0 * k.size, none⟩) ((xs.drop (l.getD 0)).take (hh.getD xs.length - l.getD 0)).length (c - l.getD 0)) := by
            refine .seq k _ b _ _ (fun i j => vs (l.getD 0 + i) j) (by rw [hlen]; omega) hS hb (fun i j hi hj => ?_) (fun i y j a hy ha => ?_)
            · rw [hlen] at hi
              have := hv1 (l.getD 0 + i) j (by omega) hj
              rw [Nat.add_mul, Nat.add_assoc] at this
              rw [Nat.add_assoc]; exact this
            · rw [List.getElem?_take] at hy
              split at hy
              · rw [List.getElem?_drop] at hy; exact hv2 _ _ _ _ hy ha
              · cases hy
          rw [hlen] at this; exact this
    · exact (no_get hg).elim
  · rename_i e r hu
    obtain rfl := hmx rfl
    split at hg
    · rename_i k xs z hl hz
      split at hg
      · rename_i hzk
        subst hzk
        obtain ⟨l, hh, hg, h1, h2, hr⟩ := boundsV_ok (P := P) (w1 := w) hlo hlo' hhi hhi' hg
        obtain rfl := ret_get hg
        cases hx with | whole _ ni c A hn hd => ?_
        obtain ⟨ni', hn', hlen, hesz, _⟩ := h.blks r _ hl
        rw [hn] at hn'; cases hn'
        have hc : ni.len ≤ c := by
          rcases hd with ⟨e1, e2⟩ | ⟨_, _, _, _, _, _, _, _, _, e5⟩
          · omega
          · exact e5
        have hb := hr true c (by omega)
        rw [hlen]
        refine ⟨_, by simp only [Instr.sliceAt, Sem.run_bind, run_underlying hu, Result.andThen_ok, Instr.slice, hb, run_sizeT hz, Sem.run_pure]; rfl, ?_⟩
        rw [cutN_eq]
        refine .own r _ _ ni _ _ hn (by simp only; omega) ?_
        have := hd.cut (l := l.getD 0) (h := hh.getD xs.length) h1 (by omega)
        rw [hesz, Nat.zero_add] at this; exact this
      · exact (no_get hg).elim
    · exact (no_get hg).elim
  · rename_i e r o n hu
    obtain rfl := hmx rfl
    split at hg
    · rename_i k xs z hl hz
      split at hg
      · rename_i hzk
        subst hzk
        obtain ⟨l, hh, hg, h1, h2, hr⟩ := boundsV_ok (P := P) (w1 := w) hlo hlo' hhi hhi' hg
        obtain rfl := ret_get hg
        cases hx with | own _ _ _ ni c A hn hol hd => ?_
        obtain ⟨ni', hn', hlen, hesz, _⟩ := h.blks r _ hl
        rw [hn] at hn'; cases hn'
        have hc : n ≤ c := by
          rcases hd with ⟨e1, e2⟩ | ⟨_, _, _, _, _, _, _, _, _, e5⟩
          · omega
          · exact e5
        have hb := hr true c (by omega)
        refine ⟨_, by simp only [Instr.sliceAt, Sem.run_bind, run_underlying hu, Result.andThen_ok, Instr.slice, hb, run_sizeT hz, Sem.run_pure]; rfl, ?_⟩
        rw [cutN_eq]
        refine .own r _ _ ni _ _ hn (by simp only; omega) ?_
        have := hd.cut (l := l.getD 0) (h := hh.getD n) h1 (by omega)
        rw [hesz] at this; exact this
      · exact (no_get hg).elim
    · exact (no_get hg).elim
  · rename_i n e cs hu
    obtain rfl := hmx rfl
    split at hg
    · exact (no_get hg).elim
    rename_i z hz
    split at hg
    · rename_i k xs hel
      obtain ⟨hz', hlc, hlx, hxs⟩ := elems_ok hel
      rw [hz] at hz'; cases hz'
      obtain ⟨l, hh, hg, h1, h2, hr⟩ := boundsV_ok (P := P) (w1 := w) hlo hlo' hhi hhi' hg
      obtain rfl := ret_get hg
      cases hx with | pim _ b off vs hS hlt hv1 hv2 => ?_
      have hb := hr false n (Nat.le_refl _)
      refine ⟨_, by simp only [Instr.sliceAt, Sem.run_bind, run_underlying hu, Result.andThen_ok, Instr.sureAddr, hb, run_sizeT hz, Sem.run_pure]; rfl, ?_⟩
      rw [cutL_eq, hlx]
      have hlen : ((xs.drop (l.getD 0)).take (hh.getD n - l.getD 0)).length = hh.getD n - l.getD 0 := by simp; omega
      by_cases he : hh.getD n - l.getD 0 = 0
      · rw [he]; simp only [List.take_zero]; exact .seq0 _ _ _
      · rw [if_neg (by omega), Addr.add_lit]
        have : Rel w (SS E.F N st) N (.seq k ((xs.drop (l.getD 0)).take (hh.getD n - l.getD 0))) (.slice (some ⟨b, off + l.getD 0 * k.size, none⟩) ((xs.drop (l.getD 0)).take (hh.getD n - l.getD 0)).length (n - l.getD 0)) := by
          have hct : cs.length ≥ n * k.size := by have := hlc; simp at this; omega
          refine .seq k _ b _ _ (fun i j => vs ((l.getD 0 + i) * k.size + j)) (by rw [hlen]; omega) hS hlt (fun i j hi hj => ?_) (fun i y j a hy ha => ?_)
          · rw [hlen] at hi
            have hlt2 : (l.getD 0 + i) * k.size + j < n * k.size := by
              have : (l.getD 0 + i) * k.size + k.size ≤ n * k.size := by rw [← Nat.succ_mul]; exact Nat.mul_le_mul_right _ (by omega)
              omega
            have := hv1 ((l.getD 0 + i) * k.size + j) (by omega)
            rw [Nat.add_mul, Nat.add_assoc] at this
            rw [Nat.add_assoc, Nat.add_mul, Nat.add_assoc]; exact this
          · rw [List.getElem?_take] at hy
            split at hy
            · rw [List.getElem?_drop] at hy
              rw [hxs _ _ hy] at ha
              rw [List.getElem?_take] at ha
              split at ha
              · rw [List.getElem?_drop, List.getElem?_take] at ha
                split at ha
                · exact hv2 _ _ ha
                · cases ha
              · cases ha
            · cases hy
        rw [hlen] at this; exact this
    · exact (no_get hg).elim
  · exact (no_get hg).elim

theorem lenV_ok (h : Mem E st w N) {t ty : TypeId} {x v : AV} {vx : Value} (hx : Rel w (SS E.F N st) N x vx) (hg : (lenV P st t x).get = some v) :
    ∃ v', (Builtin.len_ #[t] ty #[vx]).run P w = .ok v' w ∧ Rel w (SS E.F N st) N v v' := by
  unfold lenV at hg
  split at hg
  · rename_i s hu
    obtain rfl := rel_str hx; obtain rfl := ret_get hg
    refine ⟨_, ?_, .int _ _⟩
    simp [Builtin.len_, run_underlying hu, goInt, size_mk]
  · rename_i e k xs hu
    obtain rfl := ret_get hg
    cases hx <;> (refine ⟨_, ?_, .int _ _⟩; simp [Builtin.len_, run_underlying hu, goInt])
  · rename_i e l hu
    split at hg
    · rename_i k xs hl
      obtain rfl := ret_get hg
      cases hx with | whole _ ni c A hn hd => ?_
      obtain ⟨ni', hn', hlen, _⟩ := h.blks l _ hl
      rw [hn] at hn'; cases hn'
      refine ⟨_, ?_, .int _ _⟩
      simp [Builtin.len_, run_underlying hu, goInt, hlen]
    · exact (no_get hg).elim
  · rename_i e l o n hu
    obtain rfl := ret_get hg
    cases hx with | own _ _ _ ni c A hn hol hd => ?_
    refine ⟨_, ?_, .int _ _⟩
    simp [Builtin.len_, run_underlying hu, goInt]
  · rename_i e hu
    obtain rfl := ret_get hg
    obtain rfl := rel_lit hx
    refine ⟨_, ?_, .int _ _⟩
    simp [Builtin.len_, run_underlying hu, goInt]
  · rename_i n e hu
    obtain rfl := ret_get hg
    refine ⟨_, ?_, .int _ _⟩
    simp [Builtin.len_, run_underlying hu, goInt]
  · exact (no_get hg).elim

theorem minV_ok {mx : Bool} {xs : List AV} {vs : List Value} {v : AV} {ts : Array TypeId} {ty : TypeId} (hl : xs.length = vs.length)
    (hr : ∀ (j : Nat) (a : AV) (u : Value), xs[j]? = some a → vs[j]? = some u → Rel w S N a u) (hg : minV mx xs = some v) :
    ∃ v', (if mx then Builtin.max_ ts ty vs.toArray else Builtin.min_ ts ty vs.toArray).run P w1 = .ok v' w1 ∧ Rel w S N v v' := by
  unfold minV at hg
  split at hg
  · rename_i k a k' b
    split at hg
    · rename_i hk; subst hk; cases hg
      match vs, hl with
      | [u0, u1], _ =>
        obtain rfl := rel_int (hr 0 _ u0 rfl rfl)
        obtain rfl := rel_int (hr 1 _ u1 rfl rfl)
        refine ⟨_, ?_, .int _ _⟩
        cases mx <;> simp [Builtin.min_, Builtin.max_, Builtin.min2, Builtin.max2]
    · cases hg
  · rename_i k a k' b k'' c
    split at hg
    · rename_i hk
      simp only [Bool.and_eq_true, decide_eq_true_eq] at hk
      obtain ⟨rfl, rfl⟩ := hk; cases hg
      match vs, hl with
      | [u0, u1, u2], _ =>
        obtain rfl := rel_int (hr 0 _ u0 rfl rfl)
        obtain rfl := rel_int (hr 1 _ u1 rfl rfl)
        obtain rfl := rel_int (hr 2 _ u2 rfl rfl)
        refine ⟨_, ?_, .int _ _⟩
        cases mx <;> simp [Builtin.min_, Builtin.max_, Builtin.min2, Builtin.max2]
    · cases hg
  · cases hg
end
end Go.Abs
