/- The abstract machine: append and conversions. Conditions: none. -/
import Derived.Test.YtpiphiieflnabaaDoorAbs11
import Derived.Laws.AppendOwn
import Derived.Laws.BytesString
namespace Go.Abs
section
variable {P : Program} {w w' : World} {S : Nat → Prop} {N : Names} {E : Fix} {st : Store}

def notInt (P : Program) (tx : TypeId) : Prop := ∃ d, P.underlying tx = some d ∧ (d = .string ∨ ∃ q, d = .slice q)

theorem run_append_in {t tx ty e : TypeId} {A : Option Addr} {n c m : Nat} {vx : Value} {i : TypeInfo} {news : List Value} (hu : P.underlying t = some (.slice e)) (hx : notInt P tx) (hi : P.info? e = some i)
    (hlen : (Builtin.lenOf vx).run P w = .ok m w) (hnews : (Builtin.firstCells i.size m vx).run P w = .ok news.toArray w) (hfit : n + m ≤ c)
    (hst : ∀ a, A = some a → (storeCells (a.add (n * i.size)) news).run P w = .ok () w') (hno : A = none → w' = w) :
    (Builtin.append_ #[t, tx] ty #[.slice A n c, vx]).run P w = .ok (.slice A (n + m) c) w' := by
  obtain ⟨d, hd, hk⟩ := hx
  have hz : (d matches .int _) = false := by rcases hk with rfl | ⟨q, rfl⟩ <;> rfl
  cases A with
  | none =>
    obtain rfl := hno rfl
    rcases hk with rfl | ⟨q, rfl⟩ <;> simp [Builtin.append_, run_underlying hu, run_underlying hd, sizeOf, typeInfo, hi, hlen, hfit, hnews]
  | some a =>
    have := hst a rfl
    rcases hk with rfl | ⟨q, rfl⟩ <;> simp [Builtin.append_, run_underlying hu, run_underlying hd, sizeOf, typeInfo, hi, hlen, hfit, hnews, this]

theorem run_append_out {t tx ty e : TypeId} {A : Option Addr} {n c m : Nat} {vx : Value} {i : TypeInfo} {z : Value} {olds news : List Value} (hu : P.underlying t = some (.slice e)) (hx : notInt P tx) (hi : P.info? e = some i) (hz : i.zero = some z)
    (hlen : (Builtin.lenOf vx).run P w = .ok m w) (holds : (Builtin.firstCells i.size n (.slice A n c)).run P w.drew = .ok olds.toArray w.drew) (hnews : (Builtin.firstCells i.size m vx).run P w.drew = .ok news.toArray w.drew)
    (hfit : c < n + m) (h63 : n + m ≤ 4294967296) (hb : i.bytes ≤ 4096) :
    (Builtin.append_ #[t, tx] ty #[.slice A n c, vx]).run P w = .ok (.slice (some ⟨w.heap.size, 0, none⟩) (n + m) (grownCap w (n + m) c e))
      (w.drew.alloc (.cells (olds.toArray ++ news.toArray ++ Builtin.zeroCells z.cells (grownCap w (n + m) c e - (n + m))) e)) := by
  obtain ⟨d, hd, hk⟩ := hx
  have hn : ¬ (n + m ≤ c) := by omega
  have h63' : ¬ (9223372036854775807 < ((n : Int) + (m : Int))) := by omega
  have hmul : (n + m) * i.bytes ≤ 140737488355328 := by
    have := Nat.mul_le_mul h63 hb; omega
  have h48' : ¬ (281474976710656 < Builtin.nextslicecap (n + m) c * i.bytes) := by have := growslice_fits (by omega : c < n + m) hmul; omega
  rcases hk with rfl | ⟨q, rfl⟩ <;>
    (simp [Builtin.append_, run_underlying hu, run_underlying hd, sizeOf, typeInfo, zeroValue, hi, hz, hlen, hn, h63', h48', Question.forced, holds, hnews, newRow, grownCap]
     congr 2
     apply Array.ext'
     simp [List.append_assoc])

theorem RowRel.append {k : EK} {xs ys : List k.α} {us vs : List Value} (h1 : RowRel w S N k xs us.toArray) (hl : us.length = xs.length * k.size) (h2 : RowRel w S N k ys vs.toArray) (zs : Array Value) :
    RowRel w S N k (xs ++ ys) (us.toArray ++ vs.toArray ++ zs) := by
  intro i x j a hx ha
  have hj : j < k.size := by have := (List.getElem?_eq_some_iff.1 ha).1; rwa [enc_length] at this
  by_cases hi : i < xs.length
  · rw [List.getElem?_append_left hi] at hx
    obtain ⟨v, h3, h4⟩ := h1 i x j a hx ha
    refine ⟨v, ?_, h4⟩
    have hlt : i * k.size + j < us.toArray.size := (Array.getElem?_eq_some_iff.1 h3).1
    rw [Array.getElem?_append_left (by rw [Array.size_append]; omega), Array.getElem?_append_left hlt]; exact h3
  · rw [List.getElem?_append_right (by omega)] at hx
    obtain ⟨v, h3, h4⟩ := h2 _ x j a hx ha
    refine ⟨v, ?_, h4⟩
    have hlt : (i - xs.length) * k.size + j < vs.toArray.size := (Array.getElem?_eq_some_iff.1 h3).1
    have e : i * k.size + j = us.toArray.size + ((i - xs.length) * k.size + j) := by
      rw [List.size_toArray, hl, Nat.sub_mul]
      have : xs.length * k.size ≤ i * k.size := Nat.mul_le_mul_right _ (by omega)
      omega
    rw [e, Array.getElem?_append_left (by rw [Array.size_append]; omega), Array.getElem?_append_right (by omega), Nat.add_sub_cancel_left]; exact h3

theorem pushed_alloc {o : Obj} : Pushed w (w.drew.alloc o) o := ⟨rfl, rfl, rfl, rfl⟩

/-- What follows where the slice grows: the old row is over, a new one holds both. -/
theorem grown_ok (h : Mem E st w N) {e : TypeId} {k : EK} {xs ys : List k.α} {us vs : List Value} {c : Nat} {z : Value} (hz : z.cells.size = k.size)
    (h1 : RowRel w (SS E.F N st) N k xs us.toArray) (hl : us.length = xs.length * k.size) (h2 : RowRel w (SS E.F N st) N k ys vs.toArray) (hl2 : vs.length = ys.length * k.size) :
    ∃ N', Goes E st w N (st ++ [.row k (xs ++ ys)]) (w.drew.alloc (.cells (us.toArray ++ vs.toArray ++ Builtin.zeroCells z.cells (grownCap w (xs.length + ys.length) c e - (xs.length + ys.length))) e)) N' ∧
      Rel (w.drew.alloc (.cells (us.toArray ++ vs.toArray ++ Builtin.zeroCells z.cells (grownCap w (xs.length + ys.length) c e - (xs.length + ys.length))) e)) (SS E.F N' (st ++ [.row k (xs ++ ys)])) N' (.whole st.length)
        (.slice (some ⟨w.heap.size, 0, none⟩) (xs.length + ys.length) (grownCap w (xs.length + ys.length) c e)) := by
  have hge := grownCap_ge w (xs.length + ys.length) c e
  obtain ⟨N', g, hR⟩ := h.newRow (k := k) (xs := xs ++ ys) (c := us.toArray ++ vs.toArray ++ Builtin.zeroCells z.cells (grownCap w (xs.length + ys.length) c e - (xs.length + ys.length))) (cap := grownCap w (xs.length + ys.length) c e) (T := e) pushed_alloc (thaw0 _) (by rw [List.length_append]; exact hge)
    (by
      simp only [Array.size_append, List.size_toArray, size_zeroCells, hz, hl, hl2, ← Nat.add_mul]
      exact Nat.mul_le_mul_right _ (by omega)) (h1.append hl h2 _)
  rw [List.length_append] at hR
  exact ⟨N', g, hR⟩

theorem rel_whole_inv {l : Nat} {A : Option Addr} {n c : Nat} (h : Rel w S N (.whole l) (.slice A n c)) : ∃ ni, N l = some ni ∧ ni.len = n ∧ Hdr w ni 0 n c A := by
  cases h with | whole _ ni _ _ hn hh => exact ⟨ni, hn, rfl, hh⟩

theorem rel_own_inv {l o n : Nat} {A : Option Addr} {m c : Nat} (h : Rel w S N (.own l o n) (.slice A m c)) : ∃ ni, N l = some ni ∧ m = n ∧ o + n ≤ ni.len ∧ Hdr w ni o n c A := by
  cases h with | own _ _ _ ni _ _ hn hl hh => exact ⟨ni, hn, rfl, hl, hh⟩

theorem lim_of {n : Nat} (h : decide (n ≤ LIM) = true) : n ≤ 4294967296 := by have := of_decide_eq_true h; simpa [LIM] using this

theorem appendV_ok (h : Mem E st w N) {t tx ty : TypeId} {s x : AV} {vs vx : Value} {r : AV × Store} (hnt : notInt P tx) (hs : Rel w (SS E.F N st) N s vs) (hx : Rel w (SS E.F N st) N x vx) (hg : (appendV P st t s x).get = some r) :
    ∃ v' w' N', (Builtin.append_ #[t, tx] ty #[vs, vx]).run P w = .ok v' w' ∧ Goes E st w N r.2 w' N' ∧ Rel w' (SS E.F N' r.2) N' r.1 v' := by
  unfold appendV at hg
  split at hg
  · rename_i e hu
    split at hg
    · rename_i l k xs z hrow hseq hz
      split at hg
      · rename_i hcond
        simp only [Bool.and_eq_true, decide_eq_true_eq] at hcond
        obtain ⟨rfl, hsm⟩ := hcond
        obtain ⟨i, zv, hi, hzv, hby, hzs⟩ := small_ok hsm
        have hisz := sizeT_info hz hi
        split at hg
        · rename_i ys hnews
          obtain ⟨hb, hg⟩ := need_get hg
          obtain rfl := ret_get hg
          have hlim := lim_of hb
          obtain ⟨us, hu1, hu2, hu3, hu4, hu5⟩ := newsOf_ok (P := P) h hx hnews
          obtain ⟨A, c, rfl, hread⟩ := asSeq_ok h hs hseq
          obtain ⟨os, ho1, ho2, ho3, ho4⟩ := firstCells_ok (P := P) (c := c) hread
          -- the row by name
          have hname : ∃ ni o xs0, st[l]? = some (.row k xs0) ∧ N l = some ni ∧ Hdr w ni o xs.length c A ∧ xs = (xs0.drop o).take xs.length ∧ o + xs.length ≤ xs0.length := by
            unfold rowName at hrow
            split at hrow
            · obtain rfl : _ = l := by simpa using hrow
              simp only [asSeq] at hseq
              split at hseq
              · rename_i k' xs' hl
                cases hseq
                obtain ⟨ni, q1, _, q2⟩ := rel_whole_inv hs
                exact ⟨ni, 0, xs, hl, q1, q2, by simp, by omega⟩
              · cases hseq
            · rename_i l' o n
              obtain rfl : l' = l := by simpa using hrow
              simp only [asSeq] at hseq
              split at hseq
              · rename_i k' xs' hl
                cases hseq
                obtain ⟨ni, q1, q4, q3, q2⟩ := rel_own_inv hs
                obtain ⟨r1, _⟩ := h.rowAt hl q1
                exact ⟨ni, o, xs', hl, q1, by rw [q4]; exact q2, by rw [q4], by rw [q4]; omega⟩
              · cases hseq
            · cases hrow
          obtain ⟨ni, o, xs0, hl, hn, hh, hxs, hol⟩ := hname
          obtain ⟨r1, r2, b, base, r3, r4⟩ := h.rowAt hl hn
          by_cases hfit : xs.length + ys.length ≤ c
          · -- there is room
            by_cases hv0 : xs.length = 0 ∧ c = 0
            · obtain ⟨q1, rfl⟩ := hv0
              have hy0 : ys.length = 0 := by omega
              obtain rfl : xs = [] := List.length_eq_zero_iff.1 q1
              obtain rfl : ys = [] := List.length_eq_zero_iff.1 hy0
              obtain rfl : us = [] := by simpa using hu1
              have g1 := h.kill l
              have g2 := g1.1.ghost k
              rw [List.length_set] at g2
              refine ⟨_, w, _, run_append_in (news := []) hu hnt hi (hu4 w) (by rw [hisz]; exact hu5 w rfl) hfit (fun a _ => by simp [storeCells]) (fun _ => rfl), by rw [List.append_nil]; exact g1.trans g2, ?_⟩
              exact .whole _ ⟨none, 0, k.size⟩ 0 A (Names.add_same _ _ _) (.inl ⟨rfl, rfl⟩)
            · rcases hh with hh | ⟨b', base', cs, T, fr, e1, e2, e3, e4, e5⟩
              · exact absurd hh hv0
              have hbl : ni.blk = some (b, base) := by
                rcases r3 with r3 | ⟨r3, _⟩
                · exact r3
                · rw [r3] at e1; cases e1
              rw [hbl] at e1; cases e1
              have ht : Thaw fr cs.size := by
                obtain ⟨ni', q1, q2, q3, q4⟩ := h.blks l _ hl
                rw [hn] at q1; cases q1
                rcases q4 with ⟨q4, _⟩ | ⟨b2, base2, c2, T2, fr2, q5, q6, q7, _⟩
                · rw [hbl] at q4; cases q4
                · rw [hbl] at q5; cases q5; rw [e3] at q6; cases q6; exact q7
              rw [r2] at e2 e4
              have hroom : base + o * k.size + xs.length * k.size + us.length ≤ cs.size := by
                rw [hu1]
                have : (o + (xs.length + ys.length)) * k.size ≤ (o + c) * k.size := Nat.mul_le_mul_right _ (by omega)
                rw [Nat.add_mul, Nat.add_mul] at this
                omega
              obtain ⟨w3, c3, s1, s2, s3, s4⟩ := run_stores (P := P) (o := base + o * k.size + xs.length * k.size) us 0 cs w e3 ht (by omega) hu2
              have g := h.renew (blk' := .row k (xs ++ ys)) (ni' := ⟨some (b, base + o * k.size), xs.length + ys.length, k.size⟩) hl rfl hn hbl e3 s2 s3 rfl rfl (fun g => ?_)
              · refine ⟨_, w3, _, run_append_in (news := us) hu hnt hi (hu4 w) (by rw [hisz]; exact hu5 w rfl) hfit (fun a ha => ?_) (fun ha => by rw [e2] at ha; cases ha), g, ?_⟩
                · rw [e2] at ha; cases ha
                  rw [Addr.add_lit, hisz]; exact s1
                · refine .whole _ ⟨some (b, base + o * k.size), xs.length + ys.length, k.size⟩ c A (Names.add_same _ _ _) (.inr ⟨b, base + o * k.size, c3, T, fr, rfl, by rw [e2]; simp, s2.here, ?_, hfit⟩)
                  rw [s3]; simp only [Nat.zero_add]; rw [Nat.add_mul] at e4; omega
              · refine ⟨_, Names.add_same _ _ _, (List.length_append).symm, rfl, .inr ⟨b, base + o * k.size, c3, T, fr, rfl, s2.here, by rw [s3]; exact ht, ?_, fun i2 x2 j a hx2 ha => ?_⟩⟩
                · rw [s3, List.length_append, Nat.add_mul]; rw [hu1] at hroom; omega
                · have hj : j < k.size := by have := (List.getElem?_eq_some_iff.1 ha).1; rwa [enc_length] at this
                  simp only [Nat.add_zero] at s4
                  rw [s4]
                  by_cases hi2 : i2 < xs.length
                  · rw [List.getElem?_append_left hi2] at hx2
                    have hlt : i2 * k.size + k.size ≤ xs.length * k.size := by rw [← Nat.succ_mul]; exact Nat.mul_le_mul_right _ hi2
                    rw [if_neg (by omega)]
                    have hx0 : xs0[o + i2]? = some x2 := by
                      rw [hxs, List.getElem?_take, if_pos hi2, List.getElem?_drop] at hx2; exact hx2
                    obtain ⟨v, hv, hR⟩ := (r4 hbl).2 _ x2 hx0 j a ha
                    obtain ⟨c4, T4, fr4, q1, q2⟩ := cell?_iff.1 hv
                    rw [e3] at q1; cases q1
                    rw [Nat.add_mul] at q2
                    exact ⟨v, by rw [show base + o * k.size + (i2 * k.size + j) = base + (o * k.size + i2 * k.size) + j by omega]; exact q2, hR.grow g⟩
                  · rw [List.getElem?_append_right (by omega)] at hx2
                    obtain ⟨v, hv, hR⟩ := hu3 _ x2 j a hx2 ha
                    have hsub : (i2 - xs.length) * k.size = i2 * k.size - xs.length * k.size := Nat.sub_mul _ _ _
                    have hle : xs.length * k.size ≤ i2 * k.size := Nat.mul_le_mul_right _ (by omega)
                    have hvl : (i2 - xs.length) * k.size + j < us.length := by have := (Array.getElem?_eq_some_iff.1 hv).1; simpa using this
                    rw [if_pos (by omega), show base + o * k.size + (i2 * k.size + j) - (base + o * k.size + xs.length * k.size) = (i2 - xs.length) * k.size + j by omega]
                    exact ⟨v, by simpa using hv, hR.grow g⟩
          · -- it grows
            have hgrow := grown_ok (c := c) (e := e) h (hzs.trans hisz) ho3 ho1 hu3 hu1
            have hrun := run_append_out (ty := ty) (olds := os) (news := us) hu hnt hi hzv (hu4 w) (by rw [hisz]; exact ho4 w.drew rfl) (by rw [hisz]; exact hu5 w.drew rfl) (by omega) hlim hby
            obtain ⟨N1, g1, hR1⟩ := hgrow
            have g2 := g1.1.kill l
            have hset : List.set (st ++ [Blk.row k (xs ++ ys)]) l Blk.dead = List.set st l Blk.dead ++ [Blk.row k (xs ++ ys)] := by
              rw [List.set_append_left _ _ (List.getElem?_eq_some_iff.1 hl).1]
            rw [hset] at g2
            exact ⟨_, _, N1, hrun, g1.trans g2, hR1.grow g2.2⟩
        · exact (no_get hg).elim
      · exact (no_get hg).elim
    · rename_i z hrow hz
      split at hg
      · rename_i k hk
        split at hg
        · rename_i hcond
          simp only [Bool.and_eq_true, decide_eq_true_eq] at hcond
          obtain ⟨rfl, hsm⟩ := hcond
          obtain ⟨i, zv, hi, hzv, hby, hzs⟩ := small_ok hsm
          have hisz := sizeT_info hz hi
          split at hg
          · rename_i ys hnews
            obtain ⟨hb, hg⟩ := need_get hg
            obtain rfl := ret_get hg
            have hlim := lim_of hb
            obtain ⟨us, hu1, hu2, hu3, hu4, hu5⟩ := newsOf_ok (P := P) h hx hnews
            obtain rfl := rel_lit hs
            by_cases hy0 : ys.length = 0
            · obtain rfl : ys = [] := List.length_eq_zero_iff.1 hy0
              obtain rfl : us = [] := by simpa using hu1
              exact ⟨_, w, _, run_append_in (news := []) hu hnt hi (hu4 w) (by rw [hisz]; exact hu5 w rfl) (by simp) (fun a _ => by simp [storeCells]) (fun _ => rfl), h.ghost k, .whole _ ⟨none, 0, k.size⟩ 0 none (Names.add_same _ _ _) (.inl ⟨rfl, rfl⟩)⟩
            · obtain ⟨N1, g1, hR1⟩ := grown_ok (c := 0) (e := e) (k := k) (xs := []) (us := []) h (hzs.trans hisz) (fun i x j a h1 => by simp at h1) (by simp) hu3 hu1
              have hrun := run_append_out (A := none) (n := 0) (c := 0) (ty := ty) (olds := []) (news := us) hu hnt hi hzv (hu4 w) (by simp [Builtin.firstCells]) (by rw [hisz]; exact hu5 w.drew rfl) (by omega) (by omega) hby
              exact ⟨_, _, N1, hrun, g1, hR1⟩
          · exact (no_get hg).elim
        · exact (no_get hg).elim
      · exact (no_get hg).elim
    · exact (no_get hg).elim
  · exact (no_get hg).elim

/-! ### Conversions -/
theorem run_toString {xs : List Int} {A : Option Addr} {c : Nat} (h : xs.length = 0 ∨ ∃ b off, A = some ⟨b, off, none⟩ ∧ ∀ (i : Nat) (y : Int), xs[i]? = some y → ReadsAt w S N b (off + i * (EK.int .u8).size) ((EK.int .u8).enc y)) :
    (Conv.bytesToString (.slice A xs.length c)).run P w = .ok (.string ⟨(toStr xs).toArray⟩) w := by
  cases A with
  | none =>
    rcases h with h | ⟨b, off, h, _⟩
    · obtain rfl : xs = [] := List.length_eq_zero_iff.1 h
      simp [Conv.bytesToString, toStr]; rfl
    · cases h
  | some a =>
    have hcells : (loadCells a xs.length).run P w = .ok (xs.map fun n => Value.int .u8 n).toArray w := by
      have h1 : ∀ j v, (xs.map fun n => Value.int .u8 n)[j]? = some v → w.cell? (a.add j) = some v := by
        intro j v hv
        rw [List.getElem?_map] at hv
        obtain ⟨n, hn, rfl⟩ := Option.map_eq_some_iff.1 hv
        have hj := (List.getElem?_eq_some_iff.1 hn).1
        rcases h with h | ⟨b, off, h, hr⟩
        · omega
        · cases h
          obtain ⟨v, h2, h3⟩ := hr j n hn 0 _ rfl
          obtain rfl := rel_int h3
          rw [Addr.add_lit]
          simpa [EK.size] using h2
      have := run_loadCells_list (P := P) w a (xs.map fun n => Value.int .u8 n) h1
      simpa using this
    rw [run_bytesToString w a xs.length c xs hcells]
    have key : ∀ (l : List Int) (s : ByteArray), l.foldl (fun r n => r.push (UInt8.ofNat n.toNat)) s = ⟨s.data ++ (toStr l).toArray⟩ := by
      intro l
      induction l with
      | nil => intro s; simp [toStr]
      | cons n l ih => intro s; simp only [List.foldl_cons, ih]; simp [toStr, ByteArray.push]
    rw [key]
    have he : ByteArray.empty.data ++ (toStr xs).toArray = (toStr xs).toArray := by show (#[] : Array UInt8) ++ _ = _; simp
    rw [he]

theorem toInts_row (s : List UInt8) (zs : Array Value) : RowRel w S N (.int .u8) (toInts s) (((⟨s.toArray⟩ : ByteArray).data.map fun b => Value.int .u8 b.toNat) ++ zs) := by
  intro i x j a hx ha
  simp only [EK.enc] at ha
  cases j with
  | zero =>
    simp at ha; subst ha
    simp only [toInts, List.getElem?_map] at hx
    obtain ⟨b, hb, rfl⟩ := Option.map_eq_some_iff.1 hx
    have hi := (List.getElem?_eq_some_iff.1 hb).1
    refine ⟨.int .u8 b.toNat, ?_, .int _ _⟩
    rw [Array.getElem?_append_left (by simp [EK.size]; exact hi)]
    simp [EK.size, hb]
  | succ j => simp at ha

theorem convV_ok (h : Mem E st w N) {src dst : TypeId} {x : AV} {vx : Value} {r : AV × Store} (hx : Rel w (SS E.F N st) N x vx) (hg : (convV P st src dst x).get = some r) :
    ∃ v' w' N', (convert src dst vx).run P w = .ok v' w' ∧ Goes E st w N r.2 w' N' ∧ Rel w' (SS E.F N' r.2) N' r.1 v' := by
  unfold convV at hg
  split at hg
  · rename_i d k ki n hs hd
    obtain rfl := ret_get hg; obtain rfl := rel_int hx
    refine ⟨.int k (k.wrap n), w, N, ?_, .refl h, .int _ _⟩
    simp [convert, run_underlying hs, run_underlying hd, Conv.intToInt]
  · rename_i d s hs hd
    obtain rfl := ret_get hg; obtain rfl := rel_str hx
    refine ⟨_, w, N, ?_, .refl h, .str _⟩
    simp [convert, run_underlying hs, run_underlying hd]
  · rename_i d e s hs hd
    split at hg
    · rename_i hu
      obtain rfl := ret_get hg; obtain rfl := rel_str hx
      have hge : s.length ≤ grownCap w s.length 0 e := grownCap_ge w s.length 0 e
      let c : Array Value := ((⟨s.toArray⟩ : ByteArray).data.map fun b => Value.int .u8 b.toNat) ++ Array.replicate (grownCap w s.length 0 e - s.length) (.int .u8 0)
      have hcs : c.size = grownCap w s.length 0 e := by simp [c]; omega
      let w2 : World := ((w.drew.alloc (.cells c e)).freeze ⟨w.heap.size, c.size, none⟩ 1)
      have hw2 : Pushed w w2 (Obj.cells c e (c.size, c.size + 1)) := by
        refine ⟨?_, rfl, rfl, rfl⟩
        simp only [w2, World.freeze, if_neg (by omega : ¬ (1 = 0))]
        apply Array.ext_getElem?
        intro j
        show ((w.heap.push (Obj.cells c e)).modify w.heap.size _)[j]? = _
        simp only [Array.getElem?_modify, Array.getElem?_push]
        by_cases hj : w.heap.size = j
        · subst hj; simp
        · have hj' : ¬ j = w.heap.size := fun e => hj e.symm
          simp [hj, hj']
      obtain ⟨N', g, hR⟩ := h.newRow (k := .int .u8) (xs := toInts s) (cap := grownCap w s.length 0 e) (w' := w2) hw2 (fun i hi h3 => by simp only at h3; omega) (by simp [toInts]; exact hge) (by rw [hcs]; simp [EK.size]) (toInts_row s _)
      refine ⟨_, w2, N', ?_, g, hR⟩
      have hshape : (w.drew.alloc (.cells c e)).shape? w.heap.size = some (e, c.size) := by
        show (match (w.heap.push (Obj.cells c e))[w.heap.size]? with | some (.cells c elem _) => some (elem, c.size) | _ => none) = _
        rw [Array.getElem?_push_size]
      have hlen : (toInts s).length = s.length := by simp [toInts]
      rw [hlen]
      simp only [convert, Sem.run_bind, run_underlying hs, run_underlying hd, Result.andThen_ok, run_underlying hu, Conv.stringToBytes, run_choose, size_mk]
      have hnf : (Question.appendCap s.length 0 e).forced = false := rfl
      simp only [hnf, Bool.false_eq_true, if_false, Result.andThen_ok, newRow, Sem.run_bind, run_newObj, Sem.run_pure, markStringish, run_shape]
      erw [hshape]
      rfl
    · exact (no_get hg).elim
  · rename_i e hs hd _
    split at hg
    · rename_i xs hu hseq
      obtain rfl := ret_get hg
      obtain ⟨A, c, rfl, hr⟩ := asSeq_ok h hx hseq
      refine ⟨_, w, N, ?_, .refl h, .str _⟩
      have := run_toString (P := P) (c := c) hr
      simp only [convert, Sem.run_bind, run_underlying hs, run_underlying hd, Result.andThen_ok, run_underlying hu, this]
    · exact (no_get hg).elim
  · exact (no_get hg).elim
end
end Go.Abs
