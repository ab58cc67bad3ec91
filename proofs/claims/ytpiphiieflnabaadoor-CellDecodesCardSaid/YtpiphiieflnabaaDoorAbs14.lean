/- The abstract machine: a call's way in and out. Conditions: none. -/
import Derived.Test.YtpiphiieflnabaaDoorAbs13
namespace Go.Abs
section
variable {P : Program} {w w' : World} {S S' : Nat → Prop} {N N' : Names} {E : Fix} {st st' : Store}

theorem mapI_get {α β : Type} (f : Nat → α → β) : ∀ (xs : List α) (n i : Nat), (mapI f n xs)[i]? = (xs[i]?).map (f (n + i))
  | [], n, i => by simp [mapI]
  | x :: xs, n, 0 => by simp [mapI]
  | x :: xs, n, i + 1 => by simp only [mapI, List.getElem?_cons_succ]; rw [mapI_get f xs (n + 1) i, show n + 1 + i = n + (i + 1) by omega]

theorem mapI_length {α β : Type} (f : Nat → α → β) : ∀ (xs : List α) (n : Nat), (mapI f n xs).length = xs.length
  | [], n => rfl
  | x :: xs, n => by simp [mapI, mapI_length f xs]

theorem pos_get : ∀ (names : List Nat) (l : Nat), names.contains l = true → names[pos l names]? = some l
  | [], l, h => by simp at h
  | x :: xs, l, h => by
    unfold pos
    by_cases e : x = l
    · subst e; simp
    · have : xs.contains l = true := by
        rw [List.contains_iff_mem] at h ⊢
        rcases List.mem_cons.1 h with h | h
        · exact absurd h.symm e
        · exact h
      simp [e, pos_get xs l this]

theorem nodup_get {names : List Nat} (h : names.Nodup) {i j l : Nat} (hi : names[i]? = some l) (hj : names[j]? = some l) : i = j := by
  obtain ⟨h1, e1⟩ := List.getElem?_eq_some_iff.1 hi
  obtain ⟨h2, e2⟩ := List.getElem?_eq_some_iff.1 hj
  exact (List.getElem_inj h).1 (e1.trans e2.symm)

theorem contains_get {names : List Nat} {j l : Nat} (h : names[j]? = some l) : names.contains l = true := by
  rw [List.contains_iff_mem]; exact List.mem_of_getElem? h

theorem addName_nodup {l : Nat} {names : List Nat} (h : names.Nodup) : (addName l names).Nodup := by
  unfold addName
  split
  · exact h
  · rename_i hc
    rw [List.nodup_append]
    refine ⟨h, by simp, fun a ha b hb e => hc ?_⟩
    simp at hb; subst hb; subst e
    rw [List.contains_iff_mem]; exact ha

theorem foldl_nodup {f : List Nat → AV → List Nat} (hf : ∀ names a, names.Nodup → (f names a).Nodup) : ∀ (cs : List AV) (names : List Nat), names.Nodup → (cs.foldl f names).Nodup
  | [], _, h => h
  | c :: cs, names, h => foldl_nodup hf cs _ (hf names c h)

theorem visit_nodup (st : Store) : ∀ (n : Nat) (names : List Nat) (a : AV), names.Nodup → (visit st n names a).Nodup
  | 0, names, a, h => h
  | n + 1, names, a, h => by
    have fold := fun cs names h => foldl_nodup (fun names a h => visit_nodup st n names a h) cs names h
    cases a <;> simp only [visit]
    case ptr l o =>
      split
      · exact h
      · rename_i hc
        have h' : (names ++ [l]).Nodup := by
          have := addName_nodup (l := l) h
          unfold addName at this; rw [if_neg hc] at this; exact this
        split
        · exact fold _ _ h'
        · exact h'
    case rptr l i o => exact addName_nodup h
    case whole l => exact addName_nodup h
    case own l o m => exact addName_nodup h
    case agg cs => exact fold _ _ h
    case tup cs => exact fold _ _ h
    case fn g cs => exact fold _ _ h
    case ifc t v => exact visit_nodup st n names v h
    all_goals exact h

theorem visits_nodup (st : Store) (roots : List AV) : (visits st roots).Nodup := foldl_nodup (fun names a h => visit_nodup st 12 names a h) roots [] (by simp)

theorem alive_renB (f : Nat → Option Nat) (b : Blk) : alive (renB f b) = alive b := by cases b <;> rfl

def sub (names : List Nat) (st : Store) : Store := names.map fun l => renB (place names) (st.getD l .dead)
def subN (names : List Nat) (N : Names) : Names := fun j => names[j]?.bind N

theorem sub_get {names : List Nat} {j : Nat} {blk : Blk} (h : (sub names st)[j]? = some blk) (ha : alive blk = true) : ∃ l b, names[j]? = some l ∧ st[l]? = some b ∧ blk = renB (place names) b := by
  unfold sub at h
  rw [List.getElem?_map] at h
  obtain ⟨l, hl, rfl⟩ := Option.map_eq_some_iff.1 h
  cases hs : st[l]? with
  | none => rw [alive_renB, List.getD_eq_getElem?_getD, hs] at ha; simp [alive] at ha
  | some b => exact ⟨l, b, hl, hs, by rw [List.getD_eq_getElem?_getD, hs]; rfl⟩

theorem own_sub {names : List Nat} {b : Nat} (h : Own (subN names N) (sub names st) b) : ∃ (j l : Nat) (blk : Blk) (ni : NI) (base : Nat), names[j]? = some l ∧ st[l]? = some blk ∧ alive blk = true ∧ N l = some ni ∧ ni.blk = some (b, base) := by
  obtain ⟨j, blk, ni, base, hj, ha, hn, hb⟩ := h
  obtain ⟨l, blk', hl, hs, rfl⟩ := sub_get hj ha
  rw [alive_renB] at ha
  unfold subN at hn; rw [hl] at hn
  exact ⟨j, l, blk', ni, base, hl, hs, ha, hn, hb⟩

theorem own_of_sub {names : List Nat} {b : Nat} (h : Own (subN names N) (sub names st) b) : Own N st b := by
  obtain ⟨j, l, blk, ni, base, _, hs, ha, hn, hb⟩ := own_sub h
  exact ⟨l, blk, ni, base, hs, ha, hn, hb⟩

/-- What a callee must leave alone. -/
def away (E : Fix) (N : Names) (st : Store) (names : List Nat) (Lent : Nat → Prop) (b : Nat) : Prop := SS E.F N st b ∧ ¬ Own (subN names N) (sub names st) b ∧ ¬ Lent b

theorem away_ok (h : Mem E st w N) (names : List Nat) (Lent : Nat → Prop) : ∀ b, away E N st names Lent b → b < w.heap.size ∧ ¬ Own (subN names N) (sub names st) b :=
  fun _ hb => ⟨hb.1.lt h, hb.2.1⟩

theorem place_ok {names : List Nat} {l l' : Nat} {ni : NI} (h : place names l = some l') (hn : N l = some ni) : subN names N l' = some ni := by
  unfold place at h
  split at h
  · rename_i hc
    cases h
    unfold subN; rw [pos_get names l hc]; exact hn
  · cases h

theorem rel_renB {f : Nat → Option Nat} (hf : ∀ l l' ni, f l = some l' → N l = some ni → N' l' = some ni) (hS : ∀ b, ¬ S b → b < w.heap.size → ¬ S' b) {l l' : Nat} {blk : Blk} (h : BlkRel w S N l blk)
    (hl : ∀ ni, N l = some ni → N' l' = some ni) : BlkRel w S' N' l' (renB f blk) := by
  cases blk with
  | dead => trivial
  | cells cs =>
    obtain ⟨ni, b, c, T, fr, hn, hb, hh, ht, hs, hr⟩ := h
    refine ⟨ni, b, c, T, fr, hl _ hn, hb, hh, ht, by simpa using hs, fun j a v h1 h2 => ?_⟩
    rw [List.getElem?_map] at h1
    obtain ⟨a', ha', rfl⟩ := Option.map_eq_some_iff.1 h1
    exact ren_rel hf hS (hr j a' v ha' h2) 8
  | row k xs =>
    obtain ⟨ni, hn, h1, h2, h3⟩ := h
    refine ⟨ni, hl _ hn, h1, h2, ?_⟩
    rcases h3 with h3 | ⟨b, base, c, T, fr, hb, hh, ht, hs, hr⟩
    · exact .inl h3
    · refine .inr ⟨b, base, c, T, fr, hb, hh, ht, hs, fun i x j a hx ha => ?_⟩
      obtain ⟨v, hv, hrv⟩ := hr i x j a hx ha
      exact ⟨v, hv, (ren_rel2 (f := f) hf hS hrv).2 (enc_plain k x a (List.mem_of_getElem? ha))⟩

theorem own_name (h : Mem E st w N) {l l' : Nat} {blk : Blk} {ni : NI} {b base : Nat} (hl : st[l]? = some blk) (ha : alive blk = true) (hn : N l = some ni) (hb : ni.blk = some (b, base)) {names : List Nat}
    (ho : Own (subN names N) (sub names st) b) : names.contains l = true := by
  obtain ⟨j, l', blk', ni', base', h1, h2, h3, h4, h5⟩ := own_sub ho
  have := h.apart l l' blk blk' ni ni' b base base' hl h2 ha h3 hn h4 hb h5
  subst this
  exact contains_get h1

theorem frame_in (h : Mem E st w N) {names : List Nat} (hnd : names.Nodup) (Lent : Nat → Prop) :
    Mem (Fix.at (away E N st names Lent) w (subN names N) (sub names st) E.G (away_ok h names Lent)) (sub names st) w (subN names N) := by
  have hsub : ∀ b, SS (away E N st names Lent) (subN names N) (sub names st) b → SS E.F N st b := by
    rintro b (hb | hb)
    · exact .inl (own_of_sub hb)
    · exact hb.1
  have hS : ∀ b, ¬ SS E.F N st b → b < w.heap.size → ¬ SS (away E N st names Lent) (subN names N) (sub names st) b := fun b hb _ hb' => hb (hsub b hb')
  refine ⟨fun j blk hj => ?_, ?_, fun j hj => ?_, ⟨rfl, rfl, rfl, Nat.le_refl _, fun _ _ _ => rfl, fun _ c T fr hb => ⟨c, T, fr, hb, rfl⟩⟩, fun b hb => .inl hb, fun g cs hg => ?_⟩
  · cases ha : alive blk with
    | false => cases blk <;> simp [alive] at ha; trivial
    | true =>
      obtain ⟨l, b, hl, hs, rfl⟩ := sub_get hj ha
      exact rel_renB (fun l l' ni h1 h2 => place_ok h1 h2) hS (h.blks l b hs) (fun ni hn => by unfold subN; rw [hl]; exact hn)
  · intro j j' blk blk' ni ni' b base base' hj hj' ha ha' hn hn' hb hb'
    obtain ⟨l, b1, hl, hs, rfl⟩ := sub_get hj ha
    obtain ⟨l', b1', hl', hs', rfl⟩ := sub_get hj' ha'
    rw [alive_renB] at ha ha'
    unfold subN at hn hn'; rw [hl] at hn; rw [hl'] at hn'
    have := h.apart l l' b1 b1' ni ni' b base base' hs hs' ha ha' hn hn' hb hb'
    subst this
    exact nodup_get hnd hl hl'
  · unfold subN
    rw [List.getElem?_eq_none (by simpa [sub] using hj)]; rfl
  · have := h.glob g cs hg
    exact this.grow (N := N) (N' := N) ⟨fun _ _ h => h, fun _ _ _ _ h => h, hS, fun _ c T fr h => ⟨c, T, fr, h, rfl⟩, Nat.le_refl _⟩

theorem enc_flat {k : EK} (hk : k.flat = true) : ∀ (x : k.α) (a : AV) (v : Value), a ∈ k.enc x → Rel w S N a v → Rel w' S' N' a v := by
  induction k with
  | int k => intro x a v ha h; simp [EK.enc] at ha; subst ha; cases h; exact .int _ _
  | bool => intro x a v ha h; simp [EK.enc] at ha; subst ha; cases h; exact .bool _
  | str => intro x a v ha h; simp [EK.enc] at ha; subst ha; cases h; exact .str _
  | seq e => simp [EK.flat] at hk
  | pair a b iha ihb =>
    intro x c v hc h
    simp only [EK.flat, Bool.and_eq_true] at hk
    simp only [EK.enc, List.mem_append] at hc
    rcases hc with hc | hc
    · exact iha hk.1 x.1 c v hc h
    · exact ihb hk.2 x.2 c v hc h

theorem blk_flat {l : Nat} {blk : Blk} (hb : noImmB blk = true) (h : BlkRel w S N l blk) : BlkRel w S' N l blk := by
  cases blk with
  | dead => trivial
  | cells cs =>
    obtain ⟨ni, b, c, T, fr, hn, hbb, hh, ht, hs, hr⟩ := h
    exact ⟨ni, b, c, T, fr, hn, hbb, hh, ht, hs, fun j a v h1 h2 => noImm_rel (List.all_eq_true.1 hb a (List.mem_of_getElem? h1)) (hr j a v h1 h2)⟩
  | row k xs =>
    obtain ⟨ni, hn, h1, h2, h3⟩ := h
    refine ⟨ni, hn, h1, h2, ?_⟩
    rcases h3 with h3 | ⟨b, base, c, T, fr, hbb, hh, ht, hs, hr⟩
    · exact .inl h3
    · refine .inr ⟨b, base, c, T, fr, hbb, hh, ht, hs, fun i x j a hx ha => ?_⟩
      obtain ⟨v, hv, hrv⟩ := hr i x j a hx ha
      exact ⟨v, hv, enc_flat hb x a v (List.mem_of_getElem? ha) hrv⟩

def backN (n1 : Nat) (N N' : Names) : Names := fun l => if l < n1 then N l else N' (l - n1)

theorem frame_out (h : Mem E st w N) {names : List Nat} (hnd : names.Nodup) {Lent : Nat → Prop} (hL : ∀ b, Lent b → ¬ E.F b)
    (hm : Mem (Fix.at (away E N st names Lent) w (subN names N) (sub names st) E.G (away_ok h names Lent)) st' w' N')
    (hc : ∀ l, isCells (sub names st)[l]? = true → isCells st'[l]? = true ∧ N' l = subN names N l) (imm : (∀ b, ¬ Lent b) ∨ st'.all noImmB = true) :
    Goes E st w N (mergeSt st names (sub names st) st') w' (backN st.length N N') ∧
    ∀ a v, Rel w' (SS (away E N st names Lent) N' st') N' a v → ((∀ b, ¬ Lent b) ∨ noImm 8 a = true) →
      Rel w' (SS E.F (backN st.length N N') (mergeSt st names (sub names st) st')) (backN st.length N N') (ren (backName (sub names st) names st.length st'.length) 8 a) v := by
  generalize hf : backName (sub names st) names st.length st'.length = f
  have ev : Evo w (Own (subN names N) (sub names st)) w' := hm.evo
  have hsubl : (sub names st).length = names.length := by simp [sub]
  -- what stands where
  have get : ∀ l blk, (mergeSt st names (sub names st) st')[l]? = some blk → alive blk = true →
      (l < st.length ∧ names.contains l = false ∧ st[l]? = some blk) ∨
      (l < st.length ∧ ∃ (j : Nat) (b : Blk), names[j]? = some l ∧ isCells (sub names st)[j]? = true ∧ st'[j]? = some b ∧ blk = renB f b) ∨
      (∃ (j : Nat) (b : Blk), l = st.length + j ∧ isCells (sub names st)[j]? = false ∧ st'[j]? = some b ∧ blk = renB f b) := by
    intro l blk hl ha
    unfold mergeSt at hl
    rw [hf] at hl
    by_cases hlt : l < st.length
    · rw [List.getElem?_append_left (by rw [mapI_length]; exact hlt), mapI_get] at hl
      obtain ⟨b, hb, rfl⟩ := Option.map_eq_some_iff.1 hl
      simp only [Nat.zero_add] at ha ⊢
      by_cases hin : names.contains l = true
      · rw [if_pos hin] at ha ⊢
        by_cases hcs : isCells (sub names st)[pos l names]? = true
        · rw [if_pos hcs] at ha ⊢
          rw [alive_renB] at ha
          refine .inr (.inl ⟨hlt, pos l names, st'.getD (pos l names) .dead, pos_get names l hin, hcs, ?_, rfl⟩)
          rw [List.getD_eq_getElem?_getD] at ha ⊢
          cases hq : st'[pos l names]? with
          | none => rw [hq] at ha; simp [alive] at ha
          | some q => rfl
        · rw [if_neg hcs] at ha; simp [alive] at ha
      · rw [if_neg hin] at ha ⊢
        exact .inl ⟨hlt, by simpa using hin, hb⟩
    · rw [List.getElem?_append_right (by rw [mapI_length]; omega), mapI_length, mapI_get] at hl
      obtain ⟨b, hb, rfl⟩ := Option.map_eq_some_iff.1 hl
      simp only [Nat.zero_add] at ha ⊢
      by_cases hcs : isCells (sub names st)[l - st.length]? = true
      · rw [if_pos hcs] at ha; simp [alive] at ha
      · rw [if_neg hcs] at ha ⊢
        exact .inr (.inr ⟨l - st.length, b, by omega, by simpa using hcs, hb, rfl⟩)
  have hN1 : ∀ l, l < st.length → backN st.length N N' l = N l := fun l hl => by unfold backN; rw [if_pos hl]
  have hN2 : ∀ j, backN st.length N N' (st.length + j) = N' j := fun j => by unfold backN; rw [if_neg (by omega)]; congr 1; omega
  have hback : ∀ j l : Nat, names[j]? = some l → l < st.length → isCells (sub names st)[j]? = true → backN st.length N N' l = N' j := by
    intro j l hj hl hcs
    rw [hN1 l hl, (hc j hcs).2]; unfold subN; rw [hj]; rfl
  -- whose block
  have ownC : ∀ b, Own N' st' b → Own (subN names N) (sub names st) b ∨ w.heap.size ≤ b := hm.sub
  have own2 : ∀ b, Own (backN st.length N N') (mergeSt st names (sub names st) st') b →
      (∃ (l : Nat) (blk : Blk) (ni : NI) (base : Nat), names.contains l = false ∧ st[l]? = some blk ∧ alive blk = true ∧ N l = some ni ∧ ni.blk = some (b, base)) ∨ Own N' st' b := by
    rintro b ⟨l, blk, ni, base, hl, ha, hn, hb⟩
    rcases get l blk hl ha with ⟨hlt, hin, hs⟩ | ⟨hlt, j, b', hj, hcs, hs, rfl⟩ | ⟨j, b', rfl, hcs, hs, rfl⟩
    · rw [hN1 l hlt] at hn; exact .inl ⟨l, blk, ni, base, hin, hs, ha, hn, hb⟩
    · rw [hback j l hj hlt hcs] at hn; rw [alive_renB] at ha; exact .inr ⟨j, b', ni, base, hs, ha, hn, hb⟩
    · rw [hN2] at hn; rw [alive_renB] at ha; exact .inr ⟨j, b', ni, base, hs, ha, hn, hb⟩
  have own1 : ∀ b, Own (backN st.length N N') (mergeSt st names (sub names st) st') b → Own N st b ∨ w.heap.size ≤ b := by
    intro b hb
    rcases own2 b hb with ⟨l, blk, ni, base, _, hs, ha, hn, hb⟩ | hb
    · exact .inl ⟨l, blk, ni, base, hs, ha, hn, hb⟩
    · exact (ownC b hb).imp own_of_sub id
  have g : Grow w (SS E.F N st) N w' (SS E.F (backN st.length N N') (mergeSt st names (sub names st) st')) (backN st.length N N') := by
    refine ⟨fun l ni hl => by rw [hN1 l (h.name_lt hl)]; exact hl, fun b o u hS hcell => ?_, fun b hS hlt hS' => ?_, ev.sizes, ev.size⟩
    · have := ev.keep b (lt_of_cell hcell) (fun ho => hS (.inl (own_of_sub ho)))
      obtain ⟨c, T, fr, h1, h2⟩ := cell?_iff.1 hcell
      exact cell?_iff.2 ⟨c, T, fr, this.trans h1, h2⟩
    · rcases hS' with hS' | hS'
      · rcases own1 b hS' with h1 | h1
        · exact hS (.inl h1)
        · omega
      · exact hS (.inr hS')
  have hf1 : ∀ l l' ni, f l = some l' → N' l = some ni → backN st.length N N' l' = some ni := by
    intro l l' ni hl hn
    subst hf
    unfold backName at hl
    split at hl
    · rename_i hcs
      have hni := (hc l hcs).2.symm.trans hn
      unfold subN at hni; rw [hl] at hni
      have : N l' = some ni := hni
      rw [hN1 l' (h.name_lt this)]; exact this
    · split at hl
      · cases hl; rw [hN2]; exact hn
      · cases hl
  -- S2 within the callee's, but what was lent
  have hS2 : (∀ b, ¬ Lent b) → ∀ b, ¬ SS (away E N st names Lent) N' st' b → b < w'.heap.size → ¬ SS E.F (backN st.length N N') (mergeSt st names (sub names st) st') b := by
    intro hno b hS hlt hS'
    apply hS
    by_cases hos : Own N' st' b
    · exact .inl hos
    refine .inr ?_
    rcases hS' with hS' | hS'
    · rcases own2 b hS' with ⟨l, blk, ni, base, hin, hs, ha, hn, hb⟩ | hb
      · refine ⟨.inl ⟨l, blk, ni, base, hs, ha, hn, hb⟩, fun ho => ?_, hno b⟩
        rw [own_name h (l' := l) hs ha hn hb ho] at hin; cases hin
      · exact absurd hb hos
    · exact ⟨.inr hS', fun ho => h.notF (own_of_sub ho) hS', hno b⟩
  have turn : ∀ a v, Rel w' (SS (away E N st names Lent) N' st') N' a v → ((∀ b, ¬ Lent b) ∨ noImm 8 a = true) →
      Rel w' (SS E.F (backN st.length N N') (mergeSt st names (sub names st) st')) (backN st.length N N') (ren f 8 a) v := by
    intro a v hr hi
    rcases hi with hi | hi
    · exact ren_rel hf1 (hS2 hi) hr 8
    · exact ren_rel (S := SS E.F (backN st.length N N') (mergeSt st names (sub names st) st')) hf1 (fun _ h _ => h) (noImm_rel hi hr) 8
  have turnB : ∀ (j : Nat) (b : Blk) (l : Nat), st'[j]? = some b → (∀ ni, N' j = some ni → backN st.length N N' l = some ni) →
      BlkRel w' (SS E.F (backN st.length N N') (mergeSt st names (sub names st) st')) (backN st.length N N') l (renB f b) := by
    intro j b l hj hl
    have hb := hm.blks j b hj
    rcases imm with hi | hi
    · exact rel_renB hf1 (hS2 hi) hb hl
    · exact rel_renB (S := SS E.F (backN st.length N N') (mergeSt st names (sub names st) st')) hf1 (fun _ h _ => h) (blk_flat (List.all_eq_true.1 hi b (List.mem_of_getElem? hj)) hb) hl
  refine ⟨⟨⟨fun l blk hl => ?_, ?_, fun l hl => ?_, ?_, fun b hb => ?_, fun x cs hx => (h.glob x cs hx).grow g⟩, g⟩, turn⟩
  · cases ha : alive blk with
    | false => cases blk <;> simp [alive] at ha; trivial
    | true =>
      rcases get l blk hl ha with ⟨hlt, hin, hs⟩ | ⟨hlt, j, b', hj, hcs, hs, rfl⟩ | ⟨j, b', rfl, hcs, hs, rfl⟩
      · refine (h.blks l blk hs).grow g fun ni b base ha' hn hb => ?_
        refine ev.keep b (Own.lt h ⟨l, blk, ni, base, hs, ha', hn, hb⟩) fun ho => ?_
        rw [own_name h (l' := l) hs ha' hn hb ho] at hin; cases hin
      · exact turnB j b' l hs fun ni hn => by rw [hback j l hj hlt hcs]; exact hn
      · exact turnB j b' _ hs fun ni hn => by rw [hN2]; exact hn
  · intro l l' blk blk' ni ni' b base base' hl hl' ha ha' hn hn' hb hb'
    -- a kept one and one of the callee's are apart
    have mixed : ∀ (l : Nat) (blk : Blk) (ni : NI) (base : Nat), names.contains l = false → st[l]? = some blk → alive blk = true → N l = some ni → ni.blk = some (b, base) → ¬ Own N' st' b := by
      intro l blk ni base hin hs ha hn hb ho
      rcases ownC b ho with h1 | h1
      · rw [own_name h (l' := l) hs ha hn hb h1] at hin; cases hin
      · have := Own.lt h ⟨l, blk, ni, base, hs, ha, hn, hb⟩; omega
    rcases get l blk hl ha with ⟨hlt, hin, hs⟩ | ⟨hlt, j, b1, hj, hcs, hs, rfl⟩ | ⟨j, b1, rfl, hcs, hs, rfl⟩
    · rw [hN1 l hlt] at hn
      rcases get l' blk' hl' ha' with ⟨hlt', hin', hs'⟩ | ⟨hlt', j', b1', hj', hcs', hs', rfl⟩ | ⟨j', b1', rfl, hcs', hs', rfl⟩
      · rw [hN1 l' hlt'] at hn'
        exact h.apart l l' blk blk' ni ni' b base base' hs hs' ha ha' hn hn' hb hb'
      · rw [hback j' l' hj' hlt' hcs'] at hn'; rw [alive_renB] at ha'
        exact absurd ⟨j', b1', ni', base', hs', ha', hn', hb'⟩ (mixed l blk ni base hin hs ha hn hb)
      · rw [hN2] at hn'; rw [alive_renB] at ha'
        exact absurd ⟨j', b1', ni', base', hs', ha', hn', hb'⟩ (mixed l blk ni base hin hs ha hn hb)
    · rw [hback j l hj hlt hcs] at hn; rw [alive_renB] at ha
      rcases get l' blk' hl' ha' with ⟨hlt', hin', hs'⟩ | ⟨hlt', j', b1', hj', hcs', hs', rfl⟩ | ⟨j', b1', rfl, hcs', hs', rfl⟩
      · rw [hN1 l' hlt'] at hn'
        exact absurd ⟨j, b1, ni, base, hs, ha, hn, hb⟩ (mixed l' blk' ni' base' hin' hs' ha' hn' hb')
      · rw [hback j' l' hj' hlt' hcs'] at hn'; rw [alive_renB] at ha'
        have := hm.apart j j' b1 b1' ni ni' b base base' hs hs' ha ha' hn hn' hb hb'
        subst this
        exact Option.some.inj (hj.symm.trans hj')
      · rw [hN2] at hn'; rw [alive_renB] at ha'
        have := hm.apart j j' b1 b1' ni ni' b base base' hs hs' ha ha' hn hn' hb hb'
        subst this
        rw [hcs] at hcs'; cases hcs'
    · rw [hN2] at hn; rw [alive_renB] at ha
      rcases get l' blk' hl' ha' with ⟨hlt', hin', hs'⟩ | ⟨hlt', j', b1', hj', hcs', hs', rfl⟩ | ⟨j', b1', rfl, hcs', hs', rfl⟩
      · rw [hN1 l' hlt'] at hn'
        exact absurd ⟨j, b1, ni, base, hs, ha, hn, hb⟩ (mixed l' blk' ni' base' hin' hs' ha' hn' hb')
      · rw [hback j' l' hj' hlt' hcs'] at hn'; rw [alive_renB] at ha'
        have := hm.apart j j' b1 b1' ni ni' b base base' hs hs' ha ha' hn hn' hb hb'
        subst this
        rw [hcs] at hcs'; cases hcs'
      · rw [hN2] at hn'; rw [alive_renB] at ha'
        have := hm.apart j j' b1 b1' ni ni' b base base' hs hs' ha ha' hn hn' hb hb'
        subst this; rfl
  · unfold mergeSt at hl
    rw [List.length_append, mapI_length, mapI_length] at hl
    unfold backN; rw [if_neg (by omega)]
    exact hm.fresh _ (by omega)
  · have e0 := h.evo
    refine ⟨ev.os.trans e0.os, ev.tape.trans e0.tape, ev.output.trans e0.output, Nat.le_trans e0.size ev.size, fun b hb hS => ?_, fun b c T fr hb => ?_⟩
    · rw [ev.keep b (Nat.lt_of_lt_of_le hb e0.size) fun ho => ?_]
      · exact e0.keep b hb hS
      · rcases h.sub b (own_of_sub ho) with h1 | h1
        · exact hS h1
        · omega
    · obtain ⟨c1, T1, fr1, h1, e1⟩ := e0.sizes b c T fr hb
      obtain ⟨c2, T2, fr2, h2, e2⟩ := ev.sizes b c1 T1 fr1 h1
      exact ⟨c2, T2, fr2, h2, e2.trans e1⟩
  · rcases own1 b hb with h1 | h1
    · exact h.sub b h1
    · exact .inr (Nat.le_trans h.evo.size h1)
end
end Go.Abs
