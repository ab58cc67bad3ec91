/- The abstract machine: the call's rule. Conditions: none. -/
import Derived.Test.YtpiphiieflnabaaDoorAbs14
namespace Go.Abs
section
variable {w w' : World} {S S' : Nat → Prop} {N N' : Names} {E : Fix} {st st' : Store}

theorem Grow.less (h : ∀ b, S' b → S b) : Grow w S N w S' N :=
  ⟨fun _ _ h => h, fun _ _ _ _ h => h, fun b hb _ hb' => hb (h b hb'), fun _ c T fr h => ⟨c, T, fr, h, rfl⟩, Nat.le_refl _⟩

/-- The row of a slice is not in the set. -/
def RowOff (st : Store) (N : Names) (S' : Nat → Prop) (a : AV) : Prop :=
  ∀ (l : Nat) (blk : Blk) (ni : NI) (b base : Nat), rowName a = some l → st[l]? = some blk → alive blk = true → N l = some ni → ni.blk = some (b, base) → ¬ S' b

theorem borrow_ok (h : Mem E st w N) {a : AV} {v : Value} (hv : Rel w (SS E.F N st) N a v) (hS : ∀ b, S' b → SS E.F N st b) (hr : RowOff st N S' a) : Rel w S' N (borrow st a) v := by
  have g : Grow w (SS E.F N st) N w S' N := .less hS
  unfold borrow
  split
  · rename_i l
    split
    · rename_i k xs hlx
      cases hv with | whole _ ni c A hn hh => ?_
      obtain ⟨h1, h2, b, base, h3, h4⟩ := h.rowAt hlx hn
      have := seq_of_row (w := w) (S := S') (N := N) (k := k) (xs := xs) hh h3 h2 (by omega) (fun hb => hr l _ ni b base rfl hlx rfl hn hb) (fun hb i x hx => ((h4 hb).2 i x hx).grow g)
      rw [List.drop_zero, List.take_of_length_le (by omega)] at this
      exact this
    · exact hv.grow g
  · rename_i l o n
    split
    · rename_i k xs hlx
      cases hv with | own _ _ _ ni c A hn hon hh => ?_
      obtain ⟨h1, h2, b, base, h3, h4⟩ := h.rowAt hlx hn
      exact seq_of_row (w := w) (S := S') (N := N) (k := k) (xs := xs) hh h3 h2 (by omega) (fun hb => hr l _ ni b base rfl hlx rfl hn hb) (fun hb i x hx => ((h4 hb).2 i x hx).grow g)
    · exact hv.grow g
  · exact hv.grow g

theorem rowNames_mem : ∀ (args : List AV) (a : AV) (l : Nat), a ∈ args → rowName a = some l → l ∈ rowNames args
  | [], _, _, h, _ => by simp at h
  | x :: xs, a, l, h, hl => by
    unfold rowNames
    rcases List.mem_cons.1 h with rfl | h
    · rw [hl]; simp
    · have := rowNames_mem xs a l h hl
      split
      · exact List.mem_cons_of_mem _ this
      · exact this

def Ctx.ok (X : Ctx) : Prop := ∀ f c, X.C f = some c → Con.ok X.P X.G f c

/-- What holds after a call. -/
def After (E : Fix) (st : Store) (w : World) (N : Names) (r : AV × Store) (v : Value) (w' : World) : Prop :=
  ∃ N', Goes E st w N r.2 w' N' ∧ Rel w' (SS E.F N' r.2) N' r.1 v

theorem lent_call {P : Program} {f : Nat} {G : Nat → Option (List AV)} (h : Mem E st w N) (hG : E.G = G) {as' : List AV} {vs : Array Value} {Lent : Nat → Prop} {sub' st' : Store} {r : AV} {names : List Nat}
    (hnd : names.Nodup) (ha : as'.length = vs.size ∧ ∀ (j : Nat) (a : AV) (v : Value), as'[j]? = some a → vs[j]? = some v → Rel w (SS (away E N st names Lent) (subN names N) (sub names st)) (subN names N) a v)
    (hs : sub' = sub names st) (hc : CallsSem P G f as' sub' r st') :
    Does P f vs w fun v w' => ∃ N', Mem (Fix.at (away E N st names Lent) w (subN names N) (sub names st) E.G (away_ok h names Lent)) st' w' N' ∧
      Rel w' (SS (away E N st names Lent) N' st') N' r v ∧ (∀ l, isCells (sub names st)[l]? = true → isCells st'[l]? = true ∧ N' l = subN names N l) := by
  subst hG; subst hs
  exact hc (away E N st names Lent) w (subN names N) vs (away_ok h names Lent) (frame_in h hnd Lent) ha

theorem canon_args {roots : List AV} {names : List Nat} {vs : Array Value} (hl : roots.length = vs.size) (hr : ∀ (j : Nat) (a : AV) (v : Value), roots[j]? = some a → vs[j]? = some v → Rel w S' N a v) :
    (roots.map (ren (place names) 8)).length = vs.size ∧ ∀ (j : Nat) (a : AV) (v : Value), (roots.map (ren (place names) 8))[j]? = some a → vs[j]? = some v → Rel w S' (subN names N) a v := by
  refine ⟨by simpa using hl, fun j a v h1 h2 => ?_⟩
  rw [List.getElem?_map] at h1
  obtain ⟨b, hb, rfl⟩ := Option.map_eq_some_iff.1 h1
  exact ren_rel (S := S') (fun l l' ni h1 h2 => place_ok h1 h2) (fun _ h _ => h) (hr j b v hb h2) 8

theorem away_less (names : List Nat) (Lent : Nat → Prop) : ∀ b, SS (away E N st names Lent) (subN names N) (sub names st) b → SS E.F N st b := by
  rintro b (hb | hb)
  · exact .inl (own_of_sub hb)
  · exact hb.1

theorem ite_get {α : Type} {c : Bool} {t : Tr α} {v : α} (h : (if c then t else .no).get = some v) : c = true ∧ t.get = some v := by
  cases c
  · exact (no_get h).elim
  · exact ⟨rfl, h⟩

theorem else_get {α : Type} {b : Bool} {t : Tr α} {r : α} (h : (if b = true then .no else t).get = some r) : t.get = some r := by
  cases b
  · exact h
  · exact (no_get h).elim

theorem rowNames_nil {args : List AV} (h : rowNames args = []) : ∀ a ∈ args, rowName a = none := by
  intro a ha
  cases hr : rowName a with
  | none => rfl
  | some l => have := rowNames_mem args a l ha hr; rw [h] at this; cases this

/-- A call that is lent no row; the rows that it hands back are told as immutable ones. -/
theorem fresh_call {X : Ctx} (hX : X.ok) (h : Mem E st w N) (hG : E.G = X.G) {f : Nat} {args : List AV} {vs : Array Value} {con : Con} {p : AV × Store} (ha : RelL w (SS E.F N st) N args vs) (hcon : X.C f = some con)
    (hnames : visits st (args.map (borrow st)) = []) (hp : (con.spec (canon (args.map (borrow st)) st).1 (canon (args.map (borrow st)) st).2.1).get = some p) (hrn : rowNames args = []) :
    Does X.P f vs w (After E st w N (ren (fun _ => none) 8 (freeze p.2 p.1), st)) := by
  have hok := hX f con hcon
  have hnone : ∀ b, ¬ Own (subN [] N) (sub [] st) b := by
    rintro b ⟨l, blk, ni, base, hl, _⟩; simp [sub] at hl
  have hroots : ∀ (j : Nat) (a : AV) (v : Value), (args.map (borrow st))[j]? = some a → vs[j]? = some v → Rel w (SS (away E N st [] (fun _ => False)) (subN [] N) (sub [] st)) N a v := by
    intro j a v h1 h2
    rw [List.getElem?_map] at h1
    obtain ⟨b, hb, rfl⟩ := Option.map_eq_some_iff.1 h1
    refine borrow_ok h (ha.2 j b v hb h2) (away_less [] _) fun l blk ni b' base hrow _ _ _ _ => ?_
    rw [rowNames_nil hrn b (List.mem_of_getElem? hb)] at hrow; cases hrow
  have hc := hok _ _ p.1 p.2 (by rw [hp])
  refine (lent_call h hG (names := []) (Lent := fun _ => False) (sub' := sub [] st) (by simp) (canon_args (names := []) (by simpa using ha.1) hroots) rfl (by simpa only [canon, hnames, sub] using hc)).mono ?_
  rintro v w' ⟨N', hm, hr, _⟩
  have ev : Evo w (Own (subN [] N) (sub [] st)) w' := hm.evo
  have keep : ∀ b, b < w.heap.size → w'.heap[b]? = w.heap[b]? := fun b hb => ev.keep b hb (hnone b)
  have g : Grow w (SS E.F N st) N w' (SS E.F N st) N := by
    refine ⟨fun _ _ h => h, fun b o u hS hc => ?_, fun _ h _ => h, ev.sizes, ev.size⟩
    obtain ⟨c, T, fr, h1, h2⟩ := cell?_iff.1 hc
    exact cell?_iff.2 ⟨c, T, fr, (keep b (lt_of_cell hc)).trans h1, h2⟩
  have e0 := h.evo
  have hF : ∀ b, SS E.F N st b → SS (away E N st [] (fun _ => False)) N' p.2 b := fun b hb => .inr ⟨hb, hnone b, fun h => h⟩
  have hoff : ∀ (a : AV), RowOff p.2 N' (SS E.F N st) a := by
    intro a l blk ni b base _ hl hal hn hbb hS
    rcases hm.sub b ⟨l, blk, ni, base, hl, hal, hn, hbb⟩ with h1 | h1
    · exact hnone b h1
    · have := hS.lt h
      exact Nat.not_lt.2 h1 this
  have hz : Rel w' (SS E.F N st) N' (freeze p.2 p.1) v := by
    have one : ∀ a u, Rel w' (SS (away E N st [] (fun _ => False)) N' p.2) N' a u → Rel w' (SS E.F N st) N' (borrow p.2 a) u := fun a u hu => borrow_ok hm hu hF (hoff a)
    unfold freeze
    split
    · rename_i as' he
      rw [he] at hr
      cases hr with
      | tup cs us hl hh =>
        refine .tup _ us (by simpa using hl) fun j a u h1 h2 => ?_
        rw [List.getElem?_map] at h1
        obtain ⟨b, hb, rfl⟩ := Option.map_eq_some_iff.1 h1
        exact one b u (hh j b u hb h2)
    · exact one _ _ hr
  refine ⟨N, ⟨⟨fun l blk hl => (h.blks l blk hl).grow g fun ni b base hal hn hb => keep b (Own.lt h ⟨l, blk, ni, base, hl, hal, hn, hb⟩), h.apart, h.fresh, ?_, h.sub, fun x cs hx => (h.glob x cs hx).grow g⟩, g⟩, (ren_rel2 (f := fun _ => none) (fun _ _ _ h => by cases h) (fun _ h _ => h) hz).1 8⟩
  refine ⟨ev.os.trans e0.os, ev.tape.trans e0.tape, ev.output.trans e0.output, Nat.le_trans e0.size ev.size, fun b hb hS => (keep b (Nat.lt_of_lt_of_le hb e0.size)).trans (e0.keep b hb hS), fun b c T fr hb => ?_⟩
  obtain ⟨c1, T1, fr1, h1, e1⟩ := e0.sizes b c T fr hb
  obtain ⟨c2, T2, fr2, h2, e2⟩ := ev.sizes b c1 T1 fr1 h1
  exact ⟨c2, T2, fr2, h2, e2.trans e1⟩

theorem callV_ok {X : Ctx} (hX : X.ok) (h : Mem E st w N) (hG : E.G = X.G) {f : Nat} {args : List AV} {vs : Array Value} {r : AV × Store} (ha : RelL w (SS E.F N st) N args vs)
    (hg : (callV X st f args).get = some r) : Does X.P f vs w (After E st w N r) := by
  unfold callV at hg
  split at hg
  · exact (no_get hg).elim
  rename_i con hcon
  have hok := hX f con hcon
  split at hg
  · -- quiet
    obtain ⟨hq, hg⟩ := ite_get hg
    obtain ⟨p, hp, hg⟩ := bind_get hg
    split at hg
    · obtain ⟨hrn, hg⟩ := ite_get hg
      have := ret_get hg; subst this
      exact fresh_call hX h hG ha hcon (by simpa [canon] using hq) hp (by simpa using hrn)
    obtain ⟨hi, hg⟩ := ite_get hg
    have := ret_get hg; subst this
    simp only [Bool.and_eq_true] at hi
    have hnames : visits st (args.map (borrow st)) = [] := by simpa [canon] using hq
    have hnone : ∀ b, ¬ Own (subN [] N) (sub [] st) b := by
      rintro b ⟨l, blk, ni, base, hl, _⟩; simp [sub] at hl
    have hroots : ∀ (j : Nat) (a : AV) (v : Value), (args.map (borrow st))[j]? = some a → vs[j]? = some v → Rel w (SS (away E N st [] (Own N st)) (subN [] N) (sub [] st)) N a v := by
      intro j a v h1 h2
      rw [List.getElem?_map] at h1
      obtain ⟨b, hb, rfl⟩ := Option.map_eq_some_iff.1 h1
      refine borrow_ok h (ha.2 j b v hb h2) (away_less [] _) fun l blk ni b' base _ hs hal hn hbb hS => ?_
      rcases hS with hS | hS
      · exact hnone _ hS
      · exact hS.2.2 ⟨l, blk, ni, base, hs, hal, hn, hbb⟩
    have hc := hok _ _ p.1 p.2 (by rw [hp])
    refine (lent_call h hG (names := []) (Lent := Own N st) (sub' := sub [] st) (by simp) (canon_args (names := []) (by simpa using ha.1) hroots) rfl (by simpa only [canon, hnames, sub] using hc)).mono ?_
    rintro v w' ⟨N', hm, hr, _⟩
    have ev : Evo w (Own (subN [] N) (sub [] st)) w' := hm.evo
    have keep : ∀ b, b < w.heap.size → w'.heap[b]? = w.heap[b]? := fun b hb => ev.keep b hb (hnone b)
    have g : Grow w (SS E.F N st) N w' (SS E.F N st) N := by
      refine ⟨fun _ _ h => h, fun b o u hS hc => ?_, fun _ h _ => h, ev.sizes, ev.size⟩
      obtain ⟨c, T, fr, h1, h2⟩ := cell?_iff.1 hc
      exact cell?_iff.2 ⟨c, T, fr, (keep b (lt_of_cell hc)).trans h1, h2⟩
    have e0 := h.evo
    refine ⟨N, ⟨⟨fun l blk hl => (h.blks l blk hl).grow g fun ni b base hal hn hb => keep b (Own.lt h ⟨l, blk, ni, base, hl, hal, hn, hb⟩), h.apart, h.fresh, ?_, h.sub, fun x cs hx => (h.glob x cs hx).grow g⟩, g⟩, noName_rel hi.2 hi.1 hr⟩
    refine ⟨ev.os.trans e0.os, ev.tape.trans e0.tape, ev.output.trans e0.output, Nat.le_trans e0.size ev.size, fun b hb hS => (keep b (Nat.lt_of_lt_of_le hb e0.size)).trans (e0.keep b hb hS), fun b c T fr hb => ?_⟩
    obtain ⟨c1, T1, fr1, h1, e1⟩ := e0.sizes b c T fr hb
    obtain ⟨c2, T2, fr2, h2, e2⟩ := ev.sizes b c1 T1 fr1 h1
    exact ⟨c2, T2, fr2, h2, e2.trans e1⟩
  split at hg
  · -- rows are lent
    have hg := else_get hg
    obtain ⟨hq, hg⟩ := ite_get hg
    obtain ⟨p, hp, hg⟩ := bind_get hg
    obtain ⟨hi, hg⟩ := ite_get hg
    have := ret_get hg; subst this
    simp only [Bool.and_eq_true] at hi
    let names := visits st (args.map (borrow st))
    have hnd : names.Nodup := visits_nodup _ _
    let Lent : Nat → Prop := fun b => ∃ (l : Nat) (blk : Blk) (ni : NI) (base : Nat), l ∈ rowNames args ∧ st[l]? = some blk ∧ alive blk = true ∧ N l = some ni ∧ ni.blk = some (b, base)
    have hL : ∀ b, Lent b → ¬ E.F b := fun b ⟨l, blk, ni, base, _, h1, h2, h3, h4⟩ => h.notF ⟨l, blk, ni, base, h1, h2, h3, h4⟩
    have hroots : ∀ (j : Nat) (a : AV) (v : Value), (args.map (borrow st))[j]? = some a → vs[j]? = some v → Rel w (SS (away E N st names Lent) (subN names N) (sub names st)) N a v := by
      intro j a v h1 h2
      rw [List.getElem?_map] at h1
      obtain ⟨b, hb, rfl⟩ := Option.map_eq_some_iff.1 h1
      refine borrow_ok h (ha.2 j b v hb h2) (away_less names _) fun l blk ni b' base hl hs hal hn hbb hS => ?_
      have hmem := rowNames_mem args b l (List.mem_of_getElem? hb) hl
      rcases hS with hS | hS
      · have h1 := own_name h (l' := l) hs hal hn hbb hS
        have h2 := List.all_eq_true.1 hq l hmem
        simp only [canon] at h2
        rw [show (visits st (args.map (borrow st))).contains l = true from h1] at h2; cases h2
      · exact hS.2.2 ⟨l, blk, ni, base, hmem, hs, hal, hn, hbb⟩
    have hc := hok _ _ p.1 p.2 (by rw [hp])
    refine (lent_call h hG (names := names) (Lent := Lent) hnd (canon_args (names := names) (by simpa using ha.1) hroots) rfl hc).mono ?_
    rintro v w' ⟨N', hm, hr, hcs⟩
    obtain ⟨g, turn⟩ := frame_out h hnd hL hm hcs (.inr hi.2)
    exact ⟨_, g, turn p.1 v hr (.inr hi.1)⟩
  · -- all is given
    obtain ⟨p, hp, hg⟩ := bind_get hg
    have := ret_get hg; subst this
    obtain ⟨hlen, N1, g1, hr1⟩ := retires_ok args vs.toList st N h (by simpa using ha.1) (fun j a u h1 h2 => ha.2 j a u h1 (by simpa using h2))
    have h1 := g1.1
    let names := visits (retires st args).2 (retires st args).1
    have hnd : names.Nodup := visits_nodup _ _
    have hroots : ∀ (j : Nat) (a : AV) (v : Value), (retires st args).1[j]? = some a → vs[j]? = some v →
        Rel w (SS (away E N1 (retires st args).2 names fun _ => False) (subN names N1) (sub names (retires st args).2)) N1 a v := fun j a v h1 h2 =>
      (hr1 j a v h1 (by simpa using h2)).grow (.less (away_less names _))
    have hc := hok _ _ p.1 p.2 (by rw [hp])
    refine (lent_call h1 hG (names := names) (Lent := fun _ => False) hnd (canon_args (names := names) (by rw [hlen]; exact ha.1) hroots) rfl hc).mono ?_
    rintro v w' ⟨N', hm, hr, hcs⟩
    obtain ⟨g, turn⟩ := frame_out h1 hnd (fun _ h => h.elim) hm hcs (.inl fun _ h => h)
    exact ⟨_, g1.trans g, turn p.1 v hr (.inl fun _ h => h)⟩
end
end Go.Abs
