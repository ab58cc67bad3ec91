/- The abstract machine: a law's call from its row's point of view. Conditions: follows mixedOrders. -/
import Derived.Test.YtpiphiieflnabaaDoorAbs23
namespace Go.Abs
open Go.ChangeShapes Go.Proofs.YtpiphiieflnabaaDoor
section
variable {P : Program} {w w' W W' : World} {H : Type} {enc : TypeId × Value → H} {S : Nat → Prop} {N : Names} {base : Nat} {spare : Nat → Bool} {held : Bool}

def noF : Nat → Prop := fun _ => False
def noN : Names := fun _ => none

theorem own_none {N : Names} (b : Nat) : ¬ Own N [] b := by rintro ⟨l, blk, ni, base, hl, _⟩; simp at hl
theorem ss_none {N : Names} (b : Nat) : ¬ SS noF N [] b := by
  rintro (h | h)
  · exact own_none b h
  · exact h

theorem noF_ok {w : World} {N : Names} : ∀ b, noF b → b < w.heap.size ∧ ¬ Own N [] b := fun _ h => h.elim

theorem start_mem {G : Nat → Option (List AV)} (hG : ∀ g cs, G g = some cs → GlobOK W (SS noF noN []) g cs) : Mem (Fix.at noF W noN [] G noF_ok) [] W noN :=
  ⟨fun l blk hl => by simp at hl, fun l l' blk blk' ni ni' b base base' hl => by simp at hl, fun _ _ => rfl, ⟨rfl, rfl, rfl, Nat.le_refl _, fun _ _ _ => rfl, fun _ c T fr hb => ⟨c, T, fr, hb, rfl⟩⟩, fun b hb => (own_none b hb).elim, hG⟩

/-- What a law's call does. -/
theorem law_calls {X : Ctx} (hX : X.ok) (hm : X.P.follows .mixedOrders = true) {L : Nat → St → Tr (Ex × St)} {f : Nat} {fn : Func} {c : Code} {args : List AV} {st' : Store} (hf : X.P.funcs[f]? = some fn) (hb : fn.body = some c)
    (hL : LoopsAt X L [] c 0) (hr : (evFn X L fn args []).get = some (.bool true, st')) (vs : Array Value)
    (hG : ∀ g cs, X.G g = some cs → GlobOK W (SS noF noN []) g cs)
    (ha : RelL W (SS noF noN []) noN args vs) : Calls X.P f vs W fun e W' => e = .returned (.bool true) ∧ Evo W noF W' := by
  refine (fn_calls hX hm hf hb hL hr noF vs noF_ok (start_mem hG) ha).mono ?_
  rintro e W' ⟨v, rfl, N', hm', hv, _⟩
  have := rel_bool hv; subst this
  have ev : Evo W (Own noN []) W' := hm'.evo
  exact ⟨rfl, ev.os, ev.tape, ev.output, ev.size, fun b hb _ => ev.keep b hb (own_none b), ev.sizes⟩

theorem evo_keep (h : Evo W noF W') {b : Nat} (hb : b < W.heap.size) : W'.heap[b]? = W.heap[b]? := h.keep b hb (fun h => h)

theorem evo_kept (h : Evo W noF W') (may : MemPlace → Prop) : W.keptBut W' may := by
  refine ⟨h.os, h.output, fun i hi => ?_⟩
  rw [evo_keep h hi]
  cases W.heap[i]? with
  | none => rfl
  | some o =>
    cases o with
    | cells c t fr => exact ⟨rfl, rfl, rfl, fun _ _ => rfl⟩
    | map es clock => exact .inr ⟨rfl, rfl⟩
    | _ => rfl

theorem evo_same (h : Evo W noF W') {p : MemPlace} (hp : p.block < W.heap.size) : W.sameAt W' p := by
  cases p with
  | cell b o =>
    show W'.cell? _ = W.cell? _
    unfold World.cell?
    rw [evo_keep h (show b < W.heap.size from hp)]
  | map b => exact evo_keep h hp

/-- Elements of slices have cells. -/
def elemsB (P : Program) : Bool := (List.range P.types.size).all fun t => match P.underlying t with | some (.slice e) => decide (0 < P.cellsOf e) | _ => true

theorem elemsB_ok (h : elemsB P = true) : ∀ t e, t < P.types.size → P.underlying t = some (.slice e) → 0 < P.cellsOf e := by
  intro t e ht hu
  have := List.all_eq_true.1 h t (List.mem_range.2 ht)
  rw [hu] at this
  simpa using this

theorem trodAll_stay (ev : Evo W noF W') (K : Kids P (· < P.types.size)) (hz : elemsB P = true) : ∀ (ts : List TypeId) (vs : List Value) (ds : List (DataW H)) (ps : List MemPlace), (∀ t ∈ ts, t < P.types.size) →
    DataW.TrodAll enc P W 0 (fun _ => true) true ts vs ds ps → ∀ sp : Nat → Bool, (∀ p ∈ ps, sp p.block = true) → DataW.TrodAll enc P W' 0 sp true ts vs ds ps
  | [], vs, ds, ps, _, h, _, _ => by
    obtain ⟨rfl, rfl, rfl⟩ := trodAll_nil h
    exact h
  | t :: ts, vs, ds, ps, ht, h, sp, hsp => by
    obtain ⟨v, vs, d, ds, p, q, rfl, rfl, rfl, h1, h2⟩ := trodAll_cons h
    refine ⟨p, q, ?_, trodAll_stay ev K hz ts vs ds q (fun t h => ht t (List.mem_cons_of_mem _ h)) h2 sp (fun x hx => hsp x (List.mem_append_right _ hx)), rfl⟩
    obtain ⟨n, hn⟩ := h1
    have c1 := DataW.trod_carry (w' := W') n _ _ _ hn fun x hx => evo_same ev (DataW.trod_lt n _ _ _ hn x hx)
    exact DataW.Trod.respare K (elemsB_ok hz) (ht t (by simp)) ⟨n, c1⟩ fun x hx => hsp x (List.mem_append_left _ hx)

/-- A law that has answered true and changed nothing has done what its row says. -/
theorem law_post {f : Func} {s : ChangeSpec} {apart fresh handsOn again : Bool} {args : Array Value} {ds gs : List (DataW H)} {before : List MemPlace} (K : Kids P (· < P.types.size)) (hz : elemsB P = true) (hts : ∀ t ∈ f.params.toList, t < P.types.size)
    {tb : TypeId} (hrt : f.resultTypes = #[tb]) (hb : P.underlying tb = some .bool) (hv : s.vars = [])
    (hW : DataW.Whole enc P f.params.toList s.vars apart W args.toList ds gs before) (hs : s.fn H (ds ++ gs) = { results := [.lit (.bool true)], args := ds }) (ev : Evo W noF W') :
    s.post enc P f apart fresh handsOn again W args (.bool true) W' := by
  have hlt := fun p hp => hW.lt p hp
  have hW' := hW
  obtain ⟨p, q, h1, h2, rfl, hfz, hnd⟩ := hW
  rw [hv] at h2
  obtain ⟨rfl, rfl⟩ := trodVars_none h2
  simp only [List.append_nil] at hfz hnd hlt hW' hs
  have hres : ∀ (b : Nat) (sp : Nat → Bool) (hd : Bool), DataW.TrodAll enc P W' b sp hd f.resultTypes.toList ((Value.bool true).resultList f.resultTypes.size) (s.fn H ds).results [] := by
    intro b sp hd
    rw [hrt, hs]
    exact ⟨[], [], ⟨1, by simp [DataW.trod, hb, Value.cells]⟩, rfl, rfl⟩
  have hargs : ∀ sp : Nat → Bool, (∀ x ∈ p, sp x.block = true) → DataW.TrodAll enc P W' 0 sp true f.params.toList args.toList (s.fn H ds).args p := by
    intro sp hsp
    rw [hs]
    exact trodAll_stay ev K hz _ _ _ _ hts h1 sp hsp
  have hvars : ∀ sp : Nat → Bool, DataW.TrodVars enc P W' sp s.vars (s.fn H ds).vars [] := by
    intro sp; rw [hs, hv]; rfl
  have hold : ∀ x ∈ p, (fun b => decide (b < W.heap.size)) x.block = true := fun x hx => by simpa using hlt x hx
  refine ⟨ds, [], p, [], p, [], hW', by simpa using hres _ _ _, by simpa using hargs _ hold, by simpa using hvars _, evo_kept ev _, fun _ => ⟨?_, _, _, ([] ++ p) ++ [], ⟨[] ++ p, [], trodAll_append (hargs _ (fun _ _ => rfl)) (hres _ _ _), hvars _, rfl, ?_, ?_⟩, ?_⟩⟩
  · intro j t r h1 h2
    rw [hrt] at h1 h2
    cases j with
    | zero =>
      simp [Value.resultList] at h1 h2
      subst h1; subst h2
      simp [Value.okWide, hb, Cell.okWide, Cell.ok]
    | succ j => simp at h1
  · intro b off hp
    have hp' : MemPlace.cell b off ∈ p := by simpa using hp
    have := hfz b off hp'
    unfold World.frozen? at this ⊢
    rw [evo_keep ev (show b < W.heap.size from hlt _ hp')]; exact this
  · intro ha
    simpa using hnd ha
  · intro x hx _
    simpa using hx

/-! ### Arguments -/
theorem open_one (hS : ∀ b, ¬ S b) {n : Nat} {t : TypeId} {k : EK} {w0 : World} {r : Reach} {b0 : Nat} {v : Value} {d : DataW H} {ps : List MemPlace} (hk : lay P n t k = true) (h1 : ∀ fs, P.underlying t ≠ some (.struct fs))
    (hval : Value.okWide P w0 r b0 t v) (hd : DataW.Trod enc P w base spare held t v d ps) : ∃ y : k.α, (∀ a, k.enc y = [a] → Rel w S N a v) ∧ k.inR y ∧ k.bulk y ≤ Rows.uptoBulk d := by
  obtain ⟨fuel, hf⟩ := hd
  have hv : v.cells = #[v] := by
    cases v with
    | agg cs =>
      exfalso
      cases n with
      | zero => simp [lay] at hk
      | succ n =>
        simp only [lay] at hk
        unfold Value.okWide at hval
        split at hk
        · rename_i hu; simp [hu, Cell.okWide, Cell.ok] at hval
        · rename_i hu; simp [hu, Cell.okWide, Cell.ok] at hval
        · rename_i hu; simp [hu, Cell.okWide, Cell.ok] at hval
        · rename_i hu; simp [hu, Cell.okWide, Cell.ok] at hval
        · rename_i hu; exact h1 _ hu
        · cases hk
    | _ => rfl
  obtain ⟨hl, y, h2, h3, h4, _⟩ := lay_ok (N := N) hS n t k fuel _ _ hk hf
  refine ⟨y, fun a ha => h2 0 a v (by rw [ha]; rfl) (by rw [hv]; rfl), h3, h4⟩

theorem open_agg (hS : ∀ b, ¬ S b) {n : Nat} {t : TypeId} {k : EK} {w0 : World} {r : Reach} {b0 : Nat} {v : Value} {d : DataW H} {ps : List MemPlace} {fs : Array Field} (hk : lay P n t k = true) (h1 : P.underlying t = some (.struct fs))
    (hval : Value.okWide P w0 r b0 t v) (hd : DataW.Trod enc P w base spare held t v d ps) : ∃ y : k.α, Rel w S N (.agg (k.enc y)) v ∧ k.inR y ∧ k.bulk y ≤ Rows.uptoBulk d := by
  obtain ⟨fuel, hf⟩ := hd
  unfold Value.okWide at hval
  rw [h1] at hval
  obtain ⟨cs, rfl, hsz, _⟩ := hval
  obtain ⟨hl, y, h2, h3, h4, _⟩ := lay_ok (N := N) hS n t k fuel _ _ hk hf
  refine ⟨y, .agg _ _ (by rw [enc_length, ← hl]; simp [Value.cells]) fun j a u ha hu => h2 j a u ha ?_, h3, h4⟩
  rw [Nat.zero_add]
  simpa [Value.cells] using hu
end
end Go.Abs
