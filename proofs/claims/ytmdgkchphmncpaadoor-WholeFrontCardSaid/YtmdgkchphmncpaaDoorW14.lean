/- WholeFront: what is whole ahead of a place does not hang on what stands behind it: the law returns true, and what it was handed reads as it did (the card). Conditions: the package-level table starts as the program's text lays it. -/
import Derived.Test.YtmdgkchphmncpaaDoorW10
import Derived.Test.YtmdgkchphmncpaaDoorW13
namespace Go.Proofs.YtmdgkchphmncpaaDoor
open Go Go.Abs
set_option maxRecDepth 100000

theorem okb_plain {x : Int} (h : okb x = true) : plainB x = true := by
  unfold okb at h
  simp only [Bool.and_eq_true, Bool.not_eq_true', decide_eq_false_iff_not] at h
  unfold plainB
  simp only [Bool.and_eq_true, Bool.not_eq_true', decide_eq_false_iff_not, decide_eq_true_eq]
  omega
theorem rightI_D {a b e : Int} (h : rightI a b e = true) : rightD a b e = true := by
  unfold rightI at h
  simp only [Bool.and_eq_true, Bool.not_eq_true', decide_eq_false_iff_not, Bool.or_eq_true, decide_eq_true_eq] at h
  unfold rightD
  rw [okb_plain h.1, okb_plain h.2.1]
  simp only [Bool.true_and, Bool.and_eq_true, Bool.not_eq_true', decide_eq_false_iff_not]
  omega
theorem front3_true {P Q : Int × Int × Rows3} {k : Int} (hF : FrontOK P Q k) (n : Nat) (h1 : P.1 = 0 → n + 1 ≤ P.2.2.length ∨ n = 0 ∧ P.2.2.length = 0) (h2 : n ≤ P.2.2.length) (hs : P.2.2.length ≤ 1000) (hr : ∀ r ∈ P.2.2, r.length ≤ 100000) : front3 P Q n = some (.bool true, []) := by
  obtain ⟨h3, h4⟩ := hF.pre n h1 h2
  have hall : P.2.2.all (fun r => decide (r.length ≤ LIM)) = true := List.all_eq_true.2 fun r hr' => decide_eq_true (by have := hr r hr'; unfold LIM; omega)
  unfold front3
  rw [decide_eq_false (by omega : ¬ (Q.2.2.length : Int) < n), decide_eq_true (by omega : (0 : Int) ≤ n), decide_eq_true (by omega : (n : Int) ≤ P.2.2.length), decide_eq_true (by omega : (n : Int) ≤ Q.2.2.length), decide_eq_true (by omega : (n : Int) ≤ 1000000), decide_eq_true (show P.2.2.take (n : Int).toNat = Q.2.2.take (n : Int).toNat from h4), hall]
  rfl
theorem front2_true {P Q : Int × Int × Rows3} {k : Int} (hF : FrontOK P Q k) (hs : P.2.2.length ≤ 1000) (hr : ∀ r ∈ P.2.2, r.length ≤ 100000) : front2 P Q = some (.bool true, []) := by
  unfold front2
  by_cases h0 : P.1 = 0
  · rw [decide_eq_true h0]
    by_cases hn : (0 : Int) < P.2.2.length
    · rw [decide_eq_true hn, wrap64 (by omega) (by omega)]
      have := front3_true hF (P.2.2.length - 1) (fun _ => .inl (by omega)) (by omega) hs hr
      rw [show ((P.2.2.length - 1 : Nat) : Int) = (P.2.2.length : Int) - 1 by omega] at this
      exact this
    · rw [decide_eq_false hn]
      exact front3_true hF P.2.2.length (fun _ => .inr ⟨by omega, by omega⟩) (Nat.le_refl _) hs hr
  · rw [decide_eq_false h0]
    exact front3_true hF P.2.2.length (fun h => absurd h h0) (Nat.le_refl _) hs hr
theorem front_true (d : D3) (t : List UInt8) (at' : Int) (hd1 : 0 ≤ d.1 ∧ d.1 ≤ 255) (hd2 : 0 ≤ d.2.1 ∧ d.2.1 ≤ 255) (ha : 0 ≤ at' ∧ at' ≤ 65535) : (evFn XQ LQ Tryd.f4 [dAV d, .str t, .int .u16 at'] []).get = some (.bool true, []) := by
  rw [front_ev]
  by_cases hl : t.length ≤ 300
  · rw [decide_eq_false (by omega : ¬ (300 : Int) < t.length), wrap64 (n := d.1) (by omega) (by omega), wrap64 (n := d.2.1) (by omega) (by omega)]
    simp only [cond_false]
    cases hI : rightI d.1 d.2.1 d.2.2 with
    | false => rfl
    | true =>
      have hD := rightI_D hI
      have hw : IntKind.i64.wrap ((t.length : Int) + 1) = (t.length : Int) + 1 := wrap64 (by omega) (by omega)
      have hk : kF t at' = at'.tmod ((t.length : Int) + 1) := by unfold kF; rw [hw, wrap64 (by omega) (by omega)]
      have hk0 : 0 ≤ kF t at' := by rw [hk]; exact Int.tmod_nonneg _ ha.1
      have hk1 : kF t at' < (t.length : Int) + 1 := by rw [hk]; exact Int.tmod_lt_of_pos _ (by omega)
      obtain ⟨n, hn⟩ : ∃ n : Nat, kF t at' = n := ⟨(kF t at').toNat, by omega⟩
      rw [hn] at hk0 hk1 ⊢
      rw [hw, decide_eq_false (by omega : ¬ (t.length : Int) + 1 = 0), decide_eq_true hk0, decide_eq_true (by omega : (n : Int) ≤ t.length)]
      simp only [Bool.not_true, Bool.not_false, cond_false, cond_true, Bool.and_true, Int.toNat_natCast]
      have hlen : (t.take n).length ≤ 300 := by rw [List.length_take]; omega
      rw [decide_eq_true (by omega : (t.take n).length ≤ 100000), decide_eq_true (by omega : t.length ≤ 100000)]
      simp only [cond_true]
      have hF := front_all hD t n (by omega) hl
      obtain ⟨s1, s2⟩ := short_walk d wideL (t.take n)
      have hr : ∀ r ∈ (walkP d wideL (t.take n)).2.2, r.length ≤ 100000 := fun r hr => Nat.le_trans (s1 r hr) (by omega)
      have h2 := front2_true hF (by omega) hr
      unfold front1
      rw [h2]
      by_cases h0 : (walkP d wideL (t.take n)).1 = 0
      · rw [decide_eq_true h0]; rfl
      · rw [decide_eq_false h0]
        by_cases hlt : (walkP d wideL (t.take n)).2.1 < (n : Int)
        · obtain ⟨e1, e2⟩ := hF.same h0 hlt
          rw [decide_eq_true hlt, decide_eq_true e1, decide_eq_true e2]; rfl
        · rw [decide_eq_false hlt]; rfl
  · rw [decide_eq_true (by omega : (300 : Int) < t.length)]; rfl
end Go.Proofs.YtmdgkchphmncpaaDoor
namespace Go.Proofs.YtmdgkchphmncpaaDoor.wholeFront
open Go.ChangeShapes Go.WideShapes Go.ChangeAt Go.RowKit Go.Abs
set_option maxRecDepth 100000
abbrev dK : EK := .pair (.int .u8) (.pair (.int .u8) (.int .i64))

theorem contract (H : Type) (enc : TypeId × Value → H) (W : World) (base : Nat) (args : Array Value) (ds gs : List (DataW H)) (before : List MemPlace)
    (hval : ∀ (j : Nat) t v, Tryd.f4.params[j]? = some t → args[j]? = some v → Value.okWide Tryd.prog W .any base t v)
    (hW : DataW.Whole enc Tryd.prog Tryd.f4.params.toList Rows.wholeFrontSpec.vars false W args.toList ds gs before) (hL : laidMetH Tryd.prog Rows.wholeFrontRow.laid W) :
    Calls Tryd.prog 4 args W fun e W' => ∃ v, e = .returned v ∧ Rows.wholeFrontSpec.post enc Tryd.prog Tryd.f4 false true false false W args v W' := by
  have hW' := hW
  obtain ⟨p, q, hA0, hV, rfl, hfz, hnd⟩ := hW
  have hA : DataW.TrodAll enc Tryd.prog W 0 (fun _ => true) true Tryd.f4.params.toList args.toList ds p := hA0
  rw [Tryd.params4] at hA hval
  obtain ⟨v0, vs0, d0, ds0, p0, q0, hargs, rfl, rfl, h0, r0⟩ := trodAll_cons hA
  obtain ⟨v1, vs1, d1, ds1, p1, q1, rfl, rfl, rfl, h1, r1⟩ := trodAll_cons r0
  obtain ⟨v2, vs2, d2, ds2, p2, q2, rfl, rfl, rfl, h2, r2⟩ := trodAll_cons r1
  obtain ⟨rfl, rfl, rfl⟩ := trodAll_nil r2
  obtain rfl : args = #[v0, v1, v2] := by cases args; simp_all
  obtain ⟨rfl, rfl⟩ := trodVars_none hV
  clear hA0
  obtain ⟨y0, k0, din, -⟩ := open_agg (N := noN) (k := dK) (ss_none (N := noN)) (n := 4) (t := 23) (by kernel_rfl) Tryd.underlying23 (hval 0 23 v0 rfl rfl) h0
  obtain ⟨s, hs, -, -⟩ := open_one (N := noN) (k := .str) (ss_none (N := noN)) (n := 4) (t := 9) (by kernel_rfl) (fun fs h => by rw [Tryd.underlying9] at h; cases h) (hval 1 9 v1 rfl rfl) h1
  have k1 : Rel W (SS noF noN []) noN (.str s) v1 := hs _ rfl
  obtain ⟨n, hn, hin, -⟩ := open_one (N := noN) (k := .int .u16) (ss_none (N := noN)) (n := 4) (t := 45) (by kernel_rfl) (fun fs h => by rw [Tryd.underlying45] at h; cases h) (hval 2 45 v2 rfl rfl) h2
  have k2 : Rel W (SS noF noN []) noN (.int .u16 n) v2 := hn _ rfl
  have hb : 0 ≤ n ∧ n ≤ 65535 := by simpa [EK.inR, Lit.wf, IntKind.min, IntKind.max, IntKind.signed, IntKind.bits] using hin
  have hd : (0 ≤ y0.1 ∧ y0.1 ≤ 255) ∧ 0 ≤ y0.2.1 ∧ y0.2.1 ≤ 255 := by
    have h1 := din.1; have h2 := din.2.1
    constructor
    · simpa [EK.inR, Lit.wf, IntKind.min, IntKind.max, IntKind.signed, IntKind.bits] using h1
    · simpa [EK.inR, Lit.wf, IntKind.min, IntKind.max, IntKind.signed, IntKind.bits] using h2
  refine (law_calls (ctx_ok oku2) hm Tryd.func4 hcF LQ_ok (front_true y0 s n hd.1 hd.2 hb) #[v0, v1, v2] (tableG hL) ⟨rfl, fun j a v ha hv => ?_⟩).mono fun e W' ⟨he, ev⟩ => ⟨_, he, ?_⟩
  · match j with
    | 0 => cases ha; cases hv; exact k0
    | 1 => cases ha; cases hv; exact k1
    | 2 => cases ha; cases hv; exact k2
    | j + 3 => simp at ha
  · exact law_post (kids_rows laidB maps) elems (by rw [Tryd.params4]; decide +kernel) rfl (by kernel_rfl) rfl hW' rfl ev

def args0 : Array Value := #[.agg #[.int .u8 0, .int .u8 0, .int .i64 0], .string ⟨#[]⟩, .int .u16 0]
theorem laid_met (os : Os) : laidMet Tryd.prog Rows.wholeFrontRow.laid ((laidWorld os).forCall (fun _ _ => 0) ⟨#[], args0, []⟩).memory :=
  laidMet_of_run3 8 (by kernel_rfl) (by kernel_rfl) (by kernel_rfl)
theorem reads (os : Os) {H : Type} (enc : TypeId × Value → H) : ∃ ds places, DataW.whole enc Tryd.prog ((laidWorld os).forCall (fun _ _ => 0) ⟨#[], args0, []⟩).memory Tryd.f4.params.toList Rows.wholeFrontSpec.vars false args0.toList 8 = some (ds, [], places) ∧
    ds = [.agg [.lit (.int .u8 0), .lit (.int .u8 0), .lit (.int .i64 0)], .lit (.string []), .lit (.int .u16 0)] := by
  have hw : (DataW.whole enc Tryd.prog ((laidWorld os).forCall (fun _ _ => 0) ⟨#[], args0, []⟩).memory Tryd.f4.params.toList Rows.wholeFrontSpec.vars false args0.toList 8).map (fun x => (x.1, x.2.1)) =
      some ([.agg [.lit (.int .u8 0), .lit (.int .u8 0), .lit (.int .i64 0)], .lit (.string []), .lit (.int .u16 0)], []) := by kernel_rfl
  obtain ⟨⟨x1, x2, x3⟩, hx, hx1⟩ := Option.map_eq_some_iff.1 hw
  simp only [Prod.mk.injEq] at hx1
  obtain ⟨rfl, rfl⟩ := hx1
  exact ⟨_, x3, hx, rfl⟩

theorem lifted (os : Os) (started : os.Started) (H : Type) (enc : TypeId × Value → H) (F : Stop.Interp) :
    ReturnsInHanded {} Tryd.checked os 4 .any ((OpenSpec.ofChange Rows.wholeFrontSpec).preRow enc Tryd.prog Tryd.f4 Rows.wholeFrontRow.domain false Rows.wholeFrontRow.laid) (((OpenSpec.ofChange Rows.wholeFrontSpec).at F).post enc Tryd.prog Tryd.f4 false true false false) := by
  obtain ⟨ds, places, hx, hds⟩ := reads os enc
  subst hds
  refine returnsInHanded_of_row (C := Tryd.checked) (s := OpenSpec.ofChange Rows.wholeFrontSpec) own started (by kernel_rfl) Tryd.func4
    (witness_row_atRef (enc := enc) (C := Tryd.checked) false (laidWorld os) args0 rfl (by kernel_rfl) (by kernel_rfl) (by kernel_rfl)
      (OpenSpec.preRow_of_cond 8 hx (by kernel_rfl) (fun k hk => by cases hk) (by kernel_rfl) (laid_met os))) ?_
  intro W base args ds gs before hval hW _ _ _ hL _ _
  exact contract H enc W base args ds gs before hval hW hL

theorem said : Rows.WholeFrontSaid :=
  OpenClaim.holds_of_cond 4 Tryd.f4 rfl rfl rfl rfl rfl rfl rfl ⟨rfl, rfl, rfl, rfl, rfl⟩ rfl rfl rfl rfl rfl (by kernel_rfl) Tryd.func4 (by kernel_rfl)
    (of_decide_eq_true (by kernel_rfl)) (by unfold Func.isWrapper; first | (rw [if_pos (by decide +kernel)]; kernel_rfl) | (rw [if_neg (by decide +kernel)]; exact ⟨rfl, rfl⟩))
    (fun os started H enc _ F => by rw [OpenClaim.pre_eq_preRow]; exact lifted os started H enc F)

theorem plain (f : FuncId) (fn : Func) (hf : Tryd.pinned.checked.prog.funcNamed "quillpen/quillpenlaw06.WholeFront" = some f) (hfn : Tryd.pinned.checked.prog.funcs[f]? = some fn) :
    false = Tryd.pinned.checked.prog.looks [] ∧ ∀ (j : Nat) t, fn.params[j]? = some t → Tryd.pinned.checked.prog.wantsStandIn t = false := by
  obtain rfl : f = 4 := Option.some.inj ((show Tryd.prog.funcNamed "quillpen/quillpenlaw06.WholeFront" = some 4 by kernel_rfl).symm.trans hf) |>.symm
  obtain rfl : fn = Tryd.f4 := (Option.some.inj (Tryd.func4.symm.trans hfn)).symm
  refine ⟨by kernel_rfl, fun j t ht => ?_⟩
  rw [Tryd.params4] at ht
  have : t ∈ [23, 9, 45] := by simpa using Array.mem_of_getElem? ht
  have hall : ([23, 9, 45] : List Nat).all (fun t => !Tryd.prog.wantsStandIn t) = true := by kernel_rfl
  show Tryd.prog.wantsStandIn t = false
  simpa using List.all_eq_true.1 hall t this

/-- The card. -/
theorem card : Rows.WholeFrontCardSaid :=
  Claim7.holds_tied_plain_at .later [] _ _ _ _ said (fun _ h => by cases h) (by kernel_rfl) (fun _ h => by cases h) wholeFront_row_tie rfl ⟨rfl, rfl⟩ (by kernel_rfl) rfl plain (by kernel_rfl)
#print axioms card
end Go.Proofs.YtmdgkchphmncpaaDoor.wholeFront
