/- quillpenref05.Same: are two records one. Conditions: none. -/
import Derived.Test.YtmdgkchphmncpaaDoorF06
namespace Go.Proofs.YtmdgkchphmncpaaDoor
open Go Go.Abs
set_option maxRecDepth 100000

/-! ### Same -/
noncomputable def c12 : Code := Tryd.f15.body.getD .skip
noncomputable def body12 : Code := (loopAt c12 0).getD .skip
theorem hc12 : Tryd.f15.body = some c12 := by kernel_rfl
theorem hb12 : loopAt c12 0 = some body12 := by kernel_rfl
noncomputable def S12 (a b : List (List UInt8)) (n i : Int) : St := stOf Tryd.f15.ntmps [0, 1, 12, 13] [.seq .str a, .seq .str b, .int .i64 n, .int .i64 i] []
noncomputable def O12 (r : AV) : St := stOf Tryd.f15.ntmps [4] [r] []
theorem round12 (a b : List (List UInt8)) (n i : Int) (T : St → Tr (Ex × St)) : (evRound (ctx Tryd.prog G0 []) noL [] body12 1 [0, 1, 12, 13] [4] (S12 a b n i) T).get =
    cond (decide (i < n)) (cond (decide (0 ≤ i)) (atL a i.toNat fun x => cond (decide (0 ≤ i)) (atL b i.toNat fun y => cond (!decide (x = y)) (some (.ret, O12 (.bool false))) (T (S12 a b n (IntKind.i64.wrap (i + 1)))).get) none) none) (some (.exit 0, O12 .top)) := by kernel_rfl

noncomputable def res12 (b : Bool) : Ex × St := cond b (.exit 0, O12 .top) (.ret, O12 (.bool false))
theorem loop12 (a b : List (List UInt8)) (h : a.length = b.length) (hl : a.length ≤ LIM) : LoopSem (ctx Tryd.prog G0 []) [] body12 (S12 a b a.length 0) (res12 (decide (a = b))) := by
  have := loop_meas (X := ctx Tryd.prog G0 []) (ctx_ok (l := []) trivial) hm (L := noL) (n0 := []) (body := body12) (off := 1) (live := [0, 1, 12, 13]) (out := [4]) noL_ok (fun i : Nat => S12 a b a.length i) (fun i => res12 (decide (a.drop i = b.drop i))) (fun i => a.length - i) (fun i => i ≤ a.length) ?_ 0 (by omega)
  · simpa using this
  intro i hi
  unfold LIM at hl
  by_cases he : i < a.length
  · have ha : a[i]? = some a[i] := List.getElem?_eq_getElem he
    have hb : b[i]? = some (b[i]'(by omega)) := List.getElem?_eq_getElem (by omega)
    have hw : IntKind.i64.wrap ((i : Int) + 1) = ((i + 1 : Nat) : Int) := by rw [wrap64 (by omega) (by omega)]; simp
    have hd : a.drop i = b.drop i ↔ a[i] = b[i]'(by omega) ∧ a.drop (i + 1) = b.drop (i + 1) := by
      rw [List.drop_eq_getElem_cons he, List.drop_eq_getElem_cons (by omega : i < b.length), List.cons.injEq]
    by_cases hx : a[i] = b[i]'(by omega)
    · refine .inr ⟨i + 1, by omega, by omega, congrArg res12 (decide_eq_decide.2 (hd.trans ⟨fun h => h.2, fun h => ⟨hx, h⟩⟩)), fun T => ?_⟩
      rw [round12, decide_eq_true (by omega : (i : Int) < a.length), decide_eq_true (by omega : (0 : Int) ≤ i), atL_some (show a[(i : Int).toNat]? = some _ from ha), atL_some (show b[(i : Int).toNat]? = some _ from hb), decide_eq_true hx, hw]
      rfl
    · refine .inl fun T => ?_
      rw [round12, decide_eq_true (by omega : (i : Int) < a.length), decide_eq_true (by omega : (0 : Int) ≤ i), atL_some (show a[(i : Int).toNat]? = some _ from ha), atL_some (show b[(i : Int).toNat]? = some _ from hb), decide_eq_false hx, decide_eq_false (fun h => hx (hd.1 h).1)]
      rfl
  · have : i = a.length := by omega
    subst this
    refine .inl fun T => ?_
    rw [round12, decide_eq_false (by omega), List.drop_of_length_le (Nat.le_refl _), List.drop_of_length_le (by omega)]
    rfl

noncomputable def spec12 (vals : List AV) (st : Store) : Tr (Ex × St) :=
  match vals, st with
  | [.seq .str a, .seq .str b, .int .i64 n, .int .i64 i], [] => .need (decide (i = 0)) (.need (decide (n = a.length) && decide (a.length = b.length) && decide (a.length ≤ LIM)) (.br (decide (a = b)) (.ret (.exit 0, O12 .top)) (.ret (.ret, O12 (.bool false)))))
  | _, _ => .no
theorem spec12_ok : LoopOK (ctx Tryd.prog G0 []) [] body12 Tryd.f15.ntmps [0, 1, 12, 13] spec12 := by
  intro vals st r h
  unfold spec12 at h
  split at h
  · rename_i a b n i
    obtain ⟨h1, hA⟩ := need_get h
    obtain ⟨h2, hB⟩ := need_get hA
    simp only [Bool.and_eq_true, decide_eq_true_eq] at h1 h2
    have := loop12 a b h2.1.2 h2.2
    rw [h1, h2.1.1]
    cases hd : decide (a = b) <;> rw [hd] at hB this <;> have e := ret_get hB <;> rw [← e] <;> exact this
  · exact (no_get h).elim

noncomputable def L12 : Nat → St → Tr (Ex × St) := loops [(0, loopL [] Tryd.f15.ntmps [0, 1, 12, 13] spec12)]
theorem same_ev (a b : List (List UInt8)) : (evFn (ctx Tryd.prog G0 []) L12 Tryd.f15 [.seq .str a, .seq .str b] []).get =
    cond (!decide ((a.length : Int) = b.length)) (some (.bool false, [])) (cond (decide ((a.length : Int) = a.length) && decide (a.length = b.length) && decide (a.length ≤ LIM))
      (cond (decide (a = b)) (some (.bool true, [])) (some (.bool false, []))) none) := by kernel_rfl
noncomputable def sameC : Con where
  spec := fun args st =>
    match args, st with
    | [.seq .str a, .seq .str b], [] => .need (decide (a.length ≤ LIM)) (.ret (.bool (decide (a = b)), []))
    | _, _ => .no
  quiet := true
theorem okSame : Con.ok Tryd.prog G0 15 sameC :=
  loop_spec (l := []) trivial hm Tryd.func15 hc12 (by kernel_rfl) fun args st r h => by
    unfold sameC at h
    dsimp only at h
    split at h
    · rename_i a b
      obtain ⟨h1, h2⟩ := need_get h
      refine ⟨L12, loops_one (by kernel_rfl) hb12 spec12_ok, ?_⟩
      rw [same_ev, ← ret_get h2, h1]
      by_cases hl : a.length = b.length
      · rw [decide_eq_true (show (a.length : Int) = b.length by omega), decide_eq_true hl, decide_eq_true (rfl : (a.length : Int) = a.length)]
        cases decide (a = b) <;> rfl
      · rw [decide_eq_false (show ¬ (a.length : Int) = b.length by omega), decide_eq_false (fun e => hl (congrArg List.length e))]
        rfl
    · exact (no_get h).elim
end Go.Proofs.YtmdgkchphmncpaaDoor
