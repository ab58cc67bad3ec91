/- Sums (num's and the document's): what they do. Conditions: none. -/
import Derived.Test.YtpiphiieflnabaaDoorD15
import Derived.Laws.Externs
namespace Go.Proofs.YtpiphiieflnabaaDoor
open Go Go.Abs
set_option maxRecDepth 100000
variable {ev : Env}

/-! ### bits.Add64 -/
noncomputable def addC : Con where
  spec := fun args st => match args, st with
    | [.int .u64 x, .int .u64 y, .int .u64 c], [] => .need (decide (0 ≤ x) && (decide (0 ≤ y) && (decide (0 ≤ c) && decide (c ≤ 1)))) (.ret (.tup [.int .u64 ((x + y + c) % 18446744073709551616), .int .u64 ((x + y + c) / 18446744073709551616)], []))
    | _, _ => .no
  quiet := true
theorem okAdd : Con.ok Tryd.prog (G0 ev) 46 addC := by
  intro args st r st' h
  unfold addC at h
  dsimp only at h
  split at h
  · rename_i x y c
    obtain ⟨h1, hA⟩ := need_get h
    simp only [Bool.and_eq_true, decide_eq_true_eq] at h1
    obtain ⟨rfl, rfl⟩ := Prod.mk.inj (ret_get hA)
    intro F w N vs hF hM hR
    obtain ⟨u1, u2, u3, rfl, r1, r2, r3⟩ := relL3 hR
    rw [rel_int r1, rel_int r2, rel_int r3]
    refine .inr ⟨_, w, ?_, N, hM, .tup _ #[.int .u64 ((x + y + c) % 18446744073709551616), .int .u64 ((x + y + c) / 18446744073709551616)] rfl fun j a v ha hv => ?_, fun l hl => ⟨hl, rfl⟩⟩
    · rw [run_callFunc_extern Tryd.func46 (by kernel_rfl) (by kernel_rfl) (by kernel_rfl) (e := add64Entry) (by kernel_rfl), run_add64 x y c h1.1 h1.2.1 h1.2.2.1 h1.2.2.2]
      rfl
    · match j with
      | 0 => cases ha; cases hv; exact .int _ _
      | 1 => cases ha; cases hv; exact .int _ _
      | j + 2 => simp at ha
  · exact (no_get h).elim

/-! ### num.Sum -/
def sumS (p : Int × Int) (n : Int) : Int × Int :=
  (W64 (p.1 + W64 (n.fdiv 9223372036854775808 + W64 ((p.2 + IntKind.u64.wrap n + 0) / 18446744073709551616))), (p.2 + IntKind.u64.wrap n + 0) % 18446744073709551616)
noncomputable def cA : Code := Tryd.f23.body.getD .skip
noncomputable def bodyA : Code := (loopAt cA 0).getD .skip
theorem hcA : Tryd.f23.body = some cA := by kernel_rfl
theorem hbA : loopAt cA 0 = some bodyA := by kernel_rfl
noncomputable def a1 : List (Nat × Con) := [(46, addC)]
theorem oka1 : AllOK Tryd.prog (G0 ev) a1 := ⟨okAdd, trivial⟩
noncomputable abbrev XA (ev : Env) : Ctx := ctx Tryd.prog (G0 ev) a1
abbrev iK : EK := .int .i64
noncomputable def SA (p : Int × Int) (l : List iK.α) (n i : Int) : St := stOf Tryd.f23.ntmps [4, 5, 11, 12, 13] [.int .i64 p.1, .int .u64 p.2, .seq iK l, .int .i64 n, .int .i64 i] []
noncomputable def OA (p : Int × Int) : St := stOf Tryd.f23.ntmps [4, 5] [.int .i64 p.1, .int .u64 p.2] []
theorem roundA (hi lo : Int) (l : List Int) (n i : Int) (T : St → Tr (Ex × St)) : (evRound (XA ev) noL [] bodyA 1 [4, 5, 11, 12, 13] [4, 5] (SA (hi, lo) l n i) T).get =
    cond (decide (i < n)) (cond (decide (0 ≤ i)) (atL l i.toNat fun x => cond (decide (0 ≤ lo) && (decide (0 ≤ IntKind.u64.wrap x) && (decide ((0 : Int) ≤ 0) && decide ((0 : Int) ≤ 1)))) (T (SA (sumS (hi, lo) x) l n (W64 (i + 1)))).get none) none) (some (.exit 0, OA (hi, lo))) := by kernel_rfl
theorem loopAd (l : List Int) (hl : l.length ≤ LIM) : LoopSem (XA ev) [] bodyA (SA (0, 0) l l.length 0) (.exit 0, OA (l.foldl sumS (0, 0))) := by
  have := loop_meas (X := XA ev) (ctx_ok oka1) hm (L := noL) (n0 := []) (body := bodyA) (off := 1) (live := [4, 5, 11, 12, 13]) (out := [4, 5]) noL_ok (fun q : Nat × (Int × Int) => SA q.2 l l.length q.1) (fun q => (.exit 0, OA ((l.drop q.1).foldl sumS q.2))) (fun q => l.length - q.1) (fun q => q.1 ≤ l.length ∧ 0 ≤ q.2.2) ?_ (0, (0, 0)) (by simp)
  · simpa using this
  rintro ⟨i, hi, lo⟩ ⟨h1, h2⟩
  dsimp only at h1 h2 ⊢
  unfold LIM at hl
  by_cases he : i < l.length
  · have hx : l[i]? = some l[i] := List.getElem?_eq_getElem he
    have hw : W64 ((i : Int) + 1) = ((i + 1 : Nat) : Int) := by rw [show W64 ((i : Int) + 1) = (i : Int) + 1 from w64 (by omega) (by omega)]; simp
    refine .inr ⟨(i + 1, sumS (hi, lo) l[i]), ?_, ?_, ?_, fun T => ?_⟩
    · refine ⟨by dsimp only; omega, ?_⟩
      show 0 ≤ (lo + IntKind.u64.wrap l[i] + 0) % 18446744073709551616
      omega
    · dsimp only; omega
    · dsimp only; rw [List.drop_eq_getElem_cons he, List.foldl_cons]
    · rw [roundA, decide_eq_true (by omega : (i : Int) < l.length), decide_eq_true (by omega : (0 : Int) ≤ i), atL_some (show (l : List iK.α)[(i : Int).toNat]? = some _ from hx), hw, decide_eq_true h2, decide_eq_true (by rw [wu64]; omega : 0 ≤ IntKind.u64.wrap l[i])]
      rfl
  · have : i = l.length := by omega
    subst this
    refine .inl fun T => ?_
    rw [roundA, decide_eq_false (by omega), List.drop_of_length_le (Nat.le_refl _)]
    rfl
noncomputable def specA (vals : List AV) (st : Store) : Tr (Ex × St) :=
  match vals, st with
  | [.int .i64 h, .int .u64 lo, .seq (.int .i64) l, .int .i64 n, .int .i64 i], [] => .need (decide (i = 0) && (decide (h = 0) && decide (lo = 0))) (.need (decide (n = (List.length (α := Int) l : Int)) && decide (List.length (α := Int) l ≤ LIM)) (.ret (.exit 0, OA (List.foldl sumS (0, 0) l))))
  | _, _ => .no
theorem specA_ok : LoopOK (XA ev) [] bodyA Tryd.f23.ntmps [4, 5, 11, 12, 13] specA := by
  intro vals st r h
  unfold specA at h
  split at h
  · rename_i hi lo l n i
    obtain ⟨h1, hA⟩ := need_get h
    obtain ⟨h2, hB⟩ := need_get hA
    simp only [Bool.and_eq_true, decide_eq_true_eq] at h1 h2
    rw [h1.1, h1.2.1, h1.2.2, h2.1, ← ret_get hB]
    exact loopAd l h2.2
  · exact (no_get h).elim
noncomputable def LA : Nat → St → Tr (Ex × St) := loops [(0, loopL [] Tryd.f23.ntmps [4, 5, 11, 12, 13] specA)]
theorem sum_ev (l : List Int) : (evFn (XA ev) LA Tryd.f23 [.seq iK l] []).get =
    cond (decide ((l.length : Int) = (l.length : Int)) && decide (l.length ≤ LIM)) (cond (decide ((l.foldl sumS (0, 0)).1 = (W64 (l.foldl sumS (0, 0)).2).fdiv 9223372036854775808)) (i2 (W64 (l.foldl sumS (0, 0)).2, 0)) (i2 (0, 18))) none := by kernel_rfl

/-! ### The document's Sum -/
def sumR (p : Int × Int) (n : Int) : Int × Int :=
  let q := cond (decide (n.tmod 4294967296 < 0)) (W64 (W64 (n.tdiv 4294967296) - 1)) (W64 (n.tdiv 4294967296))
  let r := cond (decide (n.tmod 4294967296 < 0)) (W64 (n.tmod 4294967296 + 4294967296)) (n.tmod 4294967296)
  (W64 (W64 (p.1 + q) + W64 ((W64 (p.2 + r)).tdiv 4294967296)), (W64 (p.2 + r)).tmod 4294967296)
noncomputable def cB : Code := Tryd.f24.body.getD .skip
noncomputable def bodyB : Code := (loopAt cB 0).getD .skip
theorem hcB : Tryd.f24.body = some cB := by kernel_rfl
theorem hbB : loopAt cB 0 = some bodyB := by kernel_rfl
noncomputable abbrev XB (ev : Env) : Ctx := ctx Tryd.prog (G0 ev) []
noncomputable def SB (p : Int × Int) (l : List iK.α) (n i : Int) : St := stOf Tryd.f24.ntmps [4, 5, 10, 11, 12] [.int .i64 p.1, .int .i64 p.2, .seq iK l, .int .i64 n, .int .i64 i] []
noncomputable def OB (p : Int × Int) : St := stOf Tryd.f24.ntmps [4, 5] [.int .i64 p.1, .int .i64 p.2] []
theorem roundB (hi lo : Int) (l : List Int) (n i : Int) (T : St → Tr (Ex × St)) : (evRound (XB ev) noL [] bodyB 1 [4, 5, 10, 11, 12] [4, 5] (SB (hi, lo) l n i) T).get =
    cond (decide (i < n)) (cond (decide (0 ≤ i)) (atL l i.toNat fun x => cond (decide (x.tmod 4294967296 < 0))
      (T (SB (W64 (W64 (hi + W64 (W64 (x.tdiv 4294967296) - 1)) + W64 ((W64 (lo + W64 (x.tmod 4294967296 + 4294967296))).tdiv 4294967296)), (W64 (lo + W64 (x.tmod 4294967296 + 4294967296))).tmod 4294967296) l n (W64 (i + 1)))).get
      (T (SB (W64 (W64 (hi + W64 (x.tdiv 4294967296)) + W64 ((W64 (lo + x.tmod 4294967296)).tdiv 4294967296)), (W64 (lo + x.tmod 4294967296)).tmod 4294967296) l n (W64 (i + 1)))).get) none) (some (.exit 0, OB (hi, lo))) := by kernel_rfl
theorem loopBd (l : List Int) (hl : l.length ≤ LIM) : LoopSem (XB ev) [] bodyB (SB (0, 0) l l.length 0) (.exit 0, OB (l.foldl sumR (0, 0))) := by
  have := loop_meas (X := XB ev) (ctx_ok (l := []) trivial) hm (L := noL) (n0 := []) (body := bodyB) (off := 1) (live := [4, 5, 10, 11, 12]) (out := [4, 5]) noL_ok (fun q : Nat × (Int × Int) => SB q.2 l l.length q.1) (fun q => (.exit 0, OB ((l.drop q.1).foldl sumR q.2))) (fun q => l.length - q.1) (fun q => q.1 ≤ l.length) ?_ (0, (0, 0)) (by simp)
  · simpa using this
  rintro ⟨i, hi, lo⟩ h1
  dsimp only at h1 ⊢
  unfold LIM at hl
  by_cases he : i < l.length
  · have hx : l[i]? = some l[i] := List.getElem?_eq_getElem he
    have hw : W64 ((i : Int) + 1) = ((i + 1 : Nat) : Int) := by rw [show W64 ((i : Int) + 1) = (i : Int) + 1 from w64 (by omega) (by omega)]; simp
    refine .inr ⟨(i + 1, sumR (hi, lo) l[i]), ?_, ?_, ?_, fun T => ?_⟩
    · dsimp only; omega
    · dsimp only; omega
    · dsimp only; rw [List.drop_eq_getElem_cons he, List.foldl_cons]
    · rw [roundB, decide_eq_true (by omega : (i : Int) < l.length), decide_eq_true (by omega : (0 : Int) ≤ i), atL_some (show (l : List iK.α)[(i : Int).toNat]? = some _ from hx), hw]
      unfold sumR
      cases decide (l[i].tmod 4294967296 < 0) <;> rfl
  · have : i = l.length := by omega
    subst this
    refine .inl fun T => ?_
    rw [roundB, decide_eq_false (by omega), List.drop_of_length_le (Nat.le_refl _)]
    rfl
noncomputable def specB (vals : List AV) (st : Store) : Tr (Ex × St) :=
  match vals, st with
  | [.int .i64 h, .int .i64 lo, .seq (.int .i64) l, .int .i64 n, .int .i64 i], [] => .need (decide (i = 0) && (decide (h = 0) && decide (lo = 0))) (.need (decide (n = (List.length (α := Int) l : Int)) && decide (List.length (α := Int) l ≤ LIM)) (.ret (.exit 0, OB (List.foldl sumR (0, 0) l))))
  | _, _ => .no
theorem specB_ok : LoopOK (XB ev) [] bodyB Tryd.f24.ntmps [4, 5, 10, 11, 12] specB := by
  intro vals st r h
  unfold specB at h
  split at h
  · rename_i hi lo l n i
    obtain ⟨h1, hA⟩ := need_get h
    obtain ⟨h2, hB⟩ := need_get hA
    simp only [Bool.and_eq_true, decide_eq_true_eq] at h1 h2
    rw [h1.1, h1.2.1, h1.2.2, h2.1, ← ret_get hB]
    exact loopBd l h2.2
  · exact (no_get h).elim
noncomputable def LB : Nat → St → Tr (Ex × St) := loops [(0, loopL [] Tryd.f24.ntmps [4, 5, 10, 11, 12] specB)]
theorem rsum_ev (l : List Int) : (evFn (XB ev) LB Tryd.f24 [.seq iK l] []).get =
    cond (decide ((l.length : Int) = (l.length : Int)) && decide (l.length ≤ LIM)) (cond (decide ((l.foldl sumR (0, 0)).1 < -2147483648)) (i2 (0, 18)) (cond (decide (2147483647 < (l.foldl sumR (0, 0)).1)) (i2 (0, 18))
      (i2 (W64 (W64 ((l.foldl sumR (0, 0)).1 * 4294967296) + (l.foldl sumR (0, 0)).2), 0)))) none := by kernel_rfl
end Go.Proofs.YtpiphiieflnabaaDoor
