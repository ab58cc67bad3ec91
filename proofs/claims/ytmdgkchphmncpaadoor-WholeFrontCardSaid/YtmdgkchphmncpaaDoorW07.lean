/- quillpenref05.SameTable; WholeLimits' loops and tree. (under way) -/
import Derived.Test.YtmdgkchphmncpaaDoorW06
namespace Go.Proofs.YtmdgkchphmncpaaDoor
open Go Go.Abs
set_option maxRecDepth 100000

/-! ### SameTable -/
noncomputable def y1 : List (Nat × Con) := [(15, sameC)]
theorem oky1 : AllOK Tryd.prog G0 y1 := ⟨okSame, trivial⟩
noncomputable abbrev XY : Ctx := ctx Tryd.prog G0 y1
noncomputable def cY : Code := Tryd.f14.body.getD .skip
noncomputable def bodyY : Code := (loopAt cY 0).getD .skip
theorem hcY : Tryd.f14.body = some cY := by kernel_rfl
theorem hbY : loopAt cY 0 = some bodyY := by kernel_rfl
noncomputable def SY (a b : Rows3) (n i : Int) : St := stOf Tryd.f14.ntmps [0, 1, 12, 13] [.seq rowsK a, .seq rowsK b, .int .i64 n, .int .i64 i] []
noncomputable def OY (r : AV) : St := stOf Tryd.f14.ntmps [4] [r] []
theorem roundY (a b : Rows3) (n i : Int) (T : St → Tr (Ex × St)) : (evRound XY noL [] bodyY 1 [0, 1, 12, 13] [4] (SY a b n i) T).get =
    cond (decide (i < n)) (cond (decide (0 ≤ i)) (atL a i.toNat fun x => cond (decide (0 ≤ i)) (atL b i.toNat fun y => cond (decide (x.length ≤ LIM)) (cond (!decide (x = y)) (some (.ret, OY (.bool false))) (T (SY a b n (IntKind.i64.wrap (i + 1)))).get) none) none) none) (some (.exit 0, OY .top)) := by kernel_rfl
noncomputable def resY (b : Bool) : Ex × St := cond b (.exit 0, OY .top) (.ret, OY (.bool false))
theorem loopY (a b : Rows3) (h : a.length = b.length) (hl : a.length ≤ LIM) (hr : ∀ r ∈ a, r.length ≤ LIM) : LoopSem XY [] bodyY (SY a b a.length 0) (resY (decide (a = b))) := by
  have := loop_meas (X := XY) (ctx_ok oky1) hm (L := noL) (n0 := []) (body := bodyY) (off := 1) (live := [0, 1, 12, 13]) (out := [4]) noL_ok (fun i : Nat => SY a b a.length i) (fun i => resY (decide (a.drop i = b.drop i))) (fun i => a.length - i) (fun i => i ≤ a.length) ?_ 0 (by omega)
  · simpa using this
  intro i hi
  unfold LIM at hl
  by_cases he : i < a.length
  · have ha : a[i]? = some a[i] := List.getElem?_eq_getElem he
    have hb : b[i]? = some (b[i]'(by omega)) := List.getElem?_eq_getElem (by omega)
    have hw : IntKind.i64.wrap ((i : Int) + 1) = ((i + 1 : Nat) : Int) := by rw [wrap64 (by omega) (by omega)]; simp
    have hd : a.drop i = b.drop i ↔ a[i] = b[i]'(by omega) ∧ a.drop (i + 1) = b.drop (i + 1) := by
      rw [List.drop_eq_getElem_cons he, List.drop_eq_getElem_cons (by omega : i < b.length), List.cons.injEq]
    by_cases hx : a[i] = b[i]'(by omega)
    · refine .inr ⟨i + 1, by omega, by omega, congrArg resY (decide_eq_decide.2 (hd.trans ⟨fun h => h.2, fun h => ⟨hx, h⟩⟩)), fun T => ?_⟩
      rw [roundY, decide_eq_true (by omega : (i : Int) < a.length), decide_eq_true (by omega : (0 : Int) ≤ i), atL_some (show a[(i : Int).toNat]? = some _ from ha), atL_some (show b[(i : Int).toNat]? = some _ from hb), decide_eq_true (hr _ (List.getElem_mem he)), decide_eq_true hx, hw]
      rfl
    · refine .inl fun T => ?_
      rw [roundY, decide_eq_true (by omega : (i : Int) < a.length), decide_eq_true (by omega : (0 : Int) ≤ i), atL_some (show a[(i : Int).toNat]? = some _ from ha), atL_some (show b[(i : Int).toNat]? = some _ from hb), decide_eq_true (hr _ (List.getElem_mem he)), decide_eq_false hx, decide_eq_false (fun h => hx (hd.1 h).1)]
      rfl
  · have : i = a.length := by omega
    subst this
    refine .inl fun T => ?_
    rw [roundY, decide_eq_false (by omega), List.drop_of_length_le (Nat.le_refl _), List.drop_of_length_le (by omega)]
    rfl
def shortR (a : Rows3) : Bool := decide (a.length ≤ LIM) && a.all fun r => decide (r.length ≤ LIM)
noncomputable def specY (vals : List AV) (st : Store) : Tr (Ex × St) :=
  match vals, st with
  | [.seq (.seq .str) a, .seq (.seq .str) b, .int .i64 n, .int .i64 i], [] => .need (decide (i = 0)) (.need (decide (n = a.length) && decide (a.length = b.length) && shortR a) (.br (decide (a = b)) (.ret (.exit 0, OY .top)) (.ret (.ret, OY (.bool false)))))
  | _, _ => .no
theorem specY_ok : LoopOK XY [] bodyY Tryd.f14.ntmps [0, 1, 12, 13] specY := by
  intro vals st r h
  unfold specY at h
  split at h
  · rename_i a b n i
    obtain ⟨h1, hA⟩ := need_get h
    obtain ⟨h2, hB⟩ := need_get hA
    simp only [shortR, Bool.and_eq_true, decide_eq_true_eq, List.all_eq_true] at h1 h2
    have := loopY a b h2.1.2 h2.2.1 h2.2.2
    rw [h1, h2.1.1]
    cases hd : decide (a = b) <;> rw [hd] at hB this <;> have e := ret_get hB <;> rw [← e] <;> exact this
  · exact (no_get h).elim
noncomputable def LY : Nat → St → Tr (Ex × St) := loops [(0, loopL [] Tryd.f14.ntmps [0, 1, 12, 13] specY)]
theorem table_ev (a b : Rows3) : (evFn XY LY Tryd.f14 [.seq rowsK a, .seq rowsK b] []).get =
    cond (!decide ((a.length : Int) = b.length)) (bo false) (cond (decide ((a.length : Int) = a.length) && decide (a.length = b.length) && shortR a) (cond (decide (a = b)) (bo true) (bo false)) none) := by kernel_rfl
noncomputable def tableC : Con where
  spec := fun args st => match args, st with
    | [.seq (.seq .str) a, .seq (.seq .str) b], [] => .need (shortR a) (.ret (.bool (decide (a = b)), []))
    | _, _ => .no
  quiet := true
theorem okTable : Con.ok Tryd.prog G0 14 tableC :=
  loop_spec oky1 hm Tryd.func14 hcY (by kernel_rfl) fun args st r h => by
    unfold tableC at h
    dsimp only at h
    split at h
    · rename_i a b
      obtain ⟨h1, h2⟩ := need_get h
      refine ⟨LY, loops_ok ⟨loop_entry (n := 0) hbY specY_ok, trivial⟩, ?_⟩
      show (evFn XY LY Tryd.f14 [.seq rowsK a, .seq rowsK b] []).get = _
      rw [table_ev, ← ret_get h2, h1]
      by_cases hl : a.length = b.length
      · rw [decide_eq_true (show (a.length : Int) = b.length by omega), decide_eq_true hl, decide_eq_true (rfl : (a.length : Int) = a.length)]
        cases decide (a = b) <;> rfl
      · rw [decide_eq_false (show ¬ (a.length : Int) = b.length by omega), decide_eq_false (fun e => hl (congrArg List.length e))]
        rfl
    · exact (no_get h).elim

/-! ### WholeLimits -/
noncomputable def v3 : List (Nat × Con) := (14, tableC) :: v2
theorem okv3 : AllOK Tryd.prog G0 v3 := ⟨okTable, okv2⟩
noncomputable abbrev XM : Ctx := ctx Tryd.prog G0 v3
noncomputable def cM : Code := Tryd.f5.body.getD .skip
noncomputable def bodyM : Code := (loopAt cM 0).getD .skip
noncomputable def bodyMi : Code := (loopAt cM 1).getD .skip
theorem hcM : Tryd.f5.body = some cM := by kernel_rfl
theorem hbM : loopAt cM 0 = some bodyM := by kernel_rfl
theorem hbMi : loopAt bodyM 0 = some bodyMi := by kernel_rfl
abbrev L4 : Type := Int × Int × Int × Bool
def lCells (l : L4) : List AV := [.int .i64 l.1, .int .i64 l.2.1, .int .i64 l.2.2.1, .bool l.2.2.2]
noncomputable def mSt (d : D3) (l : L4) (a : Rows3) : Store := [.cells (dCells d), .cells (lCells l), .row rowsK a]
noncomputable def SM (d : D3) (l : L4) (t : List UInt8) (a : Rows3) (n i : Int) : St := stOf Tryd.f5.ntmps [2, 3, 4, 7, 30, 31, 32] [.str t, .ptr 0 0, .ptr 1 0, .whole 2, .whole 2, .int .i64 n, .int .i64 i] (mSt d l a)
noncomputable def OM (d : D3) (l : L4) (t : List UInt8) (a : Rows3) : St := stOf Tryd.f5.ntmps [2, 3, 4, 7, 6] [.str t, .ptr 0 0, .ptr 1 0, .whole 2, .top] (mSt d l a)
noncomputable def SMi (d : D3) (l : L4) (t : List UInt8) (a : Rows3) (n i : Int) (r : List (List UInt8)) (k j : Int) : St :=
  stOf Tryd.f5.ntmps [2, 3, 4, 7, 30, 31, 32, 59, 60, 61] [.str t, .ptr 0 0, .ptr 1 0, .whole 2, .whole 2, .int .i64 n, .int .i64 i, .seq .str r, .int .i64 k, .int .i64 j] (mSt d l a)
noncomputable def OMi (d : D3) (l : L4) (t : List UInt8) (a : Rows3) (n i : Int) (r : AV) : St :=
  stOf Tryd.f5.ntmps [2, 3, 4, 7, 30, 31, 32, 6] [.str t, .ptr 0 0, .ptr 1 0, .whole 2, .whole 2, .int .i64 n, .int .i64 i, r] (mSt d l a)
theorem roundMi (d : D3) (l : L4) (t : List UInt8) (a : Rows3) (n i : Int) (r : List (List UInt8)) (k j : Int) (T : St → Tr (Ex × St)) :
    (evRound XM noL [] bodyMi 2 [2, 3, 4, 7, 30, 31, 32, 59, 60, 61] [2, 3, 4, 7, 30, 31, 32, 6] (SMi d l t a n i r k j) T).get =
    cond (decide (j < k)) (cond (decide (0 ≤ j)) (atL r j.toNat fun x => cond (decide (l.1 < (x.length : Int))) (some (.ret, OMi d l t a n i (.bool false))) (T (SMi d l t a n i r k (IntKind.i64.wrap (j + 1)))).get) none) (some (.exit 2, OMi d l t a n i .top)) := by kernel_rfl
theorem loopMi (d : D3) (l : L4) (t : List UInt8) (a : Rows3) (n i : Int) (r : List (List UInt8)) (hl : r.length ≤ 1000000) (hr : ∀ x ∈ r, ¬ l.1 < (x.length : Int)) : LoopSem XM [] bodyMi (SMi d l t a n i r r.length 0) (.exit 2, OMi d l t a n i .top) := by
  have := loop_meas (X := XM) (ctx_ok okv3) hm (L := noL) (n0 := []) (body := bodyMi) (off := 2) (live := [2, 3, 4, 7, 30, 31, 32, 59, 60, 61]) (out := [2, 3, 4, 7, 30, 31, 32, 6]) noL_ok (fun j : Nat => SMi d l t a n i r r.length j) (fun _ => (.exit 2, OMi d l t a n i .top)) (fun j => r.length - j) (fun j => j ≤ r.length) ?_ 0 (by omega)
  · exact this
  intro j hj
  by_cases hlt : j < r.length
  · refine .inr ⟨j + 1, by omega, by omega, rfl, fun T => ?_⟩
    rw [roundMi, decide_eq_true (by omega : (j : Int) < r.length), decide_eq_true (by omega : (0 : Int) ≤ j), atL_some (show r[(j : Int).toNat]? = some _ from List.getElem?_eq_getElem hlt), decide_eq_false (hr _ (List.getElem_mem hlt)), wrap64 (by omega) (by omega)]
    rfl
  · have : j = r.length := by omega
    subst this
    exact .inl fun T => by rw [roundMi, decide_eq_false (by omega)]; rfl
def rowOK (l : L4) (r0 r : List (List UInt8)) : Bool := !decide ((r.length : Int) = 0) && (!decide (l.2.1 < (r.length : Int)) && ((!l.2.2.2 || decide ((r.length : Int) = r0.length)) && (decide (r.length ≤ 1000000) && r.all fun x => !decide (l.1 < (x.length : Int)))))
noncomputable def specMi (vals : List AV) (st : Store) : Tr (Ex × St) :=
  match vals, st with
  | [.str t, .ptr 0 0, .ptr 1 0, .whole 2, .whole 2, .int .i64 n, .int .i64 i, .seq .str r, .int .i64 k, .int .i64 j], [.cells [.int .u8 d1, .int .u8 d2, .int .i64 d3], .cells [.int .i64 a, .int .i64 b, .int .i64 c, .bool u], .row (.seq .str) o] =>
    .need (decide (j = 0)) (.need (decide (k = r.length) && decide (r.length ≤ 1000000) && r.all fun x => !decide (a < (x.length : Int))) (.ret (.exit 2, OMi (d1, d2, d3) (a, b, c, u) t o n i .top)))
  | _, _ => .no
theorem specMi_ok : LoopOK XM [] bodyMi Tryd.f5.ntmps [2, 3, 4, 7, 30, 31, 32, 59, 60, 61] specMi := by
  intro vals st r h
  unfold specMi at h
  split at h
  · rename_i t n i r' k j d1 d2 d3 a b c u o
    obtain ⟨h1, hA⟩ := need_get h
    obtain ⟨h2, hB⟩ := need_get hA
    have e := ret_get hB
    simp only [Bool.and_eq_true, decide_eq_true_eq, List.all_eq_true, Bool.not_eq_true', decide_eq_false_iff_not] at h1 h2
    rw [← e, h1, h2.1.1]
    exact loopMi (d1, d2, d3) (a, b, c, u) t o n i r' h2.1.2 h2.2
  · exact (no_get h).elim
noncomputable def LMi : Nat → St → Tr (Ex × St) := loops [(1, loopL [] Tryd.f5.ntmps [2, 3, 4, 7, 30, 31, 32, 59, 60, 61] specMi)]
theorem LMi_ok : LoopsAt XM LMi [] bodyM 1 := loops_ok ⟨loop_entry (off := 1) (n := 0) hbMi specMi_ok, trivial⟩
noncomputable def OMr (d : D3) (l : L4) (t : List UInt8) (a : Rows3) : St := stOf Tryd.f5.ntmps [2, 3, 4, 7, 6] [.str t, .ptr 0 0, .ptr 1 0, .whole 2, .bool false] (mSt d l a)
noncomputable def inM (d : D3) (l : L4) (t : List UInt8) (a : Rows3) (n i : Int) (r : List (List UInt8)) (T : St → Tr (Ex × St)) : Option (Ex × St) :=
  cond (decide ((r.length : Int) = r.length) && decide (r.length ≤ 1000000) && r.all fun x => !decide (l.1 < (x.length : Int))) (T (SM d l t a n (IntKind.i64.wrap (i + 1)))).get none
theorem roundM (d : D3) (l : L4) (t : List UInt8) (a : Rows3) (n i : Int) (T : St → Tr (Ex × St)) :
    (evRound XM LMi [] bodyM 1 [2, 3, 4, 7, 30, 31, 32] [2, 3, 4, 7, 6] (SM d l t a n i) T).get =
    cond (decide (i < n)) (cond (decide (0 ≤ i) && decide (i < a.length)) (atL a i.toNat fun r =>
      cond (decide ((r.length : Int) = 0)) (some (.ret, OMr d l t a)) (cond (decide (l.2.1 < (r.length : Int))) (some (.ret, OMr d l t a))
        (cond l.2.2.2 (cond (decide ((0 : Int) < a.length)) (atL a 0 fun r0 => cond (!decide ((r.length : Int) = r0.length)) (some (.ret, OMr d l t a)) (inM d l t a n i r T)) none) (inM d l t a n i r T)))) none) (some (.exit 0, OM d l t a)) := by kernel_rfl
theorem loopM (d : D3) (l : L4) (t : List UInt8) (a : Rows3) (hl : a.length ≤ 1000000) (hr : ∀ r ∈ a, rowOK l (a.headD []) r = true) : LoopSem XM [] bodyM (SM d l t a a.length 0) (.exit 0, OM d l t a) := by
  have := loop_meas (X := XM) (ctx_ok okv3) hm (L := LMi) (n0 := []) (body := bodyM) (off := 1) (live := [2, 3, 4, 7, 30, 31, 32]) (out := [2, 3, 4, 7, 6]) LMi_ok (fun i : Nat => SM d l t a a.length i) (fun _ => (.exit 0, OM d l t a)) (fun i => a.length - i) (fun i => i ≤ a.length) ?_ 0 (by omega)
  · exact this
  intro i hi
  by_cases hlt : i < a.length
  · have hx : a[i]? = some a[i] := List.getElem?_eq_getElem hlt
    have hok := hr _ (List.getElem_mem hlt)
    simp only [rowOK, Bool.and_eq_true, Bool.not_eq_true', decide_eq_false_iff_not, Bool.or_eq_true, decide_eq_true_eq] at hok
    obtain ⟨h1, h2, h3, h4, h5⟩ := hok
    have h0 : a[0]? = some (a.headD []) := by cases a with | nil => simp at hlt | cons x xs => rfl
    have hin : ∀ T, inM d l t a a.length i a[i] T = (T (SM d l t a a.length ((i + 1 : Nat) : Int))).get := by
      intro T
      unfold inM
      rw [decide_eq_true (rfl : ((a[i]).length : Int) = _), decide_eq_true h4, h5, wrap64 (by omega) (by omega)]
      rfl
    refine .inr ⟨i + 1, by omega, by omega, rfl, fun T => ?_⟩
    rw [roundM, decide_eq_true (by omega : (i : Int) < a.length), decide_eq_true (by omega : (0 : Int) ≤ i)]
    simp only [Bool.true_and, cond_true]
    rw [atL_some (show a[(i : Int).toNat]? = some _ from hx), decide_eq_false h1, decide_eq_false h2, hin T, decide_eq_true (by omega : (0 : Int) < a.length), atL_some h0]
    simp only [cond_false, cond_true]
    cases hu : l.2.2.2 with
    | false => rfl
    | true =>
      rw [hu] at h3
      have h3 : ((a[i]).length : Int) = (a.headD []).length := by simpa using h3
      rw [decide_eq_true h3]; rfl
  · have : i = a.length := by omega
    subst this
    exact .inl fun T => by rw [roundM, decide_eq_false (by omega)]; rfl
noncomputable def specM (vals : List AV) (st : Store) : Tr (Ex × St) :=
  match vals, st with
  | [.str t, .ptr 0 0, .ptr 1 0, .whole 2, .whole 2, .int .i64 n, .int .i64 i], [.cells [.int .u8 d1, .int .u8 d2, .int .i64 d3], .cells [.int .i64 a, .int .i64 b, .int .i64 c, .bool u], .row (.seq .str) o] =>
    .need (decide (i = 0)) (.need (decide (n = o.length) && decide (o.length ≤ 1000000) && o.all fun r => rowOK (a, b, c, u) (o.headD []) r) (.ret (.exit 0, OM (d1, d2, d3) (a, b, c, u) t o)))
  | _, _ => .no
theorem specM_ok : LoopOK XM [] bodyM Tryd.f5.ntmps [2, 3, 4, 7, 30, 31, 32] specM := by
  intro vals st r h
  unfold specM at h
  split at h
  · rename_i t n i d1 d2 d3 a b c u o
    obtain ⟨h1, hA⟩ := need_get h
    obtain ⟨h2, hB⟩ := need_get hA
    have e := ret_get hB
    simp only [Bool.and_eq_true, decide_eq_true_eq, List.all_eq_true] at h1 h2
    rw [← e, h1, h2.1.1]
    exact loopM (d1, d2, d3) (a, b, c, u) t o h2.1.2 h2.2
  · exact (no_get h).elim
noncomputable def LM : Nat → St → Tr (Ex × St) := loops [(0, loopL [] Tryd.f5.ntmps [2, 3, 4, 7, 30, 31, 32] specM)]
theorem LM_ok : LoopsAt XM LM [] cM 0 := loops_ok ⟨loop_entry (n := 0) hbM specM_ok, trivial⟩
def limits1 (l : L4) (P Q : Int × Int × Rows3) : Option (AV × Store) :=
  cond (decide ((P.2.2.length : Int) ≤ l.2.2.1)) (cond (decide (Q.1 = 0) && (decide (Q.2.1 = 0) && true)) (cond (shortR P.2.2) (cond (decide (P.2.2 = Q.2.2)) (bo true) (bo false)) none) (bo false)) (bo false)
theorem limits_ev2 (d : D3) (l : L4) (t : List UInt8) : (evFn XM LM Tryd.f5 [dAV d, lAV l, .str t] []).get =
    cond (decide (300 < (t.length : Int))) (bo true) (cond (decide (t.length ≤ 100000))
      (cond (!decide ((walkP d l t).1 = 0)) (bo true)
        (cond (decide (((walkP d l t).2.2.length : Int) = (walkP d l t).2.2.length) && decide ((walkP d l t).2.2.length ≤ 1000000) && (walkP d l t).2.2.all fun r => rowOK l ((walkP d l t).2.2.headD []) r)
          (cond (decide (t.length ≤ 100000)) (limits1 l (walkP d l t) (walkP d wideL t)) none) none)) none) := by kernel_rfl
end Go.Proofs.YtmdgkchphmncpaaDoor
