/- Prefixes; the form of a number (num.Form, the document's Form): what they do. Conditions: none. -/
import Derived.Test.YtpiphiieflnabaaDoorD04
import Derived.Test.YtpiphiieflnabaaDoorD11
namespace Go.Proofs.YtpiphiieflnabaaDoor
open Go Go.Abs
set_option maxRecDepth 100000
variable {ev : Env}

/-! ### Prefixes -/
def preP (s p : List UInt8) : Bool := decide ((p.length : Int) ≤ (s.length : Int)) && decide (s.take p.length = p)
def cutP (s p : List UInt8) : List UInt8 := cond (preP s p) (s.drop p.length) s
theorem has_ev (s p : List UInt8) : (evFn (ctx Tryd.prog (G0 ev) []) noL Tryd.f66 [.str s, .str p] []).get =
    cond (decide ((p.length : Int) ≤ (s.length : Int))) (cond (decide ((0 : Int) ≤ (p.length : Int)) && decide ((p.length : Int) ≤ (s.length : Int))) (bo (decide (s.take p.length = p))) none) (bo false) := by kernel_rfl
noncomputable def hasC : Con where
  spec := fun args st => match args, st with | [.str s, .str p], [] => .ret (.bool (preP s p), []) | _, _ => .no
  quiet := true
theorem okHas : Con.ok Tryd.prog (G0 ev) 66 hasC :=
  loop_spec (l := []) trivial hm Tryd.func66 (by rfl) (by kernel_rfl) fun args st r h => by
    unfold hasC at h
    dsimp only at h
    split at h
    · rename_i s p
      refine ⟨noL, noL_ok, ?_⟩
      rw [has_ev, ← ret_get h, decide_eq_true (by omega : (0 : Int) ≤ (p.length : Int))]; unfold preP
      cases decide ((p.length : Int) ≤ (s.length : Int)) <;> rfl
    · exact (no_get h).elim
noncomputable def h1 : List (Nat × Con) := [(66, hasC)]
theorem okh1 : AllOK Tryd.prog (G0 ev) h1 := ⟨okHas, trivial⟩
noncomputable def trimC : Con where
  spec := fun args st => match args, st with | [.str s, .str p], [] => .ret (.str (cutP s p), []) | _, _ => .no
  quiet := true
theorem pre_len {s p : List UInt8} (h : preP s p = true) : (p.length : Int) ≤ (s.length : Int) := by
  unfold preP at h; simp only [Bool.and_eq_true, decide_eq_true_eq] at h; exact h.1
theorem trim_ev (s p : List UInt8) : (evFn (ctx Tryd.prog (G0 ev) h1) noL Tryd.f61 [.str s, .str p] []).get =
    cond (preP s p) (cond (decide ((0 : Int) ≤ (p.length : Int)) && decide ((p.length : Int) ≤ (s.length : Int))) (some (.str (s.drop p.length), [])) none) (some (.str s, [])) := by kernel_rfl
theorem okTrim : Con.ok Tryd.prog (G0 ev) 61 trimC :=
  loop_spec okh1 hm Tryd.func61 (by rfl) (by kernel_rfl) fun args st r h => by
    unfold trimC at h
    dsimp only at h
    split at h
    · rename_i s p
      refine ⟨noL, noL_ok, ?_⟩
      rw [trim_ev, ← ret_get h, decide_eq_true (by omega : (0 : Int) ≤ (p.length : Int))]; unfold cutP
      cases hp : preP s p with
      | false => rfl
      | true => rw [decide_eq_true (pre_len hp)]; rfl
    · exact (no_get h).elim
noncomputable def cutC : Con where
  spec := fun args st => match args, st with | [.str s, .str p], [] => .ret (.tup [.str (cutP s p), .bool (preP s p)], []) | _, _ => .no
  quiet := true
theorem cut_ev (s p : List UInt8) : (evFn (ctx Tryd.prog (G0 ev) h1) noL Tryd.f63 [.str s, .str p] []).get =
    cond (!preP s p) (some (.tup [.str s, .bool false], [])) (cond (decide ((0 : Int) ≤ (p.length : Int)) && decide ((p.length : Int) ≤ (s.length : Int))) (some (.tup [.str (s.drop p.length), .bool true], [])) none) := by kernel_rfl
theorem okCut : Con.ok Tryd.prog (G0 ev) 63 cutC :=
  loop_spec okh1 hm Tryd.func63 (by rfl) (by kernel_rfl) fun args st r h => by
    unfold cutC at h
    dsimp only at h
    split at h
    · rename_i s p
      refine ⟨noL, noL_ok, ?_⟩
      rw [cut_ev, ← ret_get h, decide_eq_true (by omega : (0 : Int) ≤ (p.length : Int))]; unfold cutP
      cases hp : preP s p with
      | false => rfl
      | true => rw [decide_eq_true (pre_len hp)]; rfl
    · exact (no_get h).elim
noncomputable def h2 : List (Nat × Con) := (63, cutC) :: (61, trimC) :: h1
theorem okh2 : AllOK Tryd.prog (G0 ev) h2 := ⟨okCut, okTrim, okh1⟩
theorem has2_ev (s p : List UInt8) : (evFn (ctx Tryd.prog (G0 ev) h2) noL Tryd.f54 [.str s, .str p] []).get = bo (preP s p) := by kernel_rfl
theorem trim2_ev (s p : List UInt8) : (evFn (ctx Tryd.prog (G0 ev) h2) noL Tryd.f48 [.str s, .str p] []).get = some (.str (cutP s p), []) := by kernel_rfl
theorem cut2_ev (s p : List UInt8) : (evFn (ctx Tryd.prog (G0 ev) h2) noL Tryd.f50 [.str s, .str p] []).get = some (.tup [.str (cutP s p), .bool (preP s p)], []) := by kernel_rfl
theorem okHas2 : Con.ok Tryd.prog (G0 ev) 54 hasC :=
  loop_spec okh2 hm Tryd.func54 (by rfl) (by kernel_rfl) fun args st r h => by
    unfold hasC at h
    dsimp only at h
    split at h
    · exact ⟨noL, noL_ok, by rw [has2_ev, ← ret_get h]; rfl⟩
    · exact (no_get h).elim
theorem okTrim2 : Con.ok Tryd.prog (G0 ev) 48 trimC :=
  loop_spec okh2 hm Tryd.func48 (by rfl) (by kernel_rfl) fun args st r h => by
    unfold trimC at h
    dsimp only at h
    split at h
    · exact ⟨noL, noL_ok, by rw [trim2_ev, ← ret_get h]⟩
    · exact (no_get h).elim
theorem okCut2 : Con.ok Tryd.prog (G0 ev) 50 cutC :=
  loop_spec okh2 hm Tryd.func50 (by rfl) (by kernel_rfl) fun args st r h => by
    unfold cutC at h
    dsimp only at h
    split at h
    · exact ⟨noL, noL_ok, by rw [cut2_ev, ← ret_get h]⟩
    · exact (no_get h).elim
noncomputable def h3 : List (Nat × Con) := (54, hasC) :: (50, cutC) :: (48, trimC) :: h2
theorem okh3 : AllOK Tryd.prog (G0 ev) h3 := ⟨okHas2, okCut2, okTrim2, okh2⟩
theorem pre45 (s : List UInt8) : preP s [45] = (cutM s).2 ∧ cutP s [45] = (cutM s).1 := by
  unfold cutP preP cutM
  cases s with
  | nil => exact ⟨rfl, rfl⟩
  | cons c r =>
    by_cases hc : c = 45
    · subst hc
      have h1 : decide ((([45] : List UInt8).length : Int) ≤ ((45 :: r).length : Int)) = true := decide_eq_true (by simp only [List.length_cons, List.length_nil]; omega)
      have h2 : decide ((45 :: r).take [(45 : UInt8)].length = [45]) = true := by simp
      rw [h1, h2]; exact ⟨rfl, rfl⟩
    · have h1 : decide ((c :: r).take [(45 : UInt8)].length = [45]) = false := by simp [hc]
      rw [h1, Bool.and_false]
      split
      · rename_i h; cases h; exact absurd rfl hc
      · exact ⟨rfl, rfl⟩

/-! ### num.Form -/
noncomputable def cF : Code := Tryd.f27.body.getD .skip
noncomputable def bodyF : Code := (loopAt cF 0).getD .skip
theorem hcF : Tryd.f27.body = some cF := by kernel_rfl
theorem hbF : loopAt cF 0 = some bodyF := by kernel_rfl
noncomputable abbrev XF (ev : Env) : Ctx := ctx Tryd.prog (G0 ev) h3
noncomputable def SF (s d : List UInt8) (n i : Int) : St := stOf Tryd.f27.ntmps [0, 3, 8, 9] [.str s, .str d, .int .i64 n, .int .i64 i] []
noncomputable def OF (s d : List UInt8) (x : AV) : St := stOf Tryd.f27.ntmps [0, 2, 3] [.str s, x, .str d] []
theorem roundF (s d : List UInt8) (n i : Int) (T : St → Tr (Ex × St)) : (evRound (XF ev) noL [] bodyF 1 [0, 3, 8, 9] [0, 2, 3] (SF s d n i) T).get =
    cond (decide (i < n)) (cond (decide (0 ≤ i)) (atL d i.toNat fun b => cond (decide ((b.toNat : Int) < 48)) (some (.ret, OF s d (.bool false)))
      (cond (decide (0 ≤ i)) (atL d i.toNat fun c => cond (decide (57 < (c.toNat : Int))) (some (.ret, OF s d (.bool false))) (T (SF s d n (IntKind.i64.wrap (i + 1)))).get) none)) none) (some (.exit 0, OF s d .top)) := by kernel_rfl
noncomputable def resF (s d : List UInt8) (b : Bool) : Ex × St := cond b (.exit 0, OF s d .top) (.ret, OF s d (.bool false))
theorem loopFo (s d : List UInt8) (hl : d.length ≤ LIM) : LoopSem (XF ev) [] bodyF (SF s d d.length 0) (resF s d (d.all isD)) := by
  have := loop_meas (X := XF ev) (ctx_ok okh3) hm (L := noL) (n0 := []) (body := bodyF) (off := 1) (live := [0, 3, 8, 9]) (out := [0, 2, 3]) noL_ok (fun i : Nat => SF s d d.length i) (fun i => resF s d ((d.drop i).all isD)) (fun i => d.length - i) (fun i => i ≤ d.length) ?_ 0 (by omega)
  · simpa using this
  intro i hi
  unfold LIM at hl
  by_cases he : i < d.length
  · have hx : d[i]? = some d[i] := List.getElem?_eq_getElem he
    have hw : IntKind.i64.wrap ((i : Int) + 1) = ((i + 1 : Nat) : Int) := by rw [wrap64 (by omega) (by omega)]; simp
    have hr : ∀ T, (evRound (XF ev) noL [] bodyF 1 [0, 3, 8, 9] [0, 2, 3] (SF s d d.length i) T).get = cond (isD d[i]) (T (SF s d d.length ((i + 1 : Nat) : Int))).get (some (.ret, OF s d (.bool false))) := by
      intro T
      rw [roundF, decide_eq_true (by omega : (i : Int) < d.length), decide_eq_true (by omega : (0 : Int) ≤ i), atL_some (show d[(i : Int).toNat]? = some _ from hx), hw]
      simp only [cond_true, atL_some (show d[(i : Int).toNat]? = some _ from hx)]
      unfold isD
      by_cases a1 : 48 ≤ d[i].toNat
      · rw [decide_eq_false (by omega : ¬ (d[i].toNat : Int) < 48), decide_eq_true a1]
        by_cases a2 : d[i].toNat ≤ 57
        · rw [decide_eq_false (by omega : ¬ 57 < (d[i].toNat : Int)), decide_eq_true a2]; rfl
        · rw [decide_eq_true (by omega : 57 < (d[i].toNat : Int)), decide_eq_false a2]; rfl
      · rw [decide_eq_true (by omega : (d[i].toNat : Int) < 48), decide_eq_false a1]; rfl
    have hd : (d.drop i).all isD = (isD d[i] && (d.drop (i + 1)).all isD) := by rw [List.drop_eq_getElem_cons he, List.all_cons]
    cases h1 : isD d[i] with
    | true => exact .inr ⟨i + 1, by omega, by omega, by rw [hd, h1, Bool.true_and], fun T => by rw [hr, h1]; rfl⟩
    | false => exact .inl fun T => by rw [hr, h1, hd, h1]; rfl
  · have : i = d.length := by omega
    subst this
    refine .inl fun T => ?_
    rw [roundF, decide_eq_false (by omega), List.drop_of_length_le (Nat.le_refl _)]
    rfl
noncomputable def specF (vals : List AV) (st : Store) : Tr (Ex × St) :=
  match vals, st with
  | [.str s, .str d, .int .i64 n, .int .i64 i], [] => .need (decide (i = 0)) (.need (decide (n = d.length) && decide (d.length ≤ LIM)) (.br (d.all isD) (.ret (.exit 0, OF s d .top)) (.ret (.ret, OF s d (.bool false)))))
  | _, _ => .no
theorem specF_ok : LoopOK (XF ev) [] bodyF Tryd.f27.ntmps [0, 3, 8, 9] specF := by
  intro vals st r h
  unfold specF at h
  split at h
  · rename_i s d n i
    obtain ⟨h1, hA⟩ := need_get h
    obtain ⟨h2, hB⟩ := need_get hA
    simp only [Bool.and_eq_true, decide_eq_true_eq] at h1 h2
    have := loopFo (ev := ev) s d h2.2
    rw [h1, h2.1]
    cases hs : d.all isD with
    | true => rw [hs] at hB this; have e := ret_get (show (Tr.ret (Ex.exit 0, OF s d .top)).get = some r from hB); rw [← e]; exact this
    | false => rw [hs] at hB this; have e := ret_get (show (Tr.ret (Ex.ret, OF s d (.bool false))).get = some r from hB); rw [← e]; exact this
  · exact (no_get h).elim
noncomputable def LF : Nat → St → Tr (Ex × St) := loops [(0, loopL [] Tryd.f27.ntmps [0, 3, 8, 9] specF)]
theorem form_ev (s : List UInt8) : (evFn (XF ev) LF Tryd.f27 [.str s] []).get =
    cond (decide (((cutP s [45]).length : Int) = ((cutP s [45]).length : Int)) && decide ((cutP s [45]).length ≤ LIM)) (cond ((cutP s [45]).all isD)
      (cond (!decide (cutP s [45] = [])) (atL (cutP s [45]) 0 fun c => cond (!decide ((c.toNat : Int) = 48)) (bo true) (bo (decide (s = [48])))) (bo false)) (bo false)) none := by kernel_rfl
noncomputable def formC : Con where
  spec := fun args st => match args, st with | [.str s], [] => .need (decide (s.length ≤ LIM)) (.ret (.bool (form s), [])) | _, _ => .no
  quiet := true
theorem form_cut2 (s : List UInt8) : form s = ((cutM s).1.all isD && (match (cutM s).1 with | [] => false | c :: _ => !decide ((c.toNat : Int) = 48) || decide (s = [48]))) := by
  have n48 : ∀ c : UInt8, decide (c = 48) = decide ((c.toNat : Int) = 48) := by
    intro c
    rw [Bool.eq_iff_iff]; simp only [decide_eq_true_eq]
    constructor
    · rintro rfl; rfl
    · intro h; exact UInt8.toNat_inj.1 (by show c.toNat = 48; omega)
  unfold form cutM
  split
  · rename_i ds
    have : decide ((45 :: ds : List UInt8) = [48]) = false := by simp
    rw [this]
    cases ds with
    | nil => rfl
    | cons c r => simp only [nz, n48, Bool.or_false, Bool.and_comm]
  · rename_i ds hn
    cases s with
    | nil => rfl
    | cons c r =>
      simp only [nz, n48]
      by_cases h : c :: r = [48]
      · cases h; rfl
      · rw [decide_eq_false h]; simp only [Bool.false_or, Bool.or_false, Bool.and_comm]
theorem cutM_le (s : List UInt8) : (cutM s).1.length ≤ s.length := by unfold cutM; split <;> simp
theorem okForm : Con.ok Tryd.prog (G0 ev) 27 formC :=
  loop_spec okh3 hm Tryd.func27 hcF (by kernel_rfl) fun args st r h => by
    unfold formC at h
    dsimp only at h
    split at h
    · rename_i s
      obtain ⟨h1, h2⟩ := need_get h
      simp only [decide_eq_true_eq] at h1
      refine ⟨LF, loops_ok ⟨loop_entry (n := 0) hbF specF_ok, trivial⟩, ?_⟩
      have hle := cutM_le s
      rw [form_ev, (pre45 s).2, ← ret_get h2, decide_eq_true (rfl : ((cutM s).1.length : Int) = _), decide_eq_true (by omega : (cutM s).1.length ≤ LIM), form_cut2]
      cases (cutM s).1 with
      | nil => rfl
      | cons c r =>
        have e : decide (c :: r = ([] : List UInt8)) = false := by simp
        rw [e, atL_some (show (c :: r)[0]? = some c from rfl)]
        dsimp only
        cases (c :: r).all isD <;> cases decide ((c.toNat : Int) = 48) <;> rfl
    · exact (no_get h).elim

/-! ### The document's Form -/
noncomputable def cG : Code := Tryd.f28.body.getD .skip
noncomputable def bodyG : Code := (loopAt cG 0).getD .skip
theorem hcG : Tryd.f28.body = some cG := by kernel_rfl
theorem hbG : loopAt cG 0 = some bodyG := by kernel_rfl
noncomputable abbrev XG (ev : Env) : Ctx := ctx Tryd.prog (G0 ev) []
noncomputable def SG (d : List UInt8) (i : Int) : St := stOf Tryd.f28.ntmps [0, 3] [.str d, .int .i64 i] []
noncomputable def OG (x : AV) : St := stOf Tryd.f28.ntmps [2] [x] []
theorem roundG (d : List UInt8) (i : Int) (T : St → Tr (Ex × St)) : (evRound (XG ev) noL [] bodyG 1 [0, 3] [2] (SG d i) T).get =
    cond (decide (i < (d.length : Int))) (cond (decide (0 ≤ i)) (atL d i.toNat fun b => cond (decide ((b.toNat : Int) < 48)) (some (.ret, OG (.bool false)))
      (cond (decide (0 ≤ i)) (atL d i.toNat fun c => cond (decide (57 < (c.toNat : Int))) (some (.ret, OG (.bool false))) (T (SG d (IntKind.i64.wrap (i + 1)))).get) none)) none) (some (.exit 0, OG .top)) := by kernel_rfl
noncomputable def resG (b : Bool) : Ex × St := cond b (.exit 0, OG .top) (.ret, OG (.bool false))
theorem loopG (d : List UInt8) (hl : d.length ≤ LIM) : LoopSem (XG ev) [] bodyG (SG d 0) (resG (d.all isD)) := by
  have := loop_meas (X := XG ev) (ctx_ok (l := []) trivial) hm (L := noL) (n0 := []) (body := bodyG) (off := 1) (live := [0, 3]) (out := [2]) noL_ok (fun i : Nat => SG d i) (fun i => resG ((d.drop i).all isD)) (fun i => d.length - i) (fun i => i ≤ d.length) ?_ 0 (by omega)
  · simpa using this
  intro i hi
  unfold LIM at hl
  by_cases he : i < d.length
  · have hx : d[i]? = some d[i] := List.getElem?_eq_getElem he
    have hw : IntKind.i64.wrap ((i : Int) + 1) = ((i + 1 : Nat) : Int) := by rw [wrap64 (by omega) (by omega)]; simp
    have hr : ∀ T, (evRound (XG ev) noL [] bodyG 1 [0, 3] [2] (SG d i) T).get = cond (isD d[i]) (T (SG d ((i + 1 : Nat) : Int))).get (some (.ret, OG (.bool false))) := by
      intro T
      rw [roundG, decide_eq_true (by omega : (i : Int) < d.length), decide_eq_true (by omega : (0 : Int) ≤ i), atL_some (show d[(i : Int).toNat]? = some _ from hx), hw]
      simp only [cond_true, atL_some (show d[(i : Int).toNat]? = some _ from hx)]
      unfold isD
      by_cases a1 : 48 ≤ d[i].toNat
      · rw [decide_eq_false (by omega : ¬ (d[i].toNat : Int) < 48), decide_eq_true a1]
        by_cases a2 : d[i].toNat ≤ 57
        · rw [decide_eq_false (by omega : ¬ 57 < (d[i].toNat : Int)), decide_eq_true a2]; rfl
        · rw [decide_eq_true (by omega : 57 < (d[i].toNat : Int)), decide_eq_false a2]; rfl
      · rw [decide_eq_true (by omega : (d[i].toNat : Int) < 48), decide_eq_false a1]; rfl
    have hd : (d.drop i).all isD = (isD d[i] && (d.drop (i + 1)).all isD) := by rw [List.drop_eq_getElem_cons he, List.all_cons]
    cases h1 : isD d[i] with
    | true => exact .inr ⟨i + 1, by omega, by omega, by rw [hd, h1, Bool.true_and], fun T => by rw [hr, h1]; rfl⟩
    | false => exact .inl fun T => by rw [hr, h1, hd, h1]; rfl
  · have : i = d.length := by omega
    subst this
    refine .inl fun T => ?_
    rw [roundG, decide_eq_false (by omega), List.drop_of_length_le (Nat.le_refl _)]
    rfl
noncomputable def specG (vals : List AV) (st : Store) : Tr (Ex × St) :=
  match vals, st with
  | [.str d, .int .i64 i], [] => .need (decide (i = 0)) (.need (decide (d.length ≤ LIM)) (.br (d.all isD) (.ret (.exit 0, OG .top)) (.ret (.ret, OG (.bool false)))))
  | _, _ => .no
theorem specG_ok : LoopOK (XG ev) [] bodyG Tryd.f28.ntmps [0, 3] specG := by
  intro vals st r h
  unfold specG at h
  split at h
  · rename_i d i
    obtain ⟨h1, hA⟩ := need_get h
    obtain ⟨h2, hB⟩ := need_get hA
    simp only [decide_eq_true_eq] at h1 h2
    have := loopG (ev := ev) d h2
    rw [h1]
    cases hs : d.all isD with
    | true => rw [hs] at hB this; have e := ret_get (show (Tr.ret (Ex.exit 0, OG .top)).get = some r from hB); rw [← e]; exact this
    | false => rw [hs] at hB this; have e := ret_get (show (Tr.ret (Ex.ret, OG (.bool false))).get = some r from hB); rw [← e]; exact this
  · exact (no_get h).elim
noncomputable def LG : Nat → St → Tr (Ex × St) := loops [(0, loopL [] Tryd.f28.ntmps [0, 3] specG)]
def fall (d : List UInt8) : Option (AV × Store) := cond (decide (d.length ≤ LIM)) (cond (d.all isD) (bo true) (bo false)) none
def fnz (d : List UInt8) : Option (AV × Store) := cond (decide ((d.length : Int) = 0)) (bo false) (atL d 0 fun c => cond (decide ((c.toNat : Int) = 48)) (bo false) (fall d))
theorem rform_ev (s : List UInt8) : (evFn (XG ev) LG Tryd.f28 [.str s] []).get =
    cond (decide (s = [48])) (bo true) (cond (decide (0 < (s.length : Int))) (atL s 0 fun c => cond (decide ((c.toNat : Int) = 45)) (cond (decide ((1 : Int) ≤ (s.length : Int))) (fnz (s.drop 1)) none) (fnz s)) (fnz s)) := by kernel_rfl
theorem fnz_eq (d : List UInt8) (hl : d.length ≤ LIM) : fnz d = bo (nz d) := by
  unfold fnz fall
  cases d with
  | nil => rfl
  | cons c r =>
    rw [decide_eq_false (by simp only [List.length_cons]; omega), atL_some (show (c :: r)[0]? = some c from rfl), decide_eq_true hl]
    have n48 : decide (c = 48) = decide ((c.toNat : Int) = 48) := by
      rw [Bool.eq_iff_iff]; simp only [decide_eq_true_eq]
      constructor
      · rintro rfl; rfl
      · intro h; exact UInt8.toNat_inj.1 (by show c.toNat = 48; omega)
    simp only [nz, n48]
    cases decide ((c.toNat : Int) = 48) <;> cases (c :: r).all isD <;> rfl
theorem okRForm : Con.ok Tryd.prog (G0 ev) 28 formC :=
  loop_spec (l := []) trivial hm Tryd.func28 hcG (by kernel_rfl) fun args st r h => by
    unfold formC at h
    dsimp only at h
    split at h
    · rename_i s
      obtain ⟨h1, h2⟩ := need_get h
      simp only [decide_eq_true_eq] at h1
      refine ⟨LG, loops_ok ⟨loop_entry (n := 0) hbG specG_ok, trivial⟩, ?_⟩
      rw [rform_ev, ← ret_get h2]
      cases s with
      | nil => rfl
      | cons c r =>
        rw [decide_eq_true (by simp only [List.length_cons]; omega : (0 : Int) < ((c :: r).length : Int)), atL_some (show (c :: r)[0]? = some c from rfl), decide_eq_true (by simp only [List.length_cons]; omega : (1 : Int) ≤ ((c :: r).length : Int))]
        rw [fnz_eq _ h1, fnz_eq _ (by simp at h1 ⊢; omega)]
        by_cases hc : c = 45
        · subst hc
          have : decide ((45 :: r : List UInt8) = [48]) = false := by simp
          rw [this]; rfl
        · have e1 : decide ((c.toNat : Int) = 45) = false := by
            simp only [decide_eq_false_iff_not]
            intro h; exact hc (UInt8.toNat_inj.1 (by show c.toNat = 45; omega))
          have e2 : form (c :: r) = (decide (c :: r = [48]) || nz (c :: r)) := by
            unfold form
            split
            · rename_i h; cases h; exact absurd rfl hc
            · rfl
          rw [e1, e2]
          cases decide (c :: r = [48]) <;> rfl
    · exact (no_get h).elim
noncomputable def n1 : List (Nat × Con) := (28, formC) :: (27, formC) :: h3
theorem okn1 : AllOK Tryd.prog (G0 ev) n1 := ⟨okRForm, okForm, okh3⟩
end Go.Proofs.YtpiphiieflnabaaDoor
