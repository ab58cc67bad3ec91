/- Numbers as texts: which is less, printing (num's and the document's): what they do. Conditions: none. -/
import Derived.Test.YtpiphiieflnabaaDoorD12
namespace Go.Proofs.YtpiphiieflnabaaDoor
open Go Go.Abs
set_option maxRecDepth 100000
variable {ev : Env}

/-! ### num.Less -/
def shlT (x y : List UInt8) : Option (AV × Store) :=
  cond (decide ((x.length : Int) < (y.length : Int))) (bo true) (cond (decide ((x.length : Int) = (y.length : Int))) (bo (Op.bytesLess x y)) (bo false))
theorem shlT_eq (x y : List UInt8) : shlT x y = bo (shl x y) := by
  unfold shlT shl
  by_cases h1 : x.length < y.length
  · rw [decide_eq_true (by omega : (x.length : Int) < (y.length : Int)), decide_eq_true h1]; rfl
  · rw [decide_eq_false (by omega : ¬ (x.length : Int) < (y.length : Int)), decide_eq_false h1]
    by_cases h2 : x.length = y.length
    · rw [decide_eq_true (by omega : (x.length : Int) = (y.length : Int)), decide_eq_true h2]; rfl
    · rw [decide_eq_false (by omega : ¬ (x.length : Int) = (y.length : Int)), decide_eq_false h2]; rfl
theorem nless_ev (a b : List UInt8) : (evFn (ctx Tryd.prog (G0 ev) n1) noL Tryd.f31 [.str a, .str b] []).get =
    cond (decide (a.length ≤ LIM)) (cond (!form a) (bo false) (cond (decide (b.length ≤ LIM)) (cond (!form b) (bo false)
      (cond (!(preP a [45] == preP b [45])) (bo (preP a [45])) (cond (preP a [45]) (shlT (cutP b [45]) (cutP a [45])) (shlT (cutP a [45]) (cutP b [45]))))) none)) none := by kernel_rfl
noncomputable def lessNC : Con where
  spec := fun args st => match args, st with | [.str a, .str b], [] => .need (decide (a.length ≤ LIM) && decide (b.length ≤ LIM)) (.ret (.bool (lessN a b), [])) | _, _ => .no
  quiet := true
theorem okNLess : Con.ok Tryd.prog (G0 ev) 31 lessNC :=
  loop_spec okn1 hm Tryd.func31 (by rfl) (by kernel_rfl) fun args st r h => by
    unfold lessNC at h
    dsimp only at h
    split at h
    · rename_i a b
      obtain ⟨h1, h2⟩ := need_get h
      simp only [Bool.and_eq_true] at h1
      refine ⟨noL, noL_ok, ?_⟩
      rw [nless_ev, ← ret_get h2, h1.1, h1.2, (pre45 a).1, (pre45 a).2, (pre45 b).1, (pre45 b).2, shlT_eq, shlT_eq]; unfold lessN lessS
      cases form a <;> cases form b <;> cases (cutM a).2 <;> cases (cutM b).2 <;> rfl
    · exact (no_get h).elim

/-! ### The document's Less -/
def dl : List UInt8 → List UInt8 → Option Bool
  | x :: a, y :: b => if x = y then dl a b else some (decide (x < y))
  | _, _ => none
theorem dl_less : ∀ (a b : List UInt8), a.length = b.length → Op.bytesLess a b = (dl a b).getD false
  | [], [], _ => rfl
  | [], _ :: _, h => by simp at h
  | _ :: _, [], h => by simp at h
  | x :: a, y :: b, h => by
    simp only [List.length_cons, Nat.add_right_cancel_iff] at h
    unfold dl Op.bytesLess
    by_cases e : x = y
    · subst e
      have : ¬ x < x := UInt8.lt_irrefl x
      rw [if_pos rfl, dl_less a b h]; simp
    · rw [if_neg e]; simp [e]
noncomputable def cL : Code := Tryd.f32.body.getD .skip
noncomputable def bodyL : Code := (loopAt cL 0).getD .skip
theorem hcL : Tryd.f32.body = some cL := by kernel_rfl
theorem hbL : loopAt cL 0 = some bodyL := by kernel_rfl
noncomputable abbrev XL (ev : Env) : Ctx := ctx Tryd.prog (G0 ev) n1
noncomputable def SL (a b : List UInt8) (i : Int) : St := stOf Tryd.f32.ntmps [0, 1, 7] [.str a, .str b, .int .i64 i] []
noncomputable def OL (x : AV) : St := stOf Tryd.f32.ntmps [4] [x] []
theorem roundL (a b : List UInt8) (i : Int) (T : St → Tr (Ex × St)) : (evRound (XL ev) noL [] bodyL 1 [0, 1, 7] [4] (SL a b i) T).get =
    cond (decide (i < (a.length : Int))) (cond (decide (0 ≤ i)) (atL a i.toNat fun x => cond (decide (0 ≤ i)) (atL b i.toNat fun y => cond (!decide ((x.toNat : Int) = (y.toNat : Int)))
      (cond (decide (0 ≤ i)) (atL a i.toNat fun x => cond (decide (0 ≤ i)) (atL b i.toNat fun y => some (.ret, OL (.bool (decide ((x.toNat : Int) < (y.toNat : Int)))))) none) none)
      (T (SL a b (IntKind.i64.wrap (i + 1)))).get) none) none) (some (.exit 0, OL .top)) := by kernel_rfl
noncomputable def resL : Option Bool → Ex × St
  | some c => (.ret, OL (.bool c))
  | none => (.exit 0, OL .top)
theorem loopL_ok (a b : List UInt8) (hl : a.length ≤ LIM) (hab : a.length = b.length) : LoopSem (XL ev) [] bodyL (SL a b 0) (resL (dl a b)) := by
  have := loop_meas (X := XL ev) (ctx_ok okn1) hm (L := noL) (n0 := []) (body := bodyL) (off := 1) (live := [0, 1, 7]) (out := [4]) noL_ok (fun i : Nat => SL a b i) (fun i => resL (dl (a.drop i) (b.drop i))) (fun i => a.length - i) (fun i => i ≤ a.length) ?_ 0 (by omega)
  · simpa using this
  intro i hi
  unfold LIM at hl
  by_cases he : i < a.length
  · have he' : i < b.length := by omega
    have hx : a[i]? = some a[i] := List.getElem?_eq_getElem he
    have hy : b[i]? = some b[i] := List.getElem?_eq_getElem he'
    have hw : IntKind.i64.wrap ((i : Int) + 1) = ((i + 1 : Nat) : Int) := by rw [wrap64 (by omega) (by omega)]; simp
    have hr : ∀ T, (evRound (XL ev) noL [] bodyL 1 [0, 1, 7] [4] (SL a b i) T).get = if a[i] = b[i] then (T (SL a b ((i + 1 : Nat) : Int))).get else some (.ret, OL (.bool (decide (a[i] < b[i])))) := by
      intro T
      rw [roundL, decide_eq_true (by omega : (i : Int) < a.length), decide_eq_true (by omega : (0 : Int) ≤ i), hw]
      simp only [cond_true, atL_some (show a[(i : Int).toNat]? = some _ from hx), atL_some (show b[(i : Int).toNat]? = some _ from hy)]
      by_cases e : a[i] = b[i]
      · rw [if_pos e, decide_eq_true (by rw [e] : (a[i].toNat : Int) = (b[i].toNat : Int))]; rfl
      · rw [if_neg e, decide_eq_false (fun h => e (UInt8.toNat_inj.1 (by omega)) : ¬ (a[i].toNat : Int) = (b[i].toNat : Int))]
        have : decide ((a[i].toNat : Int) < (b[i].toNat : Int)) = decide (a[i] < b[i]) := by rw [Bool.eq_iff_iff]; simp only [decide_eq_true_eq, UInt8.lt_iff_toNat_lt]; omega
        rw [this]; rfl
    have hd : dl (a.drop i) (b.drop i) = if a[i] = b[i] then dl (a.drop (i + 1)) (b.drop (i + 1)) else some (decide (a[i] < b[i])) := by
      rw [List.drop_eq_getElem_cons he, List.drop_eq_getElem_cons he']; rfl
    by_cases e : a[i] = b[i]
    · exact .inr ⟨i + 1, by omega, by omega, by rw [hd, if_pos e], fun T => by rw [hr, if_pos e]⟩
    · exact .inl fun T => by rw [hr, hd, if_neg e, if_neg e]; rfl
  · have : i = a.length := by omega
    subst this
    refine .inl fun T => ?_
    rw [roundL, decide_eq_false (by omega), List.drop_of_length_le (Nat.le_refl _)]
    rfl
noncomputable def specL (vals : List AV) (st : Store) : Tr (Ex × St) :=
  match vals, st with
  | [.str a, .str b, .int .i64 i], [] => .need (decide (i = 0)) (.need (decide (a.length = b.length) && decide (a.length ≤ LIM)) (.br (dl a b).isSome (.ret (.ret, OL (.bool ((dl a b).getD false)))) (.ret (.exit 0, OL .top))))
  | _, _ => .no
theorem specL_ok : LoopOK (XL ev) [] bodyL Tryd.f32.ntmps [0, 1, 7] specL := by
  intro vals st r h
  unfold specL at h
  split at h
  · rename_i a b i
    obtain ⟨h1, hA⟩ := need_get h
    obtain ⟨h2, hB⟩ := need_get hA
    simp only [Bool.and_eq_true, decide_eq_true_eq] at h1 h2
    have := loopL_ok (ev := ev) a b h2.2 h2.1
    rw [h1]
    cases hs : dl a b with
    | none => rw [hs] at hB this; have e := ret_get (show (Tr.ret (Ex.exit 0, OL .top)).get = some r from hB); rw [← e]; exact this
    | some c => rw [hs] at hB this; have e := ret_get (show (Tr.ret (Ex.ret, OL (.bool c))).get = some r from hB); rw [← e]; exact this
  · exact (no_get h).elim
noncomputable def LL : Nat → St → Tr (Ex × St) := loops [(0, loopL [] Tryd.f32.ntmps [0, 1, 7] specL)]
def shlR (u v : List UInt8) : Option (AV × Store) :=
  cond (!decide ((u.length : Int) = (v.length : Int))) (bo (decide ((u.length : Int) < (v.length : Int))))
    (cond (decide (u.length = v.length) && decide (u.length ≤ LIM)) (cond (dl u v).isSome (bo ((dl u v).getD false)) (bo false)) none)
theorem shlR_eq (u v : List UInt8) (hl : u.length ≤ LIM) : shlR u v = bo (shl u v) := by
  unfold shlR shl
  by_cases h : u.length = v.length
  · rw [decide_eq_true (by omega : (u.length : Int) = (v.length : Int)), decide_eq_true h, decide_eq_true hl, decide_eq_false (by omega : ¬ u.length < v.length), dl_less u v h]
    cases dl u v <;> rfl
  · rw [decide_eq_false (by omega : ¬ (u.length : Int) = (v.length : Int)), decide_eq_false h]
    by_cases h1 : u.length < v.length
    · rw [decide_eq_true (by omega : (u.length : Int) < (v.length : Int)), decide_eq_true h1]; rfl
    · rw [decide_eq_false (by omega : ¬ (u.length : Int) < (v.length : Int)), decide_eq_false h1]; rfl
def rtail (x : Bool) (a b : List UInt8) : Option (AV × Store) :=
  cond x (cond (decide ((1 : Int) ≤ (b.length : Int))) (cond (decide ((1 : Int) ≤ (a.length : Int))) (shlR (b.drop 1) (a.drop 1)) none) none) (shlR a b)
theorem rless_ev (a b : List UInt8) : (evFn (XL ev) LL Tryd.f32 [.str a, .str b] []).get =
    cond (decide (a.length ≤ LIM)) (cond (!form a) (bo false) (cond (decide (b.length ≤ LIM)) (cond (!form b) (bo false)
      (atL a 0 fun c => atL b 0 fun d => cond (decide ((c.toNat : Int) = 45)) (cond (!decide ((d.toNat : Int) = 45)) (bo true) (cond (decide ((d.toNat : Int) = 45)) (cond (!decide ((c.toNat : Int) = 45)) (bo false) (rtail (decide ((c.toNat : Int) = 45)) a b)) (rtail (decide ((c.toNat : Int) = 45)) a b)))
        (cond (decide ((d.toNat : Int) = 45)) (cond (!decide ((c.toNat : Int) = 45)) (bo false) (rtail (decide ((c.toNat : Int) = 45)) a b)) (rtail (decide ((c.toNat : Int) = 45)) a b)))) none)) none := by kernel_rfl
theorem cutM_cons (c : UInt8) (r : List UInt8) : cutM (c :: r) = cond (decide ((c.toNat : Int) = 45)) (r, true) (c :: r, false) := by
  by_cases hc : c = 45
  · subst hc; rfl
  · rw [decide_eq_false (fun h => hc (UInt8.toNat_inj.1 (by show c.toNat = 45; omega)))]
    unfold cutM
    split
    · rename_i h; cases h; exact absurd rfl hc
    · rfl
theorem okRLess : Con.ok Tryd.prog (G0 ev) 32 lessNC :=
  loop_spec okn1 hm Tryd.func32 hcL (by kernel_rfl) fun args st r h => by
    unfold lessNC at h
    dsimp only at h
    split at h
    · rename_i a b
      obtain ⟨h1, h2⟩ := need_get h
      simp only [Bool.and_eq_true, decide_eq_true_eq] at h1
      refine ⟨LL, loops_ok ⟨loop_entry (n := 0) hbL specL_ok, trivial⟩, ?_⟩
      rw [rless_ev, ← ret_get h2, decide_eq_true h1.1, decide_eq_true h1.2]; unfold lessN lessS
      cases ha : form a with
      | false => rfl
      | true =>
        cases hb : form b with
        | false => rfl
        | true =>
          cases a with
          | nil => cases ha
          | cons c a =>
            cases b with
            | nil => cases hb
            | cons d b =>
              rw [atL_some (show (c :: a)[0]? = some c from rfl), atL_some (show (d :: b)[0]? = some d from rfl), cutM_cons, cutM_cons]
              unfold rtail
              rw [decide_eq_true (by simp only [List.length_cons]; omega : (1 : Int) ≤ ((d :: b).length : Int)), decide_eq_true (by simp only [List.length_cons]; omega : (1 : Int) ≤ ((c :: a).length : Int)),
                shlR_eq _ _ h1.1, shlR_eq _ _ (by have := h1.2; simp at this ⊢; omega)]
              cases decide ((c.toNat : Int) = 45) <;> cases decide ((d.toNat : Int) = 45) <;> rfl
    · exact (no_get h).elim

/-! ### Printing -/
noncomputable def printC : Con where
  spec := fun args st => match args, st with | [.int .i64 n], [] => .need (decide (-9223372036854775808 ≤ n) && decide (n ≤ 9223372036854775807)) (.ret (.str (Lib.itoa n), [])) | _, _ => .no
  quiet := true
theorem print_ev (n : Int) : (evFn (ctx Tryd.prog (G0 ev) [(49, fmtC)]) noL Tryd.f29 [.int .i64 n] []).get =
    cond (decide ((10 : Int) = 10)) (cond (decide (-9223372036854775808 ≤ n) && decide (n ≤ 9223372036854775807)) (some (.str (Lib.itoa n), [])) none) none := by kernel_rfl
theorem okPrint : Con.ok Tryd.prog (G0 ev) 29 printC :=
  loop_spec (l := [(49, fmtC)]) ⟨okFmt, trivial⟩ hm Tryd.func29 (by rfl) (by kernel_rfl) fun args st r h => by
    unfold printC at h
    dsimp only at h
    split at h
    · rename_i n
      obtain ⟨h1, h2⟩ := need_get h
      refine ⟨noL, noL_ok, ?_⟩
      rw [print_ev, ← ret_get h2, h1]; rfl
    · exact (no_get h).elim
noncomputable def printK (k : Nat) : Con where
  spec := fun args st => match args, st with
    | [.int .i64 n], [] => .need (decide (0 < k) && decide (n.natAbs < 10 ^ k)) (.need (decide (-9223372036854775808 ≤ n) && decide (n ≤ 9223372036854775807)) (.ret (.str (Lib.itoa n), [])))
    | _, _ => .no
  quiet := true
def inK (k : Nat) (n : Int) (A : Option (AV × Store)) : Option (AV × Store) :=
  cond (decide (0 < k) && decide (n.natAbs < 10 ^ k)) (cond (decide (-9223372036854775808 ≤ n) && decide (n ≤ 9223372036854775807)) A none) none
theorem rprint_ev (k : Nat) (n : Int) : (evFn (ctx Tryd.prog (G0 ev) [(30, printK k)]) noL Tryd.f30 [.int .i64 n] []).get =
    cond (decide (n < 0)) (cond (decide (W64 (n.tdiv 10) = 0))
        (cond (decide (([45] : List UInt8).length + [u8w (W64 (48 - n.tmod 10))].length ≤ LIM)) (some (.str ([45] ++ [u8w (W64 (48 - n.tmod 10))]), [])) none)
        (inK k (W64 (n.tdiv 10)) (cond (decide ((Lib.itoa (W64 (n.tdiv 10))).length + [u8w (W64 (48 - n.tmod 10))].length ≤ LIM)) (some (.str (Lib.itoa (W64 (n.tdiv 10)) ++ [u8w (W64 (48 - n.tmod 10))]), [])) none)))
      (cond (decide (n < 10)) (some (.str [u8w (W64 (48 + n.tmod 10))], []))
        (inK k (W64 (n.tdiv 10)) (cond (decide ((Lib.itoa (W64 (n.tdiv 10))).length + [u8w (W64 (48 + n.tmod 10))].length ≤ LIM)) (some (.str (Lib.itoa (W64 (n.tdiv 10)) ++ [u8w (W64 (48 + n.tmod 10))]), [])) none))) := by kernel_rfl
end Go.Proofs.YtpiphiieflnabaaDoor
