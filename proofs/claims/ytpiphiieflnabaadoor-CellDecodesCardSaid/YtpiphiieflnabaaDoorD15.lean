/- Parsing (num's and the document's): what they do. Conditions: strconv.ErrRange holds an interface value. -/
import Derived.Test.YtpiphiieflnabaaDoorD14
namespace Go.Proofs.YtpiphiieflnabaaDoor
open Go Go.Abs
set_option maxRecDepth 100000
variable {ev : Env}

def inR (n : Int) : Bool := decide (-9223372036854775808 ≤ n) && decide (n ≤ 9223372036854775807)
noncomputable def parseFC (ev : Env) : Con where
  spec := fun args st => match args, st with
    | [.str s, .int .i64 b, .int .i64 z], [] =>
      .need (decide (b = 10) && decide (z = 64) && decide (s.length ≤ 281474976710656)) (.need (form s) (.br (inR (numV s)) (.ret (.tup [.int .i64 (numV s), .lit .nilIface], []))
        (.need ev.isSome (.ret (.tup [.int .i64 (Lib.intSat 64 s), .ifc 99 .top], [])))))
    | _, _ => .no
  quiet := true
abbrev EvOK (ev : Env) : Prop := ∀ v, ev.err = some v → v = .nilIface ∨ ∃ te pe, v = .iface te pe
theorem okParseF (hev : EvOK ev) : Con.ok Tryd.prog (G0 ev) 47 (parseFC ev) := by
  intro args st r st' h
  refine okParseInt hev args st r st' ?_
  unfold parseFC at h
  unfold parseIntC
  dsimp only at h ⊢
  split at h
  · rename_i s b z
    obtain ⟨h1, hA⟩ := need_get h
    obtain ⟨h2, hB⟩ := need_get hA
    dsimp only
    rw [h1, parse_form h2]
    cases hr : inR (numV s) with
    | true =>
      rw [hr] at hB
      unfold inR at hr
      simp only [Bool.and_eq_true, decide_eq_true_eq] at hr
      rw [if_pos hr]; exact hB
    | false =>
      rw [hr] at hB
      unfold inR at hr
      rw [if_neg (by intro h; simp only [Bool.and_eq_false_iff, decide_eq_false_iff_not] at hr; omega)]
      obtain ⟨h3, hC⟩ := need_get (show (Tr.need ev.isSome _).get = some (r, st') from hB)
      dsimp only
      rw [h3]; exact hC
  · exact (no_get h).elim
/-- Which number a text is; the error's number. -/
def parseP (s : List UInt8) : Int × Int := cond (form s) (cond (inR (numV s)) (numV s, 0) (0, 18)) (0, 17)
def i2 (p : Int × Int) : Option (AV × Store) := some (.tup [.int .i64 p.1, .int .i64 p.2], [])
noncomputable def parseC (ev : Env) : Con where
  spec := fun args st => match args, st with | [.str s], [] => .need (ev.isSome && decide (s.length ≤ LIM)) (.ret (.tup [.int .i64 (parseP s).1, .int .i64 (parseP s).2], [])) | _, _ => .no
  quiet := true
noncomputable def n2 (ev : Env) : List (Nat × Con) := (29, printC) :: (30, printC) :: (31, lessNC) :: (32, lessNC) :: (47, parseFC ev) :: n1
theorem okn2 (hev : EvOK ev) : AllOK Tryd.prog (G0 ev) (n2 ev) := ⟨okPrint, okRPrint, okNLess, okRLess, okParseF hev, okn1⟩
theorem parse_ev (s : List UInt8) : (evFn (ctx Tryd.prog (G0 ev) (n2 ev)) noL Tryd.f25 [.str s] []).get =
    cond (decide (s.length ≤ LIM)) (cond (!form s) (i2 (0, 17)) (cond (decide ((10 : Int) = 10) && decide ((64 : Int) = 64) && decide (s.length ≤ 281474976710656)) (cond (form s) (cond (inR (numV s)) (i2 (numV s, 0)) (cond ev.isSome (i2 (0, 18)) none)) none) none)) none := by kernel_rfl
theorem okParse (hev : EvOK ev) : Con.ok Tryd.prog (G0 ev) 25 (parseC ev) :=
  loop_spec (okn2 hev) hm Tryd.func25 (by rfl) (by kernel_rfl) fun args st r h => by
    unfold parseC at h
    dsimp only at h
    split at h
    · rename_i s
      obtain ⟨h1, h2⟩ := need_get h
      simp only [Bool.and_eq_true] at h1
      refine ⟨noL, noL_ok, ?_⟩
      have hl : decide (s.length ≤ 281474976710656) = true := by have := h1.2; simp only [decide_eq_true_eq] at this ⊢; unfold LIM at this; omega
      rw [parse_ev, ← ret_get h2, h1.1, h1.2, hl]; unfold parseP
      cases form s <;> cases inR (numV s) <;> rfl
    · exact (no_get h).elim

/-! ### The document's Parse -/
def goV (b : Bool) (n : Int) : List UInt8 → Int
  | [] => n
  | c :: r => cond (decide ((c.toNat : Int) = 45)) (goV b n r) (goV b (cond b (W64 (W64 (n * 10) - W64 (IntKind.u8.wrap ((c.toNat : Int) - 48)))) (W64 (W64 (n * 10) + W64 (IntKind.u8.wrap ((c.toNat : Int) - 48))))) r)
noncomputable def cP : Code := Tryd.f26.body.getD .skip
noncomputable def bodyP : Code := (loopAt cP 0).getD .skip
theorem hcP : Tryd.f26.body = some cP := by kernel_rfl
theorem hbP : loopAt cP 0 = some bodyP := by kernel_rfl
noncomputable abbrev XP (ev : Env) : Ctx := ctx Tryd.prog (G0 ev) (n2 ev)
noncomputable def SP (s : List UInt8) (n : Int) (b : Bool) (i : Int) : St := stOf Tryd.f26.ntmps [0, 4, 5, 6] [.str s, .int .i64 n, .bool b, .int .i64 i] []
noncomputable def OP (x : AV) : St := stOf Tryd.f26.ntmps [4] [x] []
theorem roundP (s : List UInt8) (n : Int) (b : Bool) (i : Int) (T : St → Tr (Ex × St)) : (evRound (XP ev) noL [] bodyP 1 [0, 4, 5, 6] [4] (SP s n b i) T).get =
    cond (decide (i < (s.length : Int))) (cond (decide (0 ≤ i)) (atL s i.toNat fun c => cond (decide ((c.toNat : Int) = 45)) (T (SP s n b (W64 (i + 1)))).get
      (cond b (cond (decide (0 ≤ i)) (atL s i.toNat fun c => (T (SP s (W64 (W64 (n * 10) - W64 (IntKind.u8.wrap ((c.toNat : Int) - 48)))) b (W64 (i + 1)))).get) none)
        (cond (decide (0 ≤ i)) (atL s i.toNat fun c => (T (SP s (W64 (W64 (n * 10) + W64 (IntKind.u8.wrap ((c.toNat : Int) - 48)))) b (W64 (i + 1)))).get) none))) none) (some (.exit 0, OP (.int .i64 n))) := by kernel_rfl
theorem loopPa (hev : EvOK ev) (s : List UInt8) (b : Bool) (hl : s.length ≤ LIM) : LoopSem (XP ev) [] bodyP (SP s 0 b 0) (.exit 0, OP (.int .i64 (goV b 0 s))) := by
  have := loop_meas (X := XP ev) (ctx_ok (okn2 hev)) hm (L := noL) (n0 := []) (body := bodyP) (off := 1) (live := [0, 4, 5, 6]) (out := [4]) noL_ok (fun p : Nat × Int => SP s p.2 b p.1) (fun p => (.exit 0, OP (.int .i64 (goV b p.2 (s.drop p.1))))) (fun p => s.length - p.1) (fun p => p.1 ≤ s.length) ?_ (0, 0) (by simp)
  · simpa using this
  rintro ⟨i, n⟩ hi
  dsimp only at hi ⊢
  unfold LIM at hl
  by_cases he : i < s.length
  · have hx : s[i]? = some s[i] := List.getElem?_eq_getElem he
    have hw : W64 ((i : Int) + 1) = ((i + 1 : Nat) : Int) := by rw [show W64 ((i : Int) + 1) = (i : Int) + 1 from w64 (by omega) (by omega)]; simp
    rw [List.drop_eq_getElem_cons he]
    refine .inr ⟨(i + 1, cond (decide ((s[i].toNat : Int) = 45)) n (cond b (W64 (W64 (n * 10) - W64 (IntKind.u8.wrap ((s[i].toNat : Int) - 48)))) (W64 (W64 (n * 10) + W64 (IntKind.u8.wrap ((s[i].toNat : Int) - 48)))))), ?_, ?_, ?_, fun T => ?_⟩
    · dsimp only; omega
    · dsimp only; omega
    · dsimp only
      rw [show goV b n (s[i] :: s.drop (i + 1)) = cond (decide ((s[i].toNat : Int) = 45)) (goV b n (s.drop (i + 1))) (goV b (cond b (W64 (W64 (n * 10) - W64 (IntKind.u8.wrap ((s[i].toNat : Int) - 48)))) (W64 (W64 (n * 10) + W64 (IntKind.u8.wrap ((s[i].toNat : Int) - 48))))) (s.drop (i + 1))) from rfl]
      cases decide ((s[i].toNat : Int) = 45) <;> rfl
    · rw [roundP, decide_eq_true (by omega : (i : Int) < s.length), decide_eq_true (by omega : (0 : Int) ≤ i), hw]
      simp only [cond_true, atL_some (show s[(i : Int).toNat]? = some _ from hx)]
      cases decide ((s[i].toNat : Int) = 45) <;> cases b <;> rfl
  · have : i = s.length := by omega
    subst this
    refine .inl fun T => ?_
    rw [roundP, decide_eq_false (by omega), List.drop_of_length_le (Nat.le_refl _)]
    rfl
noncomputable def specP (vals : List AV) (st : Store) : Tr (Ex × St) :=
  match vals, st with
  | [.str s, .int .i64 n, .bool b, .int .i64 i], [] => .need (decide (i = 0) && decide (n = 0)) (.need (decide (s.length ≤ LIM)) (.ret (.exit 0, OP (.int .i64 (goV b 0 s)))))
  | _, _ => .no
theorem specP_ok (hev : EvOK ev) : LoopOK (XP ev) [] bodyP Tryd.f26.ntmps [0, 4, 5, 6] specP := by
  intro vals st r h
  unfold specP at h
  split at h
  · rename_i s n b i
    obtain ⟨h1, hA⟩ := need_get h
    obtain ⟨h2, hB⟩ := need_get hA
    simp only [Bool.and_eq_true, decide_eq_true_eq] at h1 h2
    rw [h1.1, h1.2, ← ret_get hB]
    exact loopPa hev s b h2
  · exact (no_get h).elim
noncomputable def LP : Nat → St → Tr (Ex × St) := loops [(0, loopL [] Tryd.f26.ntmps [0, 4, 5, 6] specP)]
def lowT : List UInt8 := [45, 57, 50, 50, 51, 51, 55, 50, 48, 51, 54, 56, 53, 52, 55, 55, 53, 56, 48, 56]
def topT : List UInt8 := [57, 50, 50, 51, 51, 55, 50, 48, 51, 54, 56, 53, 52, 55, 55, 53, 56, 48, 55]
theorem rparse_ev (s : List UInt8) : (evFn (XP ev) LP Tryd.f26 [.str s] []).get =
    cond (decide (s.length ≤ LIM)) (cond (!form s) (i2 (0, 17)) (cond (decide (s.length ≤ LIM) && decide (lowT.length ≤ LIM)) (cond (lessN s lowT) (i2 (0, 18))
      (cond (decide (topT.length ≤ LIM) && decide (s.length ≤ LIM)) (cond (lessN topT s) (i2 (0, 18)) (atL s 0 fun c => cond (decide (s.length ≤ LIM)) (i2 (goV (decide ((c.toNat : Int) = 45)) 0 s, 0)) none)) none)) none)) none := by kernel_rfl
theorem goV_neg : ∀ (ds : List UInt8) (acc : Nat), ds.all isD = true → valF acc ds ≤ 9223372036854775808 → goV true (-(acc : Int)) ds = -(valF acc ds : Int)
  | [], acc, _, _ => rfl
  | c :: r, acc, hd, hv => by
    simp only [List.all_cons, Bool.and_eq_true] at hd
    have hc := isD_iff.1 hd.1
    have e : valF acc (c :: r) = valF (acc * 10 + dv c) r := rfl
    have hm := valF_mono (acc * 10 + dv c) r
    rw [e] at hv ⊢
    unfold goV
    have hdv : dv c = c.toNat - 48 := rfl
    rw [decide_eq_false (by omega), cond_false, cond_true, w8 (by omega) (by omega), show W64 ((c.toNat : Int) - 48) = (c.toNat : Int) - 48 from w64 (by omega) (by omega), show W64 (-(acc : Int) * 10) = -(acc : Int) * 10 from w64 (by omega) (by omega),
      show W64 (-(acc : Int) * 10 - ((c.toNat : Int) - 48)) = -((acc * 10 + dv c : Nat) : Int) from (w64 (by omega) (by omega)).trans (by omega)]
    exact goV_neg r _ hd.2 hv
theorem goV_pos : ∀ (ds : List UInt8) (acc : Nat), ds.all isD = true → valF acc ds ≤ 9223372036854775807 → goV false (acc : Int) ds = (valF acc ds : Int)
  | [], acc, _, _ => rfl
  | c :: r, acc, hd, hv => by
    simp only [List.all_cons, Bool.and_eq_true] at hd
    have hc := isD_iff.1 hd.1
    have e : valF acc (c :: r) = valF (acc * 10 + dv c) r := rfl
    have hm := valF_mono (acc * 10 + dv c) r
    rw [e] at hv ⊢
    unfold goV
    have hdv : dv c = c.toNat - 48 := rfl
    rw [decide_eq_false (by omega), cond_false, cond_false, w8 (by omega) (by omega), show W64 ((c.toNat : Int) - 48) = (c.toNat : Int) - 48 from w64 (by omega) (by omega), show W64 ((acc : Int) * 10) = (acc : Int) * 10 from w64 (by omega) (by omega),
      show W64 ((acc : Int) * 10 + ((c.toNat : Int) - 48)) = ((acc * 10 + dv c : Nat) : Int) from (w64 (by omega) (by omega)).trans (by omega)]
    exact goV_pos r _ hd.2 hv
theorem go_num {c : UInt8} {r : List UInt8} (h : form (c :: r) = true) (hr : inR (numV (c :: r)) = true) : goV (decide ((c.toNat : Int) = 45)) 0 (c :: r) = numV (c :: r) := by
  obtain ⟨h1, h2, h3⟩ := form_cut h
  rw [cutM_cons] at h1 h2 h3
  unfold inR at hr
  simp only [Bool.and_eq_true, decide_eq_true_eq] at hr
  cases hc : decide ((c.toNat : Int) = 45) with
  | true =>
    rw [hc] at h1 h2 h3
    dsimp only [cond_true] at h1 h2 h3
    have e : goV true 0 (c :: r) = goV true 0 r := by
      show cond (decide ((c.toNat : Int) = 45)) _ _ = _
      rw [hc]; rfl
    rw [e, h3]
    rw [h3] at hr
    have := goV_neg r 0 (okD_all h1) (by omega)
    simpa using this
  | false =>
    rw [hc] at h1 h2 h3
    dsimp only [cond_false] at h1 h2 h3
    rw [h3]
    rw [h3] at hr
    have := goV_pos (c :: r) 0 (okD_all h1) (by omega)
    simpa using this
noncomputable def rparseC : Con where
  spec := fun args st => match args, st with | [.str s], [] => .need (decide (s.length ≤ LIM)) (.ret (.tup [.int .i64 (parseP s).1, .int .i64 (parseP s).2], [])) | _, _ => .no
  quiet := true
theorem okRParse (hev : EvOK ev) : Con.ok Tryd.prog (G0 ev) 26 rparseC :=
  loop_spec (okn2 hev) hm Tryd.func26 hcP (by kernel_rfl) fun args st r h => by
    unfold rparseC at h
    dsimp only at h
    split at h
    · rename_i s
      obtain ⟨h1, h2⟩ := need_get h
      refine ⟨LP, loops_ok ⟨loop_entry (n := 0) hbP (specP_ok hev), trivial⟩, ?_⟩
      rw [rparse_ev, ← ret_get h2, h1, show decide (lowT.length ≤ LIM) = true from rfl, show decide (topT.length ≤ LIM) = true from rfl]; unfold parseP
      cases hf : form s with
      | false => rfl
      | true =>
        have hlow : form lowT = true := by decide
        have htop : form topT = true := by decide
        have vlow : numV lowT = -9223372036854775808 := by decide
        have vtop : numV topT = 9223372036854775807 := by decide
        unfold lessN
        rw [hf, hlow, htop, lessS_val hf hlow, lessS_val htop hf, vlow, vtop]
        cases s with
        | nil => cases hf
        | cons c r =>
          rw [atL_some (show (c :: r)[0]? = some c from rfl)]
          cases hr : inR (numV (c :: r)) with
          | true =>
            rw [go_num hf hr]
            unfold inR at hr
            simp only [Bool.and_eq_true, decide_eq_true_eq] at hr
            rw [decide_eq_false (by omega : ¬ numV (c :: r) < -9223372036854775808), decide_eq_false (by omega : ¬ 9223372036854775807 < numV (c :: r))]; rfl
          | false =>
            unfold inR at hr
            simp only [Bool.and_eq_false_iff, decide_eq_false_iff_not] at hr
            by_cases h3 : numV (c :: r) < -9223372036854775808
            · rw [decide_eq_true h3]; rfl
            · rw [decide_eq_false h3, decide_eq_true (by omega : 9223372036854775807 < numV (c :: r))]; rfl
    · exact (no_get h).elim
noncomputable def n3 (ev : Env) : List (Nat × Con) := (26, rparseC) :: (25, parseC ev) :: n2 ev
theorem okn3 (hev : EvOK ev) : AllOK Tryd.prog (G0 ev) (n3 ev) := ⟨okRParse hev, okParse hev, okn2 hev⟩
end Go.Proofs.YtpiphiieflnabaaDoor
