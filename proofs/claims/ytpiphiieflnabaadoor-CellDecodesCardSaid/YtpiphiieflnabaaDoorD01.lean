/- The library's functions on numbers and texts: what they do, in the abstract machine's words. Conditions: none. -/
import Derived.Test.YtpiphiieflnabaaDoorAbs31
import Derived.Test.YtpiphiieflnabaaDoorS01
import Derived.Lib.ParseIntBTie
namespace Go.Proofs.YtpiphiieflnabaaDoor
open Go Go.Abs
set_option maxRecDepth 100000

abbrev spanK : EK := .pair (.int .u8) (.pair (.int .u8) (.int .i64))
def spans : List (List (Int × Int × Int)) := [
  [(0, 127, 0), (194, 223, 1), (224, 224, 4), (225, 236, 2), (237, 237, 5), (238, 239, 2), (240, 240, 6), (241, 243, 3), (244, 244, 7)],
  [(128, 191, 0)], [(128, 191, 1)], [(128, 191, 2)], [(160, 191, 1)], [(128, 159, 1)], [(144, 191, 2)], [(128, 143, 2)]]
/-- What is known of the package variables: the tables; err: strconv.ErrRange, utf: UTF-8's table, where they are needed. -/
noncomputable def utfT : List AV := (spans : List (EK.seq spanK).α).flatMap (EK.seq spanK).enc
structure Env where
  err : Option Value
  utf : Option (List AV)
def Env.isSome (ev : Env) : Bool := ev.err.isSome
noncomputable def G0 (ev : Env) : Nat → Option (List AV)
  | 2 => ev.err.map fun v => [.lit v]
  | 3 => some (Lib.pow10Tab.map fun z => .int .u64 z)
  | 4 => ev.utf
  | _ => none
theorem hm : Tryd.prog.follows .mixedOrders = true := by kernel_rfl
variable {ev : Env}

theorem below_grow (w : World) (k : Nat) (os : Array Obj) : RowKit.Below w.heap.size w (Sort.grow (w.drewN k) os) :=
  ⟨rfl, rfl, rfl, by show w.heap.size ≤ (w.heap ++ os).size; simp, fun j hj => by show (w.heap ++ os)[j]? = _; rw [Array.getElem?_append_left hj]⟩

/-! ### strconv.FormatInt -/
noncomputable def fmtC : Con where
  spec := fun args st => match args, st with
    | [.int .i64 n, .int .i64 b], [] => .need (decide (b = 10)) (.need (decide (-9223372036854775808 ≤ n) && decide (n ≤ 9223372036854775807)) (.ret (.str (Lib.itoa n), [])))
    | _, _ => .no
  quiet := true
theorem okFmt : Con.ok Tryd.prog (G0 ev) 49 fmtC := by
  intro args st r st' h
  unfold fmtC at h
  dsimp only at h
  split at h
  · rename_i n b
    obtain ⟨h1, hA⟩ := need_get h
    obtain ⟨h2, hB⟩ := need_get hA
    clear h hA
    simp only [Bool.and_eq_true, decide_eq_true_eq] at h1 h2
    subst h1
    obtain ⟨rfl, rfl⟩ := Prod.mk.inj (ret_get hB)
    refine shelf_sem Tryd.func49 (by rfl) (by kernel_rfl) fun w S N vs hG hR => ?_
    obtain ⟨u, v, rfl, hu, hv⟩ := relL2 hR
    rw [rel_int hu, rel_int hv]
    refine (Tryd.strconv_FormatInt_10 n h2.1 h2.2 w (tab_is (by kernel_rfl) (hG 3 _ rfl))).mono ?_
    rintro e w' ⟨rfl, k, os, rfl⟩
    exact ⟨_, rfl, below_grow w k os, fun _ _ => .str _⟩
  · exact (no_get h).elim

/-! ### strconv.ParseInt -/
noncomputable def parseIntC (ev : Env) : Con where
  spec := fun args st => match args, st with
    | [.str s, .int .i64 b, .int .i64 z], [] =>
      .need (decide (b = 10) && decide (z = 64) && decide (s.length ≤ 281474976710656)) (
        match Lib.parseIntB 64 s with
        | .ok v => .ret (.tup [.int .i64 v, .lit .nilIface], [])
        | .range => if ev.isSome then .ret (.tup [.int .i64 (Lib.intSat 64 s), .ifc 99 .top], []) else .no
        | .syntax => .no)
    | _, _ => .no
  quiet := true
theorem okParseInt (hev : ∀ v, ev.err = some v → v = .nilIface ∨ ∃ te pe, v = .iface te pe) : Con.ok Tryd.prog (G0 ev) 47 (parseIntC ev) := by
  intro args st r st' h
  unfold parseIntC at h
  dsimp only at h
  split at h
  · rename_i s b z
    obtain ⟨h1, hA⟩ := need_get h
    clear h
    simp only [Bool.and_eq_true, decide_eq_true_eq] at h1
    obtain ⟨⟨rfl, rfl⟩, hlen⟩ := h1
    have hsz : (⟨s.toArray⟩ : ByteArray).size = s.length := by show s.toArray.size = _; simp
    have hl : (⟨s.toArray⟩ : ByteArray).data.toList = s := rfl
    split at hA
    · rename_i v hv
      obtain ⟨rfl, rfl⟩ := Prod.mk.inj (ret_get hA)
      refine shelf_sem Tryd.func47 (by rfl) (by kernel_rfl) fun w S N vs hG hR => ?_
      obtain ⟨u1, u2, u3, rfl, r1, r2, r3⟩ := relL3 hR
      rw [rel_str r1, rel_int r2, rel_int r3]
      refine (Tryd.strconv_ParseInt_10_at64_ok ⟨s.toArray⟩ (by omega) v hv w).mono ?_
      rintro e w' ⟨rfl, hw⟩
      refine ⟨_, rfl, ?_, fun _ _ => .tup _ _ rfl fun j a x ha hx => ?_⟩
      · rcases hw with rfl | ⟨t, rfl⟩
        · exact below_same _
        · exact Lib.bytesWorld_below _ _ _
      · match j with
        | 0 => cases ha; cases hx; exact .int _ _
        | 1 => cases ha; cases hx; exact .lit _
        | j + 2 => simp at ha
    · rename_i hv
      split at hA
      · rename_i he
        obtain ⟨e0, he0⟩ := Option.isSome_iff_exists.1 (show ev.err.isSome = true from he)
        obtain ⟨rfl, rfl⟩ := Prod.mk.inj (ret_get hA)
        refine shelf_sem Tryd.func47 (by rfl) (by kernel_rfl) fun w S N vs hG hR => ?_
        obtain ⟨u1, u2, u3, rfl, r1, r2, r3⟩ := relL3 hR
        rw [rel_str r1, rel_int r2, rel_int r3]
        refine (Tryd.strconv_ParseInt_10_at64_range ⟨s.toArray⟩ (by omega) hv e0 w (var_is (hG 2 _ (show ev.err.map (fun v => [AV.lit v]) = _ by rw [he0]; rfl))) (hev e0 he0)).mono ?_
        rintro e w' ⟨M, rfl, -, -, hB⟩
        refine ⟨_, rfl, hB, fun _ _ => .tup _ _ rfl fun j a x ha hx => ?_⟩
        match j with
        | 0 => cases ha; cases hx; exact .int _ _
        | 1 => cases ha; cases hx; exact .ifc _ _ _ (.top _)
        | j + 2 => simp at ha
      · exact (no_get hA).elim
    · exact (no_get hA).elim
  · exact (no_get h).elim

/-! ### strings.Compare -/
noncomputable def cmpSC : Con where
  spec := fun args st => match args, st with
    | [.str a, .str b], [] => .ret (.int .i64 (Lib.compareBytes a b), [])
    | _, _ => .no
  quiet := true
theorem okCmpS : Con.ok Tryd.prog (G0 ev) 43 cmpSC := by
  intro args st r st' h
  unfold cmpSC at h
  dsimp only at h
  split at h
  · rename_i a b
    obtain ⟨rfl, rfl⟩ := Prod.mk.inj (ret_get h)
    refine shelf_sem Tryd.func43 (by rfl) (by kernel_rfl) fun w S N vs hG hR => ?_
    obtain ⟨u, v, rfl, hu, hv⟩ := relL2 hR
    rw [rel_str hu, rel_str hv]
    refine (Tryd.strings_Compare ⟨a.toArray⟩ ⟨b.toArray⟩ w).mono ?_
    rintro e w' ⟨rfl, rfl⟩
    exact ⟨_, rfl, below_same _, fun _ _ => .int _ _⟩
  · exact (no_get h).elim
end Go.Proofs.YtpiphiieflnabaaDoor
