/- The laws of whole: the document's Right, the example, WholeFront's loop and tree. (under way) -/
import Derived.Test.YtmdgkchphmncpaaDoorW05
import Derived.Test.YtmdgkchphmncpaaDoorF09
namespace Go.Proofs.YtmdgkchphmncpaaDoor
open Go Go.Abs
set_option maxRecDepth 100000

/-! ### The document's Right -/
def okb (x : Int) : Bool := !decide (x < 0) && (!decide (127 < x) && (!decide (x = 10) && !decide (x = 13)))
def rightI (a b e : Int) : Bool := okb a && (okb b && (!decide (a = b) && (decide (e = 1) || (decide (e = 2) || decide (e = 3)))))
def badT (x : Int) (k : Option (AV × Store)) : Option (AV × Store) := cond (decide (x < 0)) (bo false) (cond (decide (127 < x)) (bo false) (cond (decide (x = 10)) (bo false) (cond (decide (x = 13)) (bo false) k)))
theorem right_ev (a b e : Int) : ((runC (ctx Tryd.prog G0 []) 3 Tryd.f9 true).spec [.agg [.int .i64 a, .int .i64 b, .int .i64 e]] []).get =
    badT a (badT b (cond (!decide (a = b)) (cond (decide (e = 1)) (bo true) (cond (decide (e = 2)) (bo true) (bo (decide (e = 3))))) (bo false))) := by kernel_rfl
noncomputable def rightC : Con where
  spec := fun args st => match args, st with | [.agg [.int .i64 a, .int .i64 b, .int .i64 e]], [] => .ret (.bool (rightI a b e), []) | _, _ => .no
  quiet := true
theorem okRight : Con.ok Tryd.prog G0 9 rightC := by
  intro args st r st' h
  unfold rightC at h
  dsimp only at h
  split at h
  · rename_i a b e
    refine (add_run (P := Tryd.prog) (G := G0) (l := []) trivial hm 3 true Tryd.func9 (by rfl) (by kernel_rfl)).1 _ _ _ _ ?_
    rw [right_ev, ← ret_get h]
    unfold badT rightI okb bo
    cases decide (a < 0) <;> cases decide (127 < a) <;> cases decide (a = 10) <;> cases decide (a = 13) <;> try rfl
    cases decide (b < 0) <;> cases decide (127 < b) <;> cases decide (b = 10) <;> cases decide (b = 13) <;> try rfl
    cases decide (a = b) <;> cases decide (e = 1) <;> cases decide (e = 2) <;> rfl
  · exact (no_get h).elim

/-! ### The example -/
noncomputable def v1 : List (Nat × Con) := [(8, parseC), (15, sameC)]
theorem okv1 : AllOK Tryd.prog G0 v1 := ⟨okParse, okSame, trivial⟩
theorem awake_ev : (evFn (ctx Tryd.prog G0 v1) noL Tryd.f7 [] []).get = some (.bool true, []) := by kernel_rfl
noncomputable def awakeC : Con where
  spec := fun args st => match args, st with | [], [] => .ret (.bool true, []) | _, _ => .no
  quiet := true
theorem okAwake : Con.ok Tryd.prog G0 7 awakeC :=
  loop_spec okv1 hm Tryd.func7 (by rfl) (by kernel_rfl) fun args st r h => by
    unfold awakeC at h
    dsimp only at h
    split at h
    · exact ⟨noL, noL_ok, by rw [awake_ev, ← ret_get h]⟩
    · exact (no_get h).elim
noncomputable def v2 : List (Nat × Con) := (7, awakeC) :: (9, rightC) :: (10, runC (ctx Tryd.prog G0 v1) 0 Tryd.f10 true) :: v1
theorem okv2 : AllOK Tryd.prog G0 v2 := ⟨okAwake, okRight, add_run okv1 hm 0 true Tryd.func10 (by rfl) (by kernel_rfl)⟩
noncomputable abbrev XV : Ctx := ctx Tryd.prog G0 v2

/-! ### WholeFront -/
noncomputable def cF : Code := Tryd.f4.body.getD .skip
noncomputable def bodyF : Code := (loopAt cF 0).getD .skip
theorem hcF : Tryd.f4.body = some cF := by kernel_rfl
theorem hbF : loopAt cF 0 = some bodyF := by kernel_rfl
abbrev Rows3 : Type := List (List (List UInt8))
noncomputable def SF (a b : Rows3) (n i : Int) : St := stOf Tryd.f4.ntmps [9, 11, 77, 78] [.whole 0, .whole 1, .int .i64 n, .int .i64 i] [.row rowsK a, .row rowsK b]
noncomputable def OF (r : AV) : St := stOf Tryd.f4.ntmps [6] [r] []
theorem roundF (a b : Rows3) (n i : Int) (T : St → Tr (Ex × St)) : (evRound XV noL [] bodyF 1 [9, 11, 77, 78] [6] (SF a b n i) T).get =
    cond (decide (i < n)) (cond (decide (0 ≤ i) && decide (i < a.length)) (atL a i.toNat fun x => cond (decide (0 ≤ i) && decide (i < b.length)) (atL b i.toNat fun y => cond (decide (x.length ≤ LIM)) (cond (!decide (x = y)) (some (.ret, OF (.bool false))) (T (SF a b n (IntKind.i64.wrap (i + 1)))).get) none) none) none) (some (.exit 0, OF .top)) := by kernel_rfl
theorem loopF1 (a b : Rows3) (n : Nat) (ha : n ≤ a.length) (hb : n ≤ b.length) (hn : n ≤ 1000000) (he : a.take n = b.take n) (hr : ∀ r ∈ a, r.length ≤ LIM) : LoopSem XV [] bodyF (SF a b n 0) (.exit 0, OF .top) := by
  have := loop_meas (X := XV) (ctx_ok okv2) hm (L := noL) (n0 := []) (body := bodyF) (off := 1) (live := [9, 11, 77, 78]) (out := [6]) noL_ok (fun i : Nat => SF a b n i) (fun _ => (.exit 0, OF .top)) (fun i => n - i) (fun i => i ≤ n) ?_ 0 (by omega)
  · exact this
  intro i hi
  by_cases hlt : i < n
  · have hx : a[i]? = some (a[i]'(by omega)) := List.getElem?_eq_getElem (by omega)
    have hy : b[i]? = some (a[i]'(by omega)) := by
      have h1 : (a.take n)[i]? = (b.take n)[i]? := by rw [he]
      rw [List.getElem?_take, List.getElem?_take, if_pos hlt, if_pos hlt] at h1
      rw [← h1]; exact hx
    refine .inr ⟨i + 1, by omega, by omega, rfl, fun T => ?_⟩
    rw [roundF, decide_eq_true (by omega : (i : Int) < n), decide_eq_true (by omega : (0 : Int) ≤ i), decide_eq_true (by omega : (i : Int) < a.length), decide_eq_true (by omega : (i : Int) < b.length), atL_some (show a[(i : Int).toNat]? = some _ from hx), atL_some (show b[(i : Int).toNat]? = some _ from hy), decide_eq_true (hr _ (List.mem_of_getElem? hx)), wrap64 (by omega) (by omega)]
    simp
  · have : i = n := by omega
    subst this
    exact .inl fun T => by rw [roundF, decide_eq_false (by omega)]; rfl
noncomputable def specF (vals : List AV) (st : Store) : Tr (Ex × St) :=
  match vals, st with
  | [.whole 0, .whole 1, .int .i64 n, .int .i64 i], [.row (.seq .str) a, .row (.seq .str) b] => .need (decide (i = 0)) (.need (decide (0 ≤ n) && decide (n ≤ a.length) && decide (n ≤ b.length) && decide (n ≤ 1000000) && decide (a.take n.toNat = b.take n.toNat) && a.all (fun r => decide (r.length ≤ LIM))) (.ret (.exit 0, OF .top)))
  | _, _ => .no
theorem specF_ok : LoopOK XV [] bodyF Tryd.f4.ntmps [9, 11, 77, 78] specF := by
  intro vals st r h
  unfold specF at h
  split at h
  · rename_i n i a b
    obtain ⟨h1, hA⟩ := need_get h
    obtain ⟨h2, hB⟩ := need_get hA
    have e := ret_get hB
    simp only [Bool.and_eq_true, decide_eq_true_eq, List.all_eq_true] at h1 h2
    have := loopF1 a b n.toNat (by omega) (by omega) (by omega) h2.1.2 h2.2
    rw [show ((n.toNat : Nat) : Int) = n by omega] at this
    rw [← e, h1]; exact this
  · exact (no_get h).elim
noncomputable def LF : Nat → St → Tr (Ex × St) := loops [(0, loopL [] Tryd.f4.ntmps [9, 11, 77, 78] specF)]
theorem LF_ok : LoopsAt XV LF [] cF 0 := loops_ok ⟨loop_entry (n := 0) hbF specF_ok, trivial⟩

def wideL : Int × Int × Int × Bool := (2147483648, 2147483648, 2147483648, false)
def kF (t : List UInt8) (at' : Int) : Int := (IntKind.i64.wrap at').tmod (IntKind.i64.wrap ((t.length : Int) + 1))
def front3 (P Q : Int × Int × Rows3) (n : Int) : Option (AV × Store) :=
  cond (decide ((Q.2.2.length : Int) < n)) (bo false) (cond (decide (0 ≤ n) && decide (n ≤ P.2.2.length) && decide (n ≤ Q.2.2.length) && decide (n ≤ 1000000) && decide (P.2.2.take n.toNat = Q.2.2.take n.toNat) && P.2.2.all (fun r => decide (r.length ≤ LIM))) (bo true) none)
def front2 (P Q : Int × Int × Rows3) : Option (AV × Store) :=
  cond (decide (P.1 = 0)) (cond (decide (0 < (P.2.2.length : Int))) (front3 P Q (IntKind.i64.wrap ((P.2.2.length : Int) - 1))) (front3 P Q P.2.2.length)) (front3 P Q P.2.2.length)
def front1 (P Q : Int × Int × Rows3) (k : Int) : Option (AV × Store) :=
  cond (!decide (P.1 = 0)) (cond (decide (P.2.1 < k)) (cond (!(decide (P.1 = Q.1) && (decide (P.2.1 = Q.2.1) && true))) (bo false) (front2 P Q)) (front2 P Q)) (front2 P Q)
end Go.Proofs.YtmdgkchphmncpaaDoor
