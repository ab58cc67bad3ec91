/- WholeFront: the loop, the tree. (under way) -/
import Derived.Test.YtmdgkchphmncpaaDoorW06
namespace Go.Proofs.YtmdgkchphmncpaaDoor
open Go Go.Abs
set_option maxRecDepth 100000

/-- Parse, whose records are only read. -/
noncomputable def parseQ : Con := { parseC with quiet := true, fresh := true }
theorem okParseQ : Con.ok Tryd.prog G0 8 parseQ := okParse
noncomputable def u1 : List (Nat × Con) := [(8, parseQ), (15, sameC)]
theorem oku1 : AllOK Tryd.prog G0 u1 := ⟨okParseQ, okSame, trivial⟩
noncomputable def u2 : List (Nat × Con) := (7, awakeC) :: (9, rightC) :: (10, runC (ctx Tryd.prog G0 u1) 0 Tryd.f10 true) :: u1
theorem oku2 : AllOK Tryd.prog G0 u2 := ⟨okAwake, okRight, add_run oku1 hm 0 true Tryd.func10 (by rfl) (by kernel_rfl)⟩
noncomputable abbrev XQ : Ctx := ctx Tryd.prog G0 u2
noncomputable def SQ (a b : Rows3) (n i : Int) : St := stOf Tryd.f4.ntmps [9, 11, 77, 78] [.seq rowsK a, .seq rowsK b, .int .i64 n, .int .i64 i] []
theorem roundQ (a b : Rows3) (n i : Int) (T : St → Tr (Ex × St)) : (evRound XQ noL [] bodyF 1 [9, 11, 77, 78] [6] (SQ a b n i) T).get =
    cond (decide (i < n)) (cond (decide (0 ≤ i)) (atL a i.toNat fun x => cond (decide (0 ≤ i)) (atL b i.toNat fun y => cond (decide (x.length ≤ LIM)) (cond (!decide (x = y)) (some (.ret, OF (.bool false))) (T (SQ a b n (IntKind.i64.wrap (i + 1)))).get) none) none) none) (some (.exit 0, OF .top)) := by kernel_rfl
theorem loopQ (a b : Rows3) (n : Nat) (ha : n ≤ a.length) (hb : n ≤ b.length) (hn : n ≤ 1000000) (he : a.take n = b.take n) (hr : ∀ r ∈ a, r.length ≤ LIM) : LoopSem XQ [] bodyF (SQ a b n 0) (.exit 0, OF .top) := by
  have := loop_meas (X := XQ) (ctx_ok oku2) hm (L := noL) (n0 := []) (body := bodyF) (off := 1) (live := [9, 11, 77, 78]) (out := [6]) noL_ok (fun i : Nat => SQ a b n i) (fun _ => (.exit 0, OF .top)) (fun i => n - i) (fun i => i ≤ n) ?_ 0 (by omega)
  · exact this
  intro i hi
  by_cases hlt : i < n
  · have hx : a[i]? = some (a[i]'(by omega)) := List.getElem?_eq_getElem (by omega)
    have hy : b[i]? = some (a[i]'(by omega)) := by
      have h1 : (a.take n)[i]? = (b.take n)[i]? := by rw [he]
      rw [List.getElem?_take, List.getElem?_take, if_pos hlt, if_pos hlt] at h1
      rw [← h1]; exact hx
    refine .inr ⟨i + 1, by omega, by omega, rfl, fun T => ?_⟩
    rw [roundQ, decide_eq_true (by omega : (i : Int) < n), decide_eq_true (by omega : (0 : Int) ≤ i), atL_some (show a[(i : Int).toNat]? = some _ from hx), atL_some (show b[(i : Int).toNat]? = some _ from hy), decide_eq_true (hr _ (List.mem_of_getElem? hx)), wrap64 (by omega) (by omega)]
    simp
  · have : i = n := by omega
    subst this
    exact .inl fun T => by rw [roundQ, decide_eq_false (by omega)]; rfl
noncomputable def specQ (vals : List AV) (st : Store) : Tr (Ex × St) :=
  match vals, st with
  | [.seq (.seq .str) a, .seq (.seq .str) b, .int .i64 n, .int .i64 i], [] => .need (decide (i = 0)) (.need (decide (0 ≤ n) && decide (n ≤ a.length) && decide (n ≤ b.length) && decide (n ≤ 1000000) && decide (a.take n.toNat = b.take n.toNat) && a.all (fun r => decide (r.length ≤ LIM))) (.ret (.exit 0, OF .top)))
  | _, _ => .no
theorem specQ_ok : LoopOK XQ [] bodyF Tryd.f4.ntmps [9, 11, 77, 78] specQ := by
  intro vals st r h
  unfold specQ at h
  split at h
  · rename_i a b n i
    obtain ⟨h1, hA⟩ := need_get h
    obtain ⟨h2, hB⟩ := need_get hA
    have e := ret_get hB
    simp only [Bool.and_eq_true, decide_eq_true_eq, List.all_eq_true] at h1 h2
    have := loopQ a b n.toNat (by omega) (by omega) (by omega) h2.1.2 h2.2
    rw [show ((n.toNat : Nat) : Int) = n by omega] at this
    rw [← e, h1]; exact this
  · exact (no_get h).elim
noncomputable def LQ : Nat → St → Tr (Ex × St) := loops [(0, loopL [] Tryd.f4.ntmps [9, 11, 77, 78] specQ)]
theorem LQ_ok : LoopsAt XQ LQ [] cF 0 := loops_ok ⟨loop_entry (n := 0) hbF specQ_ok, trivial⟩
theorem front_ev (d : D3) (t : List UInt8) (at' : Int) : (evFn XQ LQ Tryd.f4 [dAV d, .str t, .int .u16 at'] []).get =
    cond (decide (300 < (t.length : Int))) (bo true) (cond (!rightI (IntKind.i64.wrap d.1) (IntKind.i64.wrap d.2.1) d.2.2) (bo true)
      (cond (!decide (IntKind.i64.wrap ((t.length : Int) + 1) = 0)) (cond (decide (0 ≤ kF t at') && decide (kF t at' ≤ t.length))
        (cond (decide ((t.take (kF t at').toNat).length ≤ 100000)) (cond (decide (t.length ≤ 100000)) (front1 (walkP d wideL (t.take (kF t at').toNat)) (walkP d wideL t) (kF t at')) none) none) none) none)) := by kernel_rfl
end Go.Proofs.YtmdgkchphmncpaaDoor
