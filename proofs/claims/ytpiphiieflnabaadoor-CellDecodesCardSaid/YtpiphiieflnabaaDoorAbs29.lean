/- The abstract machine: package-level tables. Conditions: what the row lists of the table. -/
import Derived.Test.YtpiphiieflnabaaDoorAbs28
import Derived.Lib.LaidTab
import Derived.OpenShut
namespace Go.Abs
open Go.ChangeShapes
section
variable {P : Program} {W : World}

theorem flat_get {k : EK} {a : AV} : ∀ (ys : List k.α) (j : Nat), (ys.flatMap k.enc)[j]? = some a → ∃ i r y, j = i * k.size + r ∧ r < k.size ∧ ys[i]? = some y ∧ (k.enc y)[r]? = some a
  | [], j, h => by simp at h
  | y :: ys, j, h => by
    rw [List.flatMap_cons] at h
    by_cases hj : j < k.size
    · rw [List.getElem?_append_left (by rw [enc_length]; exact hj)] at h
      exact ⟨0, j, y, by omega, hj, rfl, h⟩
    · rw [List.getElem?_append_right (by rw [enc_length]; omega), enc_length] at h
      obtain ⟨i, r, z, h1, h2, h3, h4⟩ := flat_get ys _ h
      exact ⟨i + 1, r, z, by rw [Nat.succ_mul]; omega, h2, h3, h4⟩

theorem flat_len {k : EK} : ∀ (ys : List k.α), (ys.flatMap k.enc).length = ys.length * k.size
  | [] => by simp
  | y :: ys => by rw [List.flatMap_cons, List.length_append, enc_length, flat_len ys, List.length_cons, Nat.succ_mul]; omega

theorem allSome_get {α : Type} : ∀ (l : List (Option α)) (ys : List α), allSome l = some ys → ∀ (i : Nat) (y : α), ys[i]? = some y → l[i]? = some (some y)
  | [], ys, h, i, y, hy => by cases h; simp at hy
  | none :: l, ys, h, _, _, _ => by cases h
  | some x :: l, ys, h, i, y, hy => by
    obtain ⟨zs, h1, rfl⟩ := Option.map_eq_some_iff.1 (show (allSome l).map (x :: ·) = some ys from h)
    cases i with
    | zero => simp at hy; subst hy; rfl
    | succ i => simpa using allSome_get l zs h1 i y (by simpa using hy)

/-- A table of an array type, of what the row lists. -/
theorem glob_ok {name : String} {g : Nat} {t e : TypeId} {m n : Nat} {k : EK} {parts : List (DataW Unit)} {rest : List (String × DataW Unit)} {ys : List k.α} (hg : P.globalNamed name = some g) (hty : (P.globals[g]?).map (·.type) = some t)
    (ht : P.underlying t = some (.array m e)) (hk : lay P n e k = true) (hc : P.cellsOf e = k.size) (hd : allSome (parts.map (dat P n e k)) = some ys) (hz : P.cellsOf t = ys.length * k.size) (h : laidMet P ((name, .agg parts) :: rest) W)
    {S : Nat → Prop} (hS : ∀ b, ¬ S b) : GlobOK W S g (ys.flatMap k.enc) := by
  obtain ⟨ps, ⟨g', t', cs, fuel, p, q, hg', ht', hvar, hx, _, _⟩, _⟩ := h
  obtain rfl := Option.some.inj (hg.symm.trans hg')
  obtain rfl := Option.some.inj (hty.symm.trans ht')
  obtain ⟨xs, fu, rfl, hp, hl, hxl, hel⟩ := DataW.trod_array ht hx
  obtain ⟨rfl, _⟩ := Prod.mk.inj hp |>.imp (fun h => DataW.agg.inj h) id
  have hcell : ∀ i : Nat, W.cell? ⟨g, i, none⟩ = cs.toList[i]? := fun i => by
    have := World.var?_cell hg hvar i
    simpa using this
  have hlt : g < W.heap.size := by
    unfold World.var? at hvar
    rw [hg] at hvar
    simp only [Option.bind_some] at hvar
    cases hh : W.heap[g]? with
    | none => rw [hh] at hvar; cases hvar
    | some o => exact (Array.getElem?_eq_some_iff.1 hh).1
  refine ⟨fun N => ?_, ?_⟩
  case refine_2 =>
    unfold World.var? at hvar
    rw [hg] at hvar
    simp only [Option.bind_some] at hvar
    cases hh : W.heap[g]? with
    | none => rw [hh] at hvar; cases hvar
    | some o =>
      rw [hh] at hvar
      cases o with
      | cells c T fr =>
        obtain rfl := Option.some.inj hvar
        refine ⟨_, T, fr, rfl, ?_⟩
        rw [flat_len, ← hz, ← hl]; simp
      | _ => cases hvar
  have each : ∀ (i : Nat) (y : k.α), ys[i]? = some y → ∀ (r : Nat) (a : AV), (k.enc y)[r]? = some a → ∃ v, cs.toList[i * k.size + r]? = some v ∧ Rel W S N a v := by
    intro i y hy r a ha
    have h1 := allSome_get _ _ hd i y hy
    rw [List.map_map, List.getElem?_map] at h1
    obtain ⟨x, hxi, hxd⟩ := Option.map_eq_some_iff.1 h1
    have him : i < m := by have := (List.getElem?_eq_some_iff.1 hxi).1; omega
    have h2 := hel i him
    rw [hxi] at h2
    obtain ⟨h3, y', h4, _, _, h5⟩ := lay_ok (N := N) hS n e k _ _ _ hk h2
    have : y' = y := by
      have e1 : dat P n e k x.1 = some y := hxd
      rw [h5] at e1; exact Option.some.inj e1
    subst this
    have hr : r < k.size := by have := (List.getElem?_eq_some_iff.1 ha).1; rwa [enc_length] at this
    rw [hc] at h3 h4
    have hv : ((cs.toList.drop (i * k.size)).take k.size)[r]? = some (((cs.toList.drop (i * k.size)).take k.size)[r]'(by omega)) := List.getElem?_eq_getElem (by omega)
    refine ⟨_, ?_, h4 r a _ ha (by rw [Nat.zero_add]; exact hv)⟩
    rw [← hv, List.getElem?_take, if_pos hr, List.getElem?_drop]
  refine .pim _ g 0 (fun j => (cs.toList[j]?).getD undef) (hS g) hlt (fun j hj => ?_) (fun j a ha => ?_)
  · obtain ⟨i, r, y, h1, h2, h3, h4⟩ := flat_get ys j (List.getElem?_eq_getElem hj)
    obtain ⟨v, hv, _⟩ := each i y h3 r _ h4
    rw [Nat.zero_add, hcell, h1, hv]; rfl
  · obtain ⟨i, r, y, h1, h2, h3, h4⟩ := flat_get ys j ha
    obtain ⟨v, hv, hr⟩ := each i y h3 r a h4
    show Rel W S N a ((cs.toList[j]?).getD undef)
    rw [h1, hv]; exact hr
end
end Go.Abs
