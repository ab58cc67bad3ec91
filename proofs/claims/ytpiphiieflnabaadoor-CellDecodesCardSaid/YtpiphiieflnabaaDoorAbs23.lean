/- The abstract machine: arguments that are read; what a law leaves. Conditions: none. -/
import Derived.Test.YtpiphiieflnabaaDoorAbs22
import Derived.Test.YtpiphiieflnabaaDoorRows
import Derived.Deep.Slices
import Derived.ReadAgain
import Derived.ChangeSame
namespace Go.Abs
open Go.ChangeShapes Go.Proofs.YtpiphiieflnabaaDoor
section
variable {P : Program} {w w' W W' : World} {H : Type} {enc : TypeId × Value → H} {S : Nat → Prop} {N : Names} {base : Nat} {spare : Nat → Bool} {held : Bool}

/-! ### Types laid as kinds -/
def layF (P : Program) (rec : TypeId → EK → Bool) : List Field → Nat → EK → Bool
  | [], _, _ => false
  | [f], off, k => f.offset == off && P.cellsOf f.type == k.size && rec f.type k
  | f :: g :: fs, off, k =>
    match k with
    | .pair a b => f.offset == off && P.cellsOf f.type == a.size && rec f.type a && layF P rec (g :: fs) (off + a.size) b
    | _ => false

/-- The type's values are of this kind. -/
def lay (P : Program) : Nat → TypeId → EK → Bool
  | 0, _, _ => false
  | n + 1, t, k =>
    match P.underlying t with
    | some (.int k') => decide (k = .int k')
    | some .bool => decide (k = .bool)
    | some .string => decide (k = .str)
    | some (.slice e) => match k with | .seq k' => lay P n e k' && P.cellsOf e == k'.size | _ => false
    | some (.struct fs) => P.cellsOf t == k.size && layF P (lay P n) fs.toList 0 k
    | _ => false

/-- Its integers are in their ranges. -/
def EK.inR : (k : EK) → k.α → Prop
  | .int k, n => (Lit.int k n).wf = true
  | .bool, _ => True
  | .str, _ => True
  | .seq e, xs => ∀ x ∈ xs, e.inR x
  | .pair a b, p => a.inR p.1 ∧ b.inR p.2

/-- How much it holds. -/
def EK.bulk : (k : EK) → k.α → Nat
  | .int _, _ => 1
  | .bool, _ => 1
  | .str, s => s.length + 1
  | .seq e, xs => (xs.map e.bulk).sum + 1
  | .pair a b, p => a.bulk p.1 + b.bulk p.2

/-- Cells that a reading went through hold a value of the kind. -/
def Opens (w : World) (S : Nat → Prop) (N : Names) (k : EK) (cs : List Value) (off : Nat) (Q : k.α → Prop) : Prop :=
  ∃ y : k.α, (∀ (j : Nat) (a : AV) (v : Value), (k.enc y)[j]? = some a → cs[off + j]? = some v → Rel w S N a v) ∧ k.inR y ∧ Q y

def allSome {α : Type} : List (Option α) → Option (List α)
  | [] => some []
  | some x :: r => (allSome r).map (x :: ·)
  | none :: _ => none

theorem allSome_of {α : Type} : ∀ (l : List (Option α)) (ys : List α), l.length = ys.length → (∀ (i : Nat) (y : α), ys[i]? = some y → l[i]? = some (some y)) → allSome l = some ys
  | [], [], _, _ => rfl
  | [], _ :: _, h, _ => by simp at h
  | _ :: _, [], h, _ => by simp at h
  | o :: l, y :: ys, hl, h => by
    have h0 := h 0 y rfl
    simp only [List.getElem?_cons_zero, Option.some.injEq] at h0
    subst h0
    unfold allSome
    rw [allSome_of l ys (by simpa using hl) fun i z hz => by simpa using h (i + 1) z (by simpa using hz)]
    rfl

/-- The value of a kind that a reading tells. -/
def datF (rec : TypeId → (k : EK) → DataW H → Option k.α) : List Field → (k : EK) → List (DataW H) → Option k.α
  | [f], k, [x] => rec f.type k x
  | f :: g :: fs, .pair a b, x :: xs =>
    match rec f.type a x, datF rec (g :: fs) b xs with
    | some u, some v => some (u, v)
    | _, _ => none
  | _, _, _ => none

def dat (P : Program) : Nat → TypeId → (k : EK) → DataW H → Option k.α
  | 0, _, _, _ => none
  | n + 1, t, k, d =>
    match P.underlying t with
    | some (.struct fs) => match d with | .agg parts => datF (dat P n) fs.toList k parts | _ => none
    | some (.slice e) =>
      match k, d with
      | .seq _, .nil => some []
      | .seq k', .slice es _ => allSome (es.map (dat P n e k'))
      | _, _ => none
    | _ =>
      match k, d with
      | .int _, .lit (.int _ m) => some m
      | .bool, .lit (.bool b) => some b
      | .str, .lit (.string s) => some s
      | _, _ => none

theorem bulkAll_append (l m : List (DataW H)) : Rows.uptoBulkAll (l ++ m) = Rows.uptoBulkAll l + Rows.uptoBulkAll m := by
  induction l with
  | nil => simp [Rows.uptoBulkAll]
  | cons x l ih => simp only [List.cons_append, Rows.uptoBulkAll, ih]; omega

theorem layF_ok {fuel : Nat} {rec : TypeId → EK → Bool} {drec : TypeId → (k : EK) → DataW H → Option k.α} {cs : List Value}
    (hrec : ∀ t k cs x, rec t k = true → DataW.trod enc P w base spare held fuel t cs = some x → cs.length = k.size ∧ Opens w S N k cs 0 fun y => k.bulk y ≤ Rows.uptoBulk x.1 ∧ drec t k x.1 = some y) :
    ∀ (fs : List Field) (off : Nat) (k : EK) (xs : List (DataW H × List MemPlace)), layF P rec fs off k = true → xs.length = fs.length →
      (∀ (i : Nat) (f : Field), fs[i]? = some f → DataW.trod enc P w base spare held fuel f.type ((cs.drop f.offset).take (P.cellsOf f.type)) = xs[i]?) →
      Opens w S N k cs off fun y => k.bulk y ≤ Rows.uptoBulkAll (xs.map (·.1)) ∧ datF drec fs k (xs.map (·.1)) = some y
  | [], _, _, _, h, _, _ => by simp [layF] at h
  | [f], off, k, xs, h, hl, hx => by
    simp only [layF, Bool.and_eq_true, beq_iff_eq] at h
    obtain ⟨⟨h1, h2⟩, h3⟩ := h
    match xs, hl with
    | [x], _ =>
      have h4 := hx 0 f rfl
      simp only [List.getElem?_cons_zero] at h4
      obtain ⟨h5, y, h6, h7, h8, h9⟩ := hrec _ _ _ _ h3 h4
      refine ⟨y, fun j a v ha hv => h6 j a v ha ?_, h7, by simp only [List.map_cons, List.map_nil, Rows.uptoBulkAll]; omega, h9⟩
      have hj : j < k.size := by have := (List.getElem?_eq_some_iff.1 ha).1; rwa [enc_length] at this
      rw [Nat.zero_add, List.getElem?_take, if_pos (by rw [h2]; exact hj), List.getElem?_drop, h1]; exact hv
  | f :: g :: fs, off, k, xs, h, hl, hx => by
    cases k with
    | pair a b =>
      simp only [layF, Bool.and_eq_true, beq_iff_eq] at h
      obtain ⟨⟨⟨h1, h2⟩, h3⟩, hrest⟩ := h
      match xs, hl with
      | x :: xs, hl =>
        have h4 := hx 0 f rfl
        simp only [List.getElem?_cons_zero] at h4
        obtain ⟨h5, y, h6, h7, h8, h9⟩ := hrec _ _ _ _ h3 h4
        obtain ⟨z, k6, k7, k8, k9⟩ := layF_ok hrec (g :: fs) (off + a.size) b xs hrest (by simpa using hl) (fun i f' hf => hx (i + 1) f' (by simpa using hf))
        refine ⟨(y, z), fun j c v hc hv => ?_, ⟨h7, k7⟩, by simp only [List.map_cons, Rows.uptoBulkAll]; show a.bulk y + b.bulk z ≤ _; omega, by simp only [List.map_cons, datF]; rw [h9, k9]⟩
        have hc' : (a.enc y ++ b.enc z)[j]? = some c := hc
        by_cases hj : j < a.size
        · rw [List.getElem?_append_left (by rw [enc_length]; exact hj)] at hc'
          refine h6 j c v hc' ?_
          rw [Nat.zero_add, List.getElem?_take, if_pos (by rw [h2]; exact hj), List.getElem?_drop, h1]; exact hv
        · rw [List.getElem?_append_right (by rw [enc_length]; omega), enc_length] at hc'
          refine k6 (j - a.size) c v hc' ?_
          rw [show off + a.size + (j - a.size) = off + j by omega]; exact hv
    | _ => simp [layF] at h

theorem sum_map_le {α β : Type} (f : α → Nat) (g : β → Nat) : ∀ (xs : List α) (ys : List β), xs.length = ys.length → (∀ (i : Nat) (x : α) (y : β), xs[i]? = some x → ys[i]? = some y → f x ≤ g y) → (xs.map f).sum ≤ (ys.map g).sum
  | [], [], _, _ => Nat.le_refl _
  | x :: xs, y :: ys, hl, h => by
    simp only [List.map_cons, List.sum_cons]
    have := h 0 x y rfl rfl
    have := sum_map_le f g xs ys (by simpa using hl) fun i a b ha hb => h (i + 1) a b (by simpa using ha) (by simpa using hb)
    omega

theorem bulkAll_sum : ∀ (l : List (DataW H)), Rows.uptoBulkAll l = (l.map Rows.uptoBulk).sum
  | [] => rfl
  | x :: l => by simp only [Rows.uptoBulkAll, List.map_cons, List.sum_cons, bulkAll_sum l]

theorem list_choose {α : Type} {p : Nat → α → Prop} : ∀ (n : Nat), (∀ i, i < n → ∃ x, p i x) → ∃ l : List α, l.length = n ∧ ∀ i x, l[i]? = some x → p i x
  | 0, _ => ⟨[], rfl, by simp⟩
  | n + 1, h => by
    obtain ⟨l, h1, h2⟩ := list_choose n fun i hi => h i (Nat.lt_succ_of_lt hi)
    obtain ⟨x, hx⟩ := h n (Nat.lt_succ_self n)
    refine ⟨l ++ [x], by simp [h1], fun i y hy => ?_⟩
    by_cases hi : i < n
    · rw [List.getElem?_append_left (by omega)] at hy; exact h2 i y hy
    · have : i < n + 1 := by have := (List.getElem?_eq_some_iff.1 hy).1; simp [h1] at this; omega
      have : i = n := by omega
      subst this
      rw [List.getElem?_append_right (by omega)] at hy
      simp [h1] at hy; subst hy; exact hx

theorem lay_ok (hS : ∀ b, ¬ S b) : ∀ (n : Nat) (t : TypeId) (k : EK) (fuel : Nat) (cs : List Value) (x : DataW H × List MemPlace), lay P n t k = true → DataW.trod enc P w base spare held fuel t cs = some x →
    cs.length = k.size ∧ Opens w S N k cs 0 fun y => k.bulk y ≤ Rows.uptoBulk x.1 ∧ dat P n t k x.1 = some y
  | 0, _, _, _, _, _, h, _ => by simp [lay] at h
  | n + 1, t, k, fuel, cs, x, h, hx => by
    simp only [lay] at h
    split at h
    · rename_i k' hu
      obtain rfl : k = .int k' := by simpa using h
      obtain ⟨m, rfl, rfl, hw⟩ := DataW.trod_int hu hx
      refine ⟨rfl, m, fun j a v ha hv => ?_, hw, Nat.le_refl _, by simp only [dat, hu]⟩
      cases j with
      | zero => simp [EK.enc] at ha hv; subst ha; subst hv; exact .int _ _
      | succ j => simp [EK.enc] at ha
    · rename_i hu
      obtain rfl : k = .bool := by simpa using h
      obtain ⟨m, rfl, rfl⟩ := DataW.trod_bool hu hx
      refine ⟨rfl, m, fun j a v ha hv => ?_, trivial, Nat.le_refl _, by simp only [dat, hu]⟩
      cases j with
      | zero => simp [EK.enc] at ha hv; subst ha; subst hv; exact .bool _
      | succ j => simp [EK.enc] at ha
    · rename_i hu
      obtain rfl : k = .str := by simpa using h
      obtain ⟨m, rfl, rfl, _⟩ := DataW.trod_string hu hx
      refine ⟨rfl, m.data.toList, fun j a v ha hv => ?_, trivial, Nat.le_refl _, by simp only [dat, hu]⟩
      cases j with
      | zero =>
        simp [EK.enc] at ha hv; subst ha; subst hv
        have : m = ⟨m.data.toList.toArray⟩ := by cases m; simp
        rw [this]; exact .str _
      | succ j => simp [EK.enc] at ha
    · rename_i e hu
      cases k with
      | seq k' =>
        simp only [Bool.and_eq_true, beq_iff_eq] at h
        obtain ⟨h1, h2⟩ := h
        rcases Deep.open_slice hu hx with ⟨rfl, rfl⟩ | ⟨a, len, cap, m, fu, D, Pl, rfl, hb, hl, hm, hmm, rfl, hel⟩
        · refine ⟨rfl, ([] : List k'.α), fun j b v ha hv => ?_, (fun x hx => by cases hx), Nat.le_refl _, by simp only [dat, hu]⟩
          cases j with
          | zero => simp [EK.enc] at ha hv; subst ha; subst hv; exact .seq0 _ _ _
          | succ j => simp [EK.enc] at ha
        · have hlm : len ≤ m := by rw [hmm]; split <;> omega
          obtain ⟨ys, hy1, hy2⟩ := list_choose (p := fun i (y : k'.α) => (∃ cs', w.cells? base (a.add (i * P.cellsOf e)) (P.cellsOf e) = some cs' ∧ cs'.length = k'.size ∧
              ∀ (j : Nat) (b : AV) (v : Value), (k'.enc y)[j]? = some b → cs'[0 + j]? = some v → Rel w S N b v) ∧ k'.inR y ∧ k'.bulk y ≤ Rows.uptoBulk (D i) ∧ dat P n e k' (D i) = some y) len fun i hi => by
            obtain ⟨cs', q1, q2⟩ := hel i (by omega)
            obtain ⟨q3, y, q4, q5, q6, q7⟩ := lay_ok hS n e k' fu cs' _ h1 q2
            exact ⟨y, ⟨cs', q1, q3, q4⟩, q5, q6, q7⟩
          refine ⟨rfl, ys, fun j b v ha hv => ?_, fun y hy => ?_, ?_, ?_⟩
          · cases j with
            | succ j => simp [EK.enc] at ha
            | zero =>
              simp [EK.enc] at ha hv; subst ha; subst hv
              cases ys with
              | nil => rw [← hy1]; exact .seq0 _ _ _
              | cons y0 ys' =>
                have hpos := size_pos k'
                have cell : ∀ (i : Nat) (y : k'.α), (y0 :: ys')[i]? = some y → ∀ j, j < k'.size → ∃ v, w.cell? (a.add (i * k'.size + j)) = some v ∧ ∀ c, (k'.enc y)[j]? = some c → Rel w S N c v := by
                  intro i y hy j hj
                  obtain ⟨⟨cs', q1, q3, q4⟩, _, _, _⟩ := hy2 i y hy
                  obtain ⟨_, q5, q6⟩ := World.cells?_some q1
                  have hjl : j < cs'.length := by omega
                  have := q6 j (by omega)
                  rw [List.getElem?_eq_getElem hjl] at this
                  refine ⟨cs'[j], ?_, fun c hc => q4 j c _ hc (by rw [Nat.zero_add]; exact List.getElem?_eq_getElem hjl)⟩
                  have e1 : (a.add (i * P.cellsOf e)).add j = a.add (i * k'.size + j) := by
                    rw [h2]
                    unfold Addr.add
                    split <;> split <;> split <;> simp_all <;> omega
                  rw [← e1]; simpa using this
                have hsp : a.spot = none := by
                  obtain ⟨v, hv, _⟩ := cell 0 y0 rfl 0 hpos
                  have : a.add (0 * k'.size + 0) = a := by simp [Addr.add]
                  rw [this] at hv
                  unfold World.cell? at hv
                  split at hv
                  · split at hv
                    · cases hv
                    · rename_i hs; cases hq : a.spot <;> simp_all
                  · cases hv
                obtain ⟨ab, ao, as_⟩ := a
                simp only at hsp; subst hsp
                have plain : ∀ i, (⟨ab, ao, none⟩ : Addr).add i = ⟨ab, ao + i, none⟩ := fun i => by unfold Addr.add; split <;> simp_all
                simp only [plain] at cell
                have hlt : ab < w.heap.size := by
                  obtain ⟨v, hv, _⟩ := cell 0 y0 rfl 0 hpos
                  exact lt_of_cell hv
                rw [← hy1]
                refine .seq k' (y0 :: ys') ab ao cap (fun i j => (w.cell? ⟨ab, ao + (i * k'.size + j), none⟩).getD undef) (by rw [hy1]; exact hl) (hS ab) hlt (fun i j hi hj => ?_) (fun i x j c hx hc => ?_)
                · obtain ⟨v, hv, _⟩ := cell i _ (List.getElem?_eq_getElem hi) j hj
                  rw [hv]; rfl
                · have hj : j < k'.size := by have := (List.getElem?_eq_some_iff.1 hc).1; rwa [enc_length] at this
                  obtain ⟨v, hv, hr⟩ := cell i x hx j hj
                  rw [hv]; exact hr c hc
          · obtain ⟨i, hi⟩ := List.getElem?_of_mem hy
            exact (hy2 i y hi).2.1
          · show (ys.map k'.bulk).sum + 1 ≤ _
            simp only [Rows.uptoBulk]
            rw [bulkAll_sum, List.map_map]
            have := sum_map_le k'.bulk (Rows.uptoBulk ∘ D) ys (List.range len) (by simp [hy1]) fun i y j hy hj => by
              have hj' : j = i := by
                obtain ⟨h1, h2⟩ := List.getElem?_eq_some_iff.1 hj
                simpa using h2.symm
              subst hj'; exact (hy2 j y hy).2.2.1
            omega
          · simp only [dat, hu]
            refine allSome_of _ ys (by simp [hy1]) fun i y hy => ?_
            have hi : i < len := by have := (List.getElem?_eq_some_iff.1 hy).1; omega
            rw [List.map_map, List.getElem?_map, List.getElem?_range hi]
            simp only [Option.map_some, Function.comp_apply]
            rw [(hy2 i y hy).2.2.2]
      | _ => simp at h
    · rename_i fs hu
      simp only [Bool.and_eq_true, beq_iff_eq] at h
      obtain ⟨h1, h2⟩ := h
      obtain ⟨xs, m, rfl, rfl, hl, hxl, hel⟩ := DataW.trod_struct hu hx
      refine ⟨hl.trans h1, ?_⟩
      have := layF_ok (cs := cs) (S := S) (N := N) (drec := dat P n) (fun t k cs x hk ht => lay_ok hS n t k m cs x hk ht) fs.toList 0 k xs h2 (by simpa using hxl) (fun i f hf => hel i f (by simpa using hf))
      obtain ⟨y, q1, q2, q3, q4⟩ := this
      exact ⟨y, q1, q2, by simp only [Rows.uptoBulk]; omega, by simp only [dat, hu]; exact q4⟩
    · cases h
end
end Go.Abs
