/- The abstract machine: its operations on values are the model's: arithmetic, tests, fields, elements. Conditions: none. -/
import Derived.Test.YtpiphiieflnabaaDoorAbs3
import Derived.Laws.StructEq
import Derived.Laws.Concat
import Derived.Laws.Strings2
import Derived.Laws.Slices
import Derived.Lib.Strings
import Derived.ShutString
namespace Go.Abs

theorem need_get {α : Type} {b : Bool} {t : Tr α} {v : α} (h : (Tr.need b t).get = some v) : b = true ∧ t.get = some v := by
  cases b
  · simp [Tr.need, Tr.get, Tr.go] at h
  · exact ⟨rfl, h⟩

theorem ret_get {α : Type} {a v : α} (h : (Tr.ret a).get = some v) : a = v := by simpa [Tr.get, Tr.go] using h
theorem no_get {α : Type} {v : α} (h : (Tr.no : Tr α).get = some v) : False := by simp [Tr.get, Tr.go] at h
theorem at_get {α β : Type} {xs : List β} {i : Nat} {k : β → Tr α} {v : α} (h : (Tr.at xs i k).get = some v) : ∃ x, xs[i]? = some x ∧ (k x).get = some v := by
  simp only [Tr.get, Tr.go, atL] at h
  split at h
  · rename_i x hx; exact ⟨x, hx, h⟩
  · cases h
theorem map_get {α β : Type} {f : α → β} {t : Tr α} {v : β} (h : (t.map f).get = some v) : ∃ x, t.get = some x ∧ f x = v := by
  rw [Tr.get_map] at h; exact Option.map_eq_some_iff.1 h
theorem bind_get {α β : Type} {f : α → Tr β} {t : Tr α} {v : β} (h : (t.bind f).get = some v) : ∃ x, t.get = some x ∧ (f x).get = some v := by
  rw [Tr.get_bind] at h; exact Option.bind_eq_some_iff.1 h

section
variable {P : Program} {w : World} {S : Nat → Prop} {N : Names}

/-- A frame's slots. -/
def EnvRel (w : World) (S : Nat → Prop) (N : Names) (env : List AV) (tmps : Array Value) : Prop :=
  env.length = tmps.size ∧ ∀ (t : Nat) (x : AV) (v : Value), env[t]? = some x → tmps[t]? = some v → Rel w S N x v

theorem EnvRel.grow {w' : World} {S' : Nat → Prop} {N' : Names} (g : Grow w S N w' S' N') {env : List AV} {tmps : Array Value} (h : EnvRel w S N env tmps) : EnvRel w' S' N' env tmps :=
  ⟨h.1, fun t x v h1 h2 => (h.2 t x v h1 h2).grow g⟩

theorem rel_ofCell (v : Value) : Rel w S N (ofCell v) v := by
  cases v <;> first | exact .bool _ | exact .int _ _ | exact .lit _ | skip
  rename_i s
  show Rel w S N (.str s.data.toList) (.string s)
  have : s = ⟨s.data.toList.toArray⟩ := by cases s; simp
  rw [this]; exact .str _

theorem rel_ofCells (c : Array Value) (j : Nat) (a : AV) (u : Value) (h1 : (c.toList.map ofCell)[j]? = some a) (h2 : c[j]? = some u) : Rel w S N a u := by
  rw [List.getElem?_map, Array.getElem?_toList, h2] at h1
  cases h1; exact rel_ofCell u

theorem ofValue_cell (v : Value) : ofValue v = ofCell v ∨ ∃ cs, v = .agg cs := by
  cases v <;> first | exact .inl rfl | exact .inr ⟨_, rfl⟩

theorem rel_ofValue (v : Value) : Rel w S N (ofValue v) v := by
  rcases ofValue_cell v with h | ⟨cs, rfl⟩
  · rw [h]; exact rel_ofCell v
  · exact .agg _ _ (by simp) (rel_ofCells cs)

theorem evO_ok {G : Nat → Option (List AV)} {env : List AV} {a : Act} (he : EnvRel w S N env a.tmps) (hG : ∀ g cs, G g = some cs → Rel w S N (.pim cs) (.pointer (some ⟨g, 0, none⟩)))
    (x : Operand) : Rel w S N (evO G env x) (a.eval x) := by
  cases x with
  | tmp t =>
    show Rel w S N (env.getD t .top) (a.tmps.getD t undef)
    by_cases ht : t < env.length
    · have ht' : t < a.tmps.size := by rw [← he.1]; exact ht
      rw [List.getD_eq_getElem?_getD, List.getElem?_eq_getElem ht, Option.getD_some, ← Array.getElem_eq_getD (h := ht')]
      exact he.2 t _ _ (List.getElem?_eq_getElem ht) (Array.getElem?_eq_getElem ht')
    · rw [List.getD_eq_getElem?_getD, List.getElem?_eq_none (Nat.le_of_not_lt ht)]; exact .top _
  | const v => exact rel_ofValue v
  | global g =>
    show Rel w S N (match G g with | some cs => .pim cs | none => .top) (.pointer (some ⟨g, 0, none⟩))
    cases h : G g with
    | none => exact .top _
    | some cs => exact hG g cs h
  | func f => exact .fn f [] #[] rfl (by simp)

theorem run_sizeT {t : TypeId} {z : Nat} (h : sizeT P t = some z) (w : World) : (sizeOf t).run P w = .ok z w := by
  unfold sizeT at h
  obtain ⟨i, h1, h2⟩ := Option.map_eq_some_iff.1 h
  simp [sizeOf, typeInfo, h1, h2]

theorem run_isAggT {t : TypeId} {b : Bool} (h : isAggT P t = some b) (w : World) : (isAgg t).run P w = .ok b w := by
  unfold isAggT at h
  unfold isAgg
  cases hu : P.underlying t with
  | none => rw [hu] at h; cases h
  | some d =>
    rw [hu] at h
    simp only [Sem.run_bind, run_underlying hu, Result.andThen_ok]
    cases d <;> simp at h <;> subst h <;> rfl

/-- A value of a type whose cells these are. -/
def RelC (P : Program) (w : World) (S : Nat → Prop) (N : Names) (t : TypeId) (cs : List AV) (v : Value) : Prop :=
  (isAggT P t = some true ∧ ∃ vs : Array Value, v = .agg vs ∧ vs.size = cs.length ∧ ∀ (j : Nat) (a : AV) (u : Value), cs[j]? = some a → vs[j]? = some u → Rel w S N a u) ∨
  (isAggT P t = some false ∧ ∃ a, cs = [a] ∧ Rel w S N a v)

theorem rel_extract {cs : List AV} {vs : Array Value} (hr : ∀ (j : Nat) (a : AV) (u : Value), cs[j]? = some a → vs[j]? = some u → Rel w S N a u) (o z : Nat) :
    ∀ (j : Nat) (a : AV) (u : Value), ((cs.drop o).take z)[j]? = some a → (vs.extract o (o + z))[j]? = some u → Rel w S N a u := by
  intro j a u h1 h2
  have hj : j < z := by
    rcases Nat.lt_or_ge j z with h | h
    · exact h
    · rw [List.getElem?_take, if_neg (by omega)] at h1; cases h1
  rw [List.getElem?_take, if_pos hj, List.getElem?_drop] at h1
  refine hr (o + j) a u h1 ?_
  rw [Array.getElem?_extract] at h2
  split at h2
  · exact h2
  · cases h2

/-- A part of a struct's cells. -/
theorem run_part {t : TypeId} {z o : Nat} {b : Bool} {cs : List AV} {vs : Array Value} (hb : isAggT P t = some b) (hz : sizeT P t = some z) (hl : o + z ≤ cs.length) (hs : vs.size = cs.length)
    (h1 : b = false → z = 1) (hr : ∀ (j : Nat) (a : AV) (u : Value), cs[j]? = some a → vs[j]? = some u → Rel w S N a u) (w1 : World) :
    ∃ v, (part t vs o).run P w1 = .ok v w1 ∧ RelC P w S N t ((cs.drop o).take z) v := by
  unfold part
  simp only [Sem.run_bind, run_isAggT hb, Result.andThen_ok]
  cases b with
  | true =>
    refine ⟨.agg (vs.extract o (o + z)), by simp [run_sizeT hz], .inl ⟨hb, _, rfl, ?_, rel_extract hr o z⟩⟩
    simp; omega
  | false =>
    obtain rfl := h1 rfl
    have ho : o < vs.size := by omega
    have ho' : o < cs.length := by omega
    refine ⟨vs[o], by simp [ho], .inr ⟨hb, cs[o], ?_, hr o _ _ (List.getElem?_eq_getElem ho') (Array.getElem?_eq_getElem ho)⟩⟩
    rw [List.drop_eq_getElem_cons ho']; rfl

theorem partV_ok {t : TypeId} {cs : List AV} {o : Nat} {vs : Array Value} {v : AV} (hs : vs.size = cs.length)
    (hr : ∀ (j : Nat) (a : AV) (u : Value), cs[j]? = some a → vs[j]? = some u → Rel w S N a u) (hg : (partV P t cs o).get = some v) (w1 : World) :
    ∃ v', (part t vs o).run P w1 = .ok v' w1 ∧ Rel w S N v v' := by
  unfold partV at hg
  split at hg
  · rename_i z hb hz
    split at hg
    · rename_i hl
      obtain rfl := ret_get hg
      obtain ⟨v', h1, h2⟩ := run_part (b := true) hb hz (by simpa using hl) hs (by simp) hr w1
      refine ⟨v', h1, ?_⟩
      rcases h2 with ⟨_, us, rfl, h3, h4⟩ | ⟨h3, _⟩
      · exact .agg _ _ h3.symm h4
      · rw [hb] at h3; cases h3
    · exact (no_get hg).elim
  · rename_i z hb hz
    split at hg
    · rename_i a ha
      obtain rfl := ret_get hg
      have ho' : o < cs.length := (List.getElem?_eq_some_iff.1 ha).1
      have ho : o < vs.size := by omega
      refine ⟨vs[o], ?_, hr o _ _ ha (Array.getElem?_eq_getElem ho)⟩
      unfold part
      simp [run_isAggT hb, ho]
    · exact (no_get hg).elim
  · exact (no_get hg).elim

/-! ### Arithmetic -/
variable {w1 : World}
theorem binI_ok {op : BinOp} {t : TypeId} {k : IntKind} {a b : Int} {v : AV} (hg : (binI op k a b).get = some v) :
    ∃ v', (binOp op t (.int k a) (.int k b)).run P w1 = .ok v' w1 ∧ Rel w S N v v' := by
  cases op <;> simp only [binI, bitsV] at hg <;> first
    | exact (no_get hg).elim
    | (obtain rfl := ret_get hg; refine ⟨_, ?_, .int _ _⟩; simp [binOp, Op.intArith, Op.intBits]; done)
    | (obtain rfl := ret_get hg; refine ⟨_, ?_, .bool _⟩; simp [binOp, Op.intCmp]; done)
    | (obtain rfl := ret_get hg; refine ⟨_, ?_, .bool _⟩; simp only [binOp, Op.intCmp, ne_eq, not_true_eq_false, if_false]; rfl)
    | skip
  all_goals
    obtain ⟨h1, h2⟩ := need_get hg
    obtain rfl := ret_get h2
    have h3 : ¬ b = 0 := by simpa using h1
    refine ⟨_, ?_, .int _ _⟩
    simp [binOp, Op.intDiv, h3]

theorem shiftV_ok {op : BinOp} {t : TypeId} {k k' : IntKind} {a b : Int} {v : AV} (ho : op = .shl ∨ op = .shr) (hg : (shiftV op k a b).get = some v) :
    ∃ v', (binOp op t (.int k a) (.int k' b)).run P w1 = .ok v' w1 ∧ Rel w S N v v' := by
  rcases ho with rfl | rfl <;> simp only [shiftV] at hg
  all_goals
    obtain ⟨h1, h2⟩ := need_get hg
    obtain rfl := ret_get h2
    have h3 : ¬ b < 0 := by simpa using h1
    refine ⟨_, ?_, .int _ _⟩
    simp [binOp, Op.shift, h3]

theorem size_mk (l : List UInt8) : (⟨l.toArray⟩ : ByteArray).size = l.length := by simp [ByteArray.size]
theorem beq_dec {α : Type} [DecidableEq α] (a b : List α) : (a == b) = decide (a = b) := by rw [Bool.eq_iff_iff]; simp

theorem binS_ok {op : BinOp} {t : TypeId} {a b : List UInt8} {v : AV} (hg : (binS op a b).get = some v) :
    ∃ v', (binOp op t (.string ⟨a.toArray⟩) (.string ⟨b.toArray⟩)).run P w1 = .ok v' w1 ∧ Rel w S N v v' := by
  have hb : binOp op t (.string ⟨a.toArray⟩) (.string ⟨b.toArray⟩) = Op.stringOp op ⟨a.toArray⟩ ⟨b.toArray⟩ := by cases op <;> simp [binOp]
  rw [hb]
  cases op <;> simp only [binS] at hg <;> first
    | exact (no_get hg).elim
    | (obtain rfl := ret_get hg; refine ⟨_, ?_, .bool _⟩; simp [Op.stringOp, beq_dec]; done)
    | skip
  obtain ⟨h1, h2⟩ := need_get hg
  obtain rfl := ret_get h2
  have h3 : a.length + b.length ≤ LIM := by simpa using h1
  have h4 : ¬ ((((⟨a.toArray⟩ : ByteArray).size + (⟨b.toArray⟩ : ByteArray).size : Nat) : Int) > IntKind.i64.max) := by
    rw [size_mk, size_mk, IntKind.max_i64]; unfold LIM at h3; omega
  refine ⟨.string ⟨(a ++ b).toArray⟩, ?_, .str _⟩
  rw [← ByteArray.mk_append_mk]
  simp only [Op.stringOp]
  rw [if_neg h4]; rfl

theorem RelC.agg {t : TypeId} {cs : List AV} {v : Value} (h : RelC P w S N t cs v) (ha : isAggT P t = some true) :
    ∃ vs : Array Value, v = .agg vs ∧ vs.size = cs.length ∧ ∀ (j : Nat) (a : AV) (u : Value), cs[j]? = some a → vs[j]? = some u → Rel w S N a u := by
  rcases h with ⟨_, h⟩ | ⟨h, _⟩
  · exact h
  · rw [ha] at h; cases h

theorem RelC.one {t : TypeId} {cs : List AV} {v : Value} (h : RelC P w S N t cs v) (ha : isAggT P t = some false) : ∃ a, cs = [a] ∧ Rel w S N a v := by
  rcases h with ⟨h, _⟩ | ⟨_, h⟩
  · rw [ha] at h; cases h
  · exact h

/-! ### Equality -/
theorem eqT_ok : ∀ (n : Nat) (t : TypeId) (xs ys : List AV) (b : Bool) (vx vy : Value), eqT P n t xs ys = some b → RelC P w S N t xs vx → RelC P w S N t ys vy →
    ∀ d, n ≤ d → ∀ w1, (Op.equalIn d t vx vy).run P w1 = .ok b w1 := by
  intro n
  induction n with
  | zero => intro t xs ys b vx vy h; simp [eqT] at h
  | succ n ih =>
    intro t xs ys b vx vy h hx hy d hd w1
    obtain ⟨d, rfl⟩ : ∃ e, d = e + 1 := ⟨d - 1, by omega⟩
    unfold eqT at h
    split at h
    · rename_i hu
      have ha : isAggT P t = some false := by simp [isAggT, hu]
      obtain ⟨a, rfl, hra⟩ := hx.one ha
      obtain ⟨c, rfl, hrc⟩ := hy.one ha
      split at h
      · rename_i e1 e2
        cases e1; cases e2; cases hra; cases hrc; cases h
        exact run_equalIn_bool' w1 d t _ _ hu
      · cases h
    · rename_i k0 hu
      have ha : isAggT P t = some false := by simp [isAggT, hu]
      obtain ⟨a, rfl, hra⟩ := hx.one ha
      obtain ⟨c, rfl, hrc⟩ := hy.one ha
      split at h
      · rename_i e1 e2
        cases e1; cases e2; cases hra; cases hrc
        split at h
        · rename_i hk; subst hk; cases h
          rw [run_equalIn_int w1 d t _ _ _ _ hu]; rfl
        · cases h
      · cases h
    · rename_i hu
      have ha : isAggT P t = some false := by simp [isAggT, hu]
      obtain ⟨a, rfl, hra⟩ := hx.one ha
      obtain ⟨c, rfl, hrc⟩ := hy.one ha
      split at h
      · rename_i e1 e2
        cases e1; cases e2; cases hra; cases hrc; cases h
        rw [run_equalIn_string w1 d t _ _ hu, ByteArray.toList_mk, ByteArray.toList_mk, beq_dec]
      · cases h
    · rename_i fs hu
      have ha : isAggT P t = some true := by simp [isAggT, hu]
      obtain ⟨us, rfl, hus, hru⟩ := hx.agg ha
      obtain ⟨vs, rfl, hvs, hrv⟩ := hy.agg ha
      split at h
      · cases h
      rename_i hp
      have hf : P.fieldsOf t = fs := by simp [Program.fieldsOf, hu]
      rw [run_equalIn_struct (P := P) w1 d t us vs (by rw [hf]; exact hu) (by simpa using hp), hf]
      generalize fs.toList = l at h
      clear hu hf
      induction l generalizing b with
      | nil => simp only [List.foldr_nil] at h; cases h; simp [Op.eqFields]
      | cons f l ihl =>
        simp only [List.foldr_cons] at h
        split at h
        · rename_i r ag z hr hag hz
          split at h
          · cases h
          · rename_i hc
            simp only [Bool.or_eq_true, Bool.not_eq_true', not_or, decide_eq_true_eq] at hc
            obtain ⟨⟨⟨hn, hz1⟩, hl1⟩, hl2⟩ := hc
            have h11 : ag = false → z = 1 := by rintro rfl; simpa using hz1
            obtain ⟨e, he, rfl⟩ := Option.map_eq_some_iff.1 h
            obtain ⟨p1, hp1, hq1⟩ := run_part (o := f.offset) hag hz (by omega) hus h11 hru w1
            obtain ⟨p2, hp2, hq2⟩ := run_part (o := f.offset) hag hz (by omega) hvs h11 hrv w1
            have heq := ih f.type _ _ _ _ _ he hq1 hq2 d (by omega) w1
            simp only [Op.eqFields, if_pos hn, Sem.run_bind, hp1, hp2, heq, Result.andThen_ok]
            cases e
            · simp
            · simpa using ihl r hr
        · cases h
    · cases h

theorem rel_bool {b : Bool} {v : Value} (h : Rel w S N (.bool b) v) : v = .bool b := by cases h; rfl
theorem rel_int {k : IntKind} {n : Int} {v : Value} (h : Rel w S N (.int k n) v) : v = .int k n := by cases h; rfl
theorem rel_str {s : List UInt8} {v : Value} (h : Rel w S N (.str s) v) : v = .string ⟨s.toArray⟩ := by cases h; rfl
theorem rel_lit {u v : Value} (h : Rel w S N (.lit u) v) : v = u := by cases h; rfl


theorem isNilT_cases {t : TypeId} {y : AV} (h : isNilT P t y = true) :
    (∃ e, P.underlying t = some (.pointer e) ∧ y = .lit (.pointer none)) ∨ (∃ p r u, P.underlying t = some (.func p r u) ∧ y = .lit .nilFunc) ∨ (∃ m, P.underlying t = some (.interface m) ∧ y = .lit .nilIface) ∨ (∃ e, P.underlying t = some (.slice e) ∧ y = .lit (.slice none 0 0)) := by
  unfold isNilT at h
  split at h
  · rename_i hu; exact .inl ⟨_, hu, rfl⟩
  · rename_i hu; exact .inr (.inl ⟨_, _, _, hu, rfl⟩)
  · rename_i hu; exact .inr (.inr (.inl ⟨_, hu, rfl⟩))
  · rename_i hu; exact .inr (.inr (.inr ⟨_, hu, rfl⟩))
  · cases h

theorem guard_at {op : BinOp} {t : TypeId} {ox oy : Operand} {u v : Value} (h1 : u ≠ .nilIface) (h2 : ∀ cs, u ≠ .agg cs) : eqGuard op t ox oy u v = pure () := by
  cases u <;> first | exact (h1 rfl).elim | exact (h2 _ rfl).elim | (cases op <;> rfl)

theorem guard_const {op : BinOp} {t : TypeId} {o1 o2 : Operand} (h : isC o1 = true ∨ isC o2 = true) : eqGuard op t o1 o2 .nilIface .nilIface = pure () := by
  rcases h with h1 | h1
  · cases o1 <;> simp [isC] at h1
    exact eqGuard_nil_constL _ _ _ _
  · cases o2 <;> simp [isC] at h1
    exact eqGuard_nil_constR _ _ _ _

theorem eq_run {op : BinOp} {t : TypeId} {o1 o2 : Operand} {u v : Value} {b : Bool} {w1 : World} (ho : op = .eql ∨ op = .neq) (hg : eqGuard op t o1 o2 u v = pure ())
    (h1 : binOp .eql t u v = (do pure (.bool (← Op.equal t u v)))) (h2 : binOp .neq t u v = (do pure (.bool (!(← Op.equal t u v)))))
    (he : (Op.equal t u v).run P w1 = .ok b w1) : (do eqGuard op t o1 o2 u v; binOp op t u v : Sem Value).run P w1 = .ok (.bool (if op = .eql then b else !b)) w1 := by
  rw [hg]
  rcases ho with rfl | rfl
  · rw [h1]; simp only [Sem.run_bind, Sem.run_pure, Result.andThen_ok, he]; rfl
  · rw [h2]; simp only [Sem.run_bind, Sem.run_pure, Result.andThen_ok, he]; rfl

theorem equal_unfold (t : TypeId) (u v : Value) : ∃ d, Op.equal t u v = Op.equalIn (d + 1) t u v := ⟨9999, rfl⟩

/-- Something held against a nil. -/
theorem nil_ok {op : BinOp} {ox oy : Operand} {t : TypeId} {x y : AV} {b : Bool} {vx vy : Value} (ho : op = .eql ∨ op = .neq) (hc : isNilT P t y = true) (h : isNil P (isC ox || isC oy) t x = some b)
    (hx : Rel w S N x vx) (hy : Rel w S N y vy) (w1 : World) :
    (do eqGuard op t ox oy vx vy; binOp op t vx vy : Sem Value).run P w1 = .ok (.bool (if op = .eql then b else !b)) w1 ∧
    (do eqGuard op t oy ox vy vx; binOp op t vy vx : Sem Value).run P w1 = .ok (.bool (if op = .eql then b else !b)) w1 := by
  rcases isNilT_cases hc with ⟨e, hu, rfl⟩ | ⟨p, r, u, hu, rfl⟩ | ⟨m, hu, rfl⟩ | ⟨e, hu, rfl⟩ <;> obtain rfl := rel_lit hy <;> unfold isNil at h <;> rw [hu] at h
  · have hv : ∃ a, vx = .pointer a ∧ b = a.isNone := by
      cases x <;> first | (simp at h; done) | skip
      · rename_i v
        obtain rfl := rel_lit hx
        cases vx <;> first | (simp at h; done) | skip
        rename_i a; cases a <;> simp at h
        subst h; exact ⟨_, rfl, rfl⟩
      · simp at h; subst h; cases hx; exact ⟨_, rfl, rfl⟩
    obtain ⟨a, rfl, rfl⟩ := hv
    constructor
    · refine eq_run ho (guard_at (by simp) (by simp)) (by cases a <;> rfl) (by cases a <;> rfl) ?_
      obtain ⟨d, hd⟩ := equal_unfold t (.pointer a) (.pointer none)
      rw [hd]; cases a <;> simp [Op.equalIn, run_underlying hu]
    · refine eq_run ho (guard_at (by simp) (by simp)) (by cases a <;> rfl) (by cases a <;> rfl) ?_
      obtain ⟨d, hd⟩ := equal_unfold t (.pointer none) (.pointer a)
      rw [hd]; cases a <;> simp [Op.equalIn, run_underlying hu]
  · have hv : (vx = .nilFunc ∧ b = true) ∨ ∃ f a c, vx = .func f a c ∧ b = false := by
      cases x <;> first | (simp at h; done) | skip
      · rename_i v
        obtain rfl := rel_lit hx
        cases vx <;> first | (simp at h; done) | skip
        simp at h; subst h; exact .inl ⟨rfl, rfl⟩
      · simp at h; subst h; cases hx; exact .inr ⟨_, _, _, rfl, rfl⟩
    rcases hv with ⟨rfl, rfl⟩ | ⟨f, a, c, rfl, rfl⟩
    · constructor
      · refine eq_run ho (guard_at (by simp) (by simp)) rfl rfl ?_
        obtain ⟨d, hd⟩ := equal_unfold t .nilFunc .nilFunc
        rw [hd]; simp [Op.equalIn, run_underlying hu]
      · refine eq_run ho (guard_at (by simp) (by simp)) rfl rfl ?_
        obtain ⟨d, hd⟩ := equal_unfold t .nilFunc .nilFunc
        rw [hd]; simp [Op.equalIn, run_underlying hu]
    · constructor
      · refine eq_run ho (guard_at (by simp) (by simp)) rfl rfl ?_
        obtain ⟨d, hd⟩ := equal_unfold t (.func f a c) .nilFunc
        rw [hd]; simp [Op.equalIn, run_underlying hu]
      · refine eq_run ho (guard_at (by simp) (by simp)) rfl rfl ?_
        obtain ⟨d, hd⟩ := equal_unfold t .nilFunc (.func f a c)
        rw [hd]; simp [Op.equalIn, run_underlying hu]
  · have hv : (vx = .nilIface ∧ b = true ∧ (isC ox = true ∨ isC oy = true)) ∨ ∃ f a, vx = .iface f a ∧ b = false := by
      cases x <;> first | (simp at h; done) | skip
      · rename_i v
        obtain rfl := rel_lit hx
        cases vx <;> first | (simp at h; done) | skip
        simp at h; exact .inl ⟨rfl, h.2, h.1⟩
      · simp at h; subst h; cases hx; exact .inr ⟨_, _, rfl, rfl⟩
    rcases hv with ⟨rfl, rfl, hcc⟩ | ⟨f, a, rfl, rfl⟩
    · constructor
      · refine eq_run ho (guard_const hcc) rfl rfl ?_
        obtain ⟨d, hd⟩ := equal_unfold t .nilIface .nilIface
        rw [hd]; simp [Op.equalIn, run_underlying hu]
      · refine eq_run ho (guard_const hcc.symm) rfl rfl ?_
        obtain ⟨d, hd⟩ := equal_unfold t .nilIface .nilIface
        rw [hd]; simp [Op.equalIn, run_underlying hu]
    · constructor
      · refine eq_run ho (guard_at (by simp) (by simp)) rfl rfl ?_
        obtain ⟨d, hd⟩ := equal_unfold t (.iface f a) .nilIface
        rw [hd]; simp [Op.equalIn, run_underlying hu]
      · refine eq_run ho (eqGuard_nil_iface _ _ _ _ _ _) rfl rfl ?_
        obtain ⟨d, hd⟩ := equal_unfold t .nilIface (.iface f a)
        rw [hd]; simp [Op.equalIn, run_underlying hu]
  · have hv : ∃ A n c, vx = .slice A n c ∧ b = A.isNone := by
      cases x <;> first | (simp at h; done) | skip
      · rename_i v
        obtain rfl := rel_lit hx
        cases vx <;> first | (simp at h; done) | skip
        rename_i A n c
        cases A <;> simp at h <;> subst h <;> exact ⟨_, _, _, rfl, rfl⟩
      · rename_i k xs
        cases xs with
        | nil => simp at h
        | cons x xs => simp at h; subst h; cases hx; exact ⟨_, _, _, rfl, rfl⟩
    obtain ⟨A, n, c, rfl, rfl⟩ := hv
    constructor
    · refine eq_run ho (guard_at (by simp) (by simp)) (by cases A <;> rfl) (by cases A <;> rfl) ?_
      obtain ⟨d, hd⟩ := equal_unfold t (.slice A n c) (.slice none 0 0)
      rw [hd]; cases A <;> simp [Op.equalIn, run_underlying hu]
    · refine eq_run ho (guard_at (by simp) (by simp)) (by cases A <;> rfl) (by cases A <;> rfl) ?_
      obtain ⟨d, hd⟩ := equal_unfold t (.slice none 0 0) (.slice A n c)
      rw [hd]; cases A <;> simp [Op.equalIn, run_underlying hu]

theorem guarded {op : BinOp} {t : TypeId} {ox oy : Operand} {u v r : Value} {w1 : World} (h1 : u ≠ .nilIface) (h2 : ∀ cs, u ≠ .agg cs) (h : (binOp op t u v).run P w1 = .ok r w1) :
    (do eqGuard op t ox oy u v; binOp op t u v : Sem Value).run P w1 = .ok r w1 := by
  rw [guard_at h1 h2]; simpa using h

theorem binV_ok {op : BinOp} {ox oy : Operand} {t : TypeId} {x y v : AV} {vx vy : Value} (hx : Rel w S N x vx) (hy : Rel w S N y vy) (hg : (binV P (isC ox || isC oy) op t x y).get = some v) (w1 : World) :
    ∃ v', (do eqGuard op t ox oy vx vy; binOp op t vx vy : Sem Value).run P w1 = .ok v' w1 ∧ Rel w S N v v' := by
  unfold binV at hg
  split at hg
  · obtain rfl := rel_int hx; obtain rfl := rel_int hy
    obtain ⟨v', h1, h2⟩ := shiftV_ok (P := P) (w := w) (w1 := w1) (S := S) (N := N) (t := t) (.inl rfl) hg
    exact ⟨v', guarded (by simp) (by simp) h1, h2⟩
  · obtain rfl := rel_int hx; obtain rfl := rel_int hy
    obtain ⟨v', h1, h2⟩ := shiftV_ok (P := P) (w := w) (w1 := w1) (S := S) (N := N) (t := t) (.inr rfl) hg
    exact ⟨v', guarded (by simp) (by simp) h1, h2⟩
  · obtain rfl := rel_int hx; obtain rfl := rel_int hy
    split at hg
    · rename_i hk; subst hk
      obtain ⟨v', h1, h2⟩ := binI_ok (P := P) (w := w) (w1 := w1) (S := S) (N := N) (t := t) hg
      exact ⟨v', guarded (by simp) (by simp) h1, h2⟩
    · exact (no_get hg).elim
  · obtain rfl := rel_str hx; obtain rfl := rel_str hy
    obtain ⟨v', h1, h2⟩ := binS_ok (P := P) (w := w) (w1 := w1) (S := S) (N := N) (t := t) hg
    exact ⟨v', guarded (by simp) (by simp) h1, h2⟩
  · rename_i xs ys
    split at hg
    · exact (no_get hg).elim
    rename_i hq
    split at hg
    · rename_i b ha hb
      obtain rfl := ret_get hg
      cases hx with | agg _ us hl hr => ?_
      cases hy with | agg _ vs hl' hr' => ?_
      have := eqT_ok 6 t xs ys b (.agg us) (.agg vs) hb (.inl ⟨ha, us, rfl, hl.symm, hr⟩) (.inl ⟨ha, vs, rfl, hl'.symm, hr'⟩) 10000 (by omega) w1
      refine ⟨.bool b, ?_, .bool _⟩
      simp only [Sem.run_bind, run_eqGuard_agg w1 .eql t ox oy us vs (by simpa using hq), Result.andThen_ok, run_eql_struct, this]
    · exact (no_get hg).elim
  · rename_i xs ys
    split at hg
    · exact (no_get hg).elim
    rename_i hq
    split at hg
    · rename_i b ha hb
      obtain rfl := ret_get hg
      cases hx with | agg _ us hl hr => ?_
      cases hy with | agg _ vs hl' hr' => ?_
      have := eqT_ok 6 t xs ys b (.agg us) (.agg vs) hb (.inl ⟨ha, us, rfl, hl.symm, hr⟩) (.inl ⟨ha, vs, rfl, hl'.symm, hr'⟩) 10000 (by omega) w1
      refine ⟨.bool (!b), ?_, .bool _⟩
      simp only [Sem.run_bind, run_eqGuard_agg w1 .neq t ox oy us vs (by simpa using hq), Result.andThen_ok, run_neq_struct, this]
    · exact (no_get hg).elim
  · obtain rfl := rel_bool hx; obtain rfl := rel_bool hy
    split at hg
    · rename_i hu
      obtain rfl := ret_get hg
      obtain ⟨d, hd⟩ := equal_unfold t (.bool _) (.bool _)
      exact ⟨_, eq_run (.inl rfl) (guard_at (by simp) (by simp)) rfl rfl (by rw [hd]; exact run_equalIn_bool' w1 d t _ _ hu), .bool _⟩
    · exact (no_get hg).elim
  · obtain rfl := rel_bool hx; obtain rfl := rel_bool hy
    split at hg
    · rename_i hu
      obtain rfl := ret_get hg
      obtain ⟨d, hd⟩ := equal_unfold t (.bool _) (.bool _)
      exact ⟨_, eq_run (.inr rfl) (guard_at (by simp) (by simp)) rfl rfl (by rw [hd]; exact run_equalIn_bool' w1 d t _ _ hu), .bool _⟩
    · exact (no_get hg).elim
  · have key : ∀ b, (if isNilT P t y then isNil P (isC ox || isC oy) t x else if isNilT P t x then isNil P (isC ox || isC oy) t y else none) = some b → (op = .eql ∨ op = .neq) →
        (do eqGuard op t ox oy vx vy; binOp op t vx vy : Sem Value).run P w1 = .ok (.bool (if op = .eql then b else !b)) w1 := by
      intro b hb ho
      split at hb
      · rename_i hc; exact (nil_ok ho hc hb hx hy w1).1
      · split at hb
        · rename_i hc
          exact (nil_ok ho hc (by rw [Bool.or_comm]; exact hb) hy hx w1).2
        · cases hb
    split at hg
    · obtain rfl := ret_get hg
      exact ⟨_, key _ (by assumption) (.inl rfl), .bool _⟩
    · obtain rfl := ret_get hg
      exact ⟨_, key _ (by assumption) (.inr rfl), .bool _⟩
    · exact (no_get hg).elim

theorem unV_ok {op : UnOp} {x v : AV} {vx : Value} (hx : Rel w S N x vx) (hg : (unV op x).get = some v) : ∃ v', (Op.unary op vx).run P w1 = .ok v' w1 ∧ Rel w S N v v' := by
  unfold unV at hg
  split at hg
  · obtain rfl := rel_bool hx; obtain rfl := ret_get hg
    exact ⟨_, by simp [Op.unary], .bool _⟩
  · obtain rfl := rel_int hx; obtain rfl := ret_get hg
    exact ⟨_, by simp [Op.unary, Op.intArith], .int _ _⟩
  · exact (no_get hg).elim

/-! ### Addresses -/
theorem fieldOf_run {s : TypeId} {f : Nat} {fd : Field} (h : fieldOf P s f = some fd) : ∃ fs, P.underlying s = some (.struct fs) ∧ fs[f]? = some fd := by
  unfold fieldOf at h
  split at h
  · rename_i fs hu; exact ⟨fs, hu, by simpa using h⟩
  · cases h

theorem fieldAddrV_ok {s : TypeId} {x v : AV} {f : Nat} {vx : Value} (hx : Rel w S N x vx) (hg : (fieldAddrV P s x f).get = some v) :
    ∃ v', (Instr.fieldAt s vx f).run P w1 = .ok v' w1 ∧ Rel w S N v v' := by
  unfold fieldAddrV at hg
  split at hg
  · exact (no_get hg).elim
  rename_i fd hf
  obtain ⟨fs, hu, hfs⟩ := fieldOf_run hf
  split at hg
  · exact (no_get hg).elim
  rename_i hz
  obtain ⟨z, hz', hz0⟩ : ∃ z, sizeT P fd.type = some z ∧ z ≠ 0 := by
    cases h : sizeT P fd.type with
    | none => rw [h] at hz; simp at hz
    | some z => exact ⟨z, rfl, by rw [h] at hz; simpa using hz⟩
  have hrun : ∀ a : Addr, (Instr.fieldAt s (.pointer (some a)) f).run P w1 = .ok (.pointer (some (a.add fd.offset))) w1 := by
    intro a
    simp [Instr.fieldAt, run_underlying hu, hfs, Instr.sureAddr, fieldPlace, run_sizeT hz', hz0]
  split at hg
  · rename_i l o
    obtain rfl := ret_get hg
    cases hx with | ptr _ _ ni b base hn hb => ?_
    exact ⟨_, hrun _, by rw [Addr.add_lit, Nat.add_assoc]; exact .ptr _ _ ni b base hn hb⟩
  · obtain rfl := ret_get hg
    cases hx with | rptr _ _ _ ni b base hn hb => ?_
    exact ⟨_, hrun _, by rw [Addr.add_lit, Nat.add_assoc, Nat.add_assoc]; exact .rptr _ _ _ ni b base hn hb⟩
  · rename_i cs
    obtain rfl := ret_get hg
    cases hx with | pim _ b off vs hS hlt h1 h2 => ?_
    refine ⟨_, hrun _, ?_⟩
    rw [Addr.add_lit]
    refine .pim _ b _ (fun j => vs (fd.offset + j)) hS hlt (fun j hj => ?_) (fun j a ha => ?_)
    · rw [Nat.add_assoc]; exact h1 _ (by simp at hj; omega)
    · exact h2 _ _ (by rw [List.getElem?_drop] at ha; exact ha)
  · exact (no_get hg).elim
end
end Go.Abs
