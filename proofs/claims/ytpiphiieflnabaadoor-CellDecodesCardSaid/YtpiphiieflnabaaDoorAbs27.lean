/- The abstract machine: loops told of a few values and a store. Conditions: none. -/
import Derived.Test.YtpiphiieflnabaaDoorAbs26
namespace Go.Abs
section
variable {X : Ctx}

def envOf (n : Nat) (live : List Tmp) (vals : List AV) : List AV := (List.range n).map fun t => match place live t with | some j => vals.getD j .top | none => .top

/-- A state of which a few values and the store are known. -/
def stOf (n : Nat) (live : List Tmp) (vals : List AV) (st : Store) : St := { env := envOf n live vals, st := st }

def valsOf (live : List Tmp) (s : St) : List AV := live.map fun t => s.env.getD t .top

theorem keep_ok {E : Fix} {s : St} {a : Act} {w : World} {N : Names} (live : List Tmp) (h : At E s a w N) : At E (stOf s.env.length live (valsOf live s) s.st) a w N := by
  refine ⟨h.mem, ⟨by simp [stOf, envOf, h.env.1], fun t x v h1 h2 => ?_⟩, h.defers⟩
  simp only [stOf, envOf, List.getElem?_map] at h1
  obtain ⟨t', ht, rfl⟩ := Option.map_eq_some_iff.1 h1
  obtain ⟨ht1, ht2⟩ := List.getElem?_eq_some_iff.1 ht
  simp only [List.getElem_range] at ht2
  subst ht2
  rw [List.length_range] at ht1
  split
  · rename_i j hj
    unfold place at hj
    split at hj
    · rename_i hc
      cases hj
      have hp := pos_get live t hc
      have hx := h.env.2 t _ v (List.getElem?_eq_getElem ht1) h2
      rw [List.getD_eq_getElem?_getD, valsOf, List.getElem?_map, hp]
      show Rel w _ N (s.env.getD t .top) v
      rw [List.getD_eq_getElem?_getD, List.getElem?_eq_getElem ht1]
      exact hx
    · cases hj
  · exact .top v

theorem LoopSem.keep {ks : List Bool} {c : Code} {s : St} {r : Ex × St} (live : List Tmp) (h : LoopSem X ks c (stOf s.env.length live (valsOf live s) s.st) r) : LoopSem X ks c s r := by
  obtain ⟨k, hk⟩ := h
  exact ⟨k, fun E a w N Q hG h hQ => hk E a w N Q hG (keep_ok live h) hQ⟩

/-- A loop told by a function of a few values and a store. -/
def loopL (ks : List Bool) (n : Nat) (live : List Tmp) (spec : List AV → Store → Tr (Ex × St)) (s : St) : Tr (Ex × St) :=
  match Nat.beq s.env.length n with
  | true => let c := canonF ks (valsOf live s) s.st; spec c.1 c.2
  | false => .no

/-- What is told of a loop holds. -/
def LoopOK (X : Ctx) (ks : List Bool) (body : Code) (n : Nat) (live : List Tmp) (spec : List AV → Store → Tr (Ex × St)) : Prop :=
  ∀ vals st r, (spec vals st).get = some r → LoopSem X ks body (stOf n live vals st) r

theorem loopL_ok {ks : List Bool} {body : Code} {n : Nat} {live : List Tmp} {spec : List AV → Store → Tr (Ex × St)} (h : LoopOK X ks body n live spec) {s : St} {r : Ex × St} (hr : (loopL ks n live spec s).get = some r) : LoopSem X ks body s r := by
  unfold loopL at hr
  split at hr
  · rename_i hn
    have := Nat.eq_of_beq_eq_true hn
    subst this
    exact .mask live (h _ _ _ hr)
  · exact (no_get hr).elim

/-- A round, and what comes behind it told of the one state that it comes to. -/
theorem round_to (hX : X.ok) (hm : X.P.follows .mixedOrders = true) {L : Nat → St → Tr (Ex × St)} {n0 : List Bool} {body : Code} {off : Nat} {live out : List Tmp} {s s2 : St} {r : Ex × St}
    (hL : LoopsAt X L n0 body off) (h : ∀ T : St → Tr (Ex × St), (evRound X L n0 body off live out s T).get = (T s2).get) (k : LoopSem X n0 body s2 r) : LoopSem X n0 body s r := by
  classical
  refine round_ok (T := fun s' => if s' = s2 then .ret r else .no) (r := r) hX hm hL (by rw [h]; simp only [if_true]; rfl) fun s' h' => ?_
  split at h'
  · rename_i he; rw [he]; exact k
  · exact (no_get h').elim

/-- A round that is the last one. -/
theorem round_end (hX : X.ok) (hm : X.P.follows .mixedOrders = true) {L : Nat → St → Tr (Ex × St)} {n0 : List Bool} {body : Code} {off : Nat} {live out : List Tmp} {s : St} {r : Ex × St}
    (hL : LoopsAt X L n0 body off) (h : ∀ T : St → Tr (Ex × St), (evRound X L n0 body off live out s T).get = some r) : LoopSem X n0 body s r := by
  refine round_ok (T := fun _ => .no) (r := r) hX hm hL (h _) fun s' h' => (no_get h').elim

/-- Loops told one by one. -/
def loops : List (Nat × (St → Tr (Ex × St))) → Nat → St → Tr (Ex × St)
  | [], _, _ => .no
  | (m, t) :: r, n, s => match Nat.beq m n with | true => t s | false => loops r n s

/-- One loop alone. -/
theorem loops_one {ks : List Bool} {c body : Code} {n : Nat} {live : List Tmp} {spec : List AV → Store → Tr (Ex × St)} (h0 : nloops c = 1) (hb : loopAt c 0 = some body) (h : LoopOK X ks body n live spec) :
    LoopsAt X (loops [(0, loopL ks n live spec)]) ks c 0 := by
  intro m b hm s r hr
  have : m = 0 := by
    rcases Nat.lt_or_ge m 1 with h1 | h1
    · omega
    · rw [noloops m (by omega)] at hm; cases hm
  subst this
  rw [hb] at hm; cases hm
  exact loopL_ok h hr

/-- A loop through a list: the rounds keep to a law, and the last one goes out. -/
theorem range_loop {M α : Type} (hX : X.ok) (hm : X.P.follows .mixedOrders = true) {L : Nat → St → Tr (Ex × St)} {n0 : List Bool} {body : Code} {off : Nat} {live out : List Tmp} (hL : LoopsAt X L n0 body off)
    (xs : List α) (S : Nat → M → St) (next : M → α → M) (fin : M → Ex × St) (Inv : Nat → M → Prop)
    (hround : ∀ i m x, Inv i m → xs[i]? = some x → Inv (i + 1) (next m x) ∧ ∀ T : St → Tr (Ex × St), (evRound X L n0 body off live out (S i m) T).get = (T (S (i + 1) (next m x))).get)
    (hend : ∀ m, Inv xs.length m → ∀ T : St → Tr (Ex × St), (evRound X L n0 body off live out (S xs.length m) T).get = some (fin m)) :
    ∀ k i m, i + k = xs.length → Inv i m → Inv xs.length ((xs.drop i).foldl next m) ∧ LoopSem X n0 body (S i m) (fin ((xs.drop i).foldl next m))
  | 0, i, m, hk, hi => by
    have : i = xs.length := by omega
    subst this
    rw [List.drop_of_length_le (Nat.le_refl _)]
    exact ⟨hi, round_end hX hm hL (hend m hi)⟩
  | k + 1, i, m, hk, hi => by
    have hlt : i < xs.length := by omega
    have hx : xs[i]? = some xs[i] := List.getElem?_eq_getElem hlt
    obtain ⟨h1, h2⟩ := hround i m _ hi hx
    obtain ⟨h3, h4⟩ := range_loop hX hm hL xs S next fin Inv hround hend k (i + 1) _ (by omega) h1
    rw [List.drop_eq_getElem_cons hlt, List.foldl_cons]
    exact ⟨h3, round_to hX hm hL h2 h4⟩

/-- A loop, by a measure: a round goes out, or comes to a state of less measure and the same outcome. -/
theorem loop_meas {σ : Type} (hX : X.ok) (hm : X.P.follows .mixedOrders = true) {L : Nat → St → Tr (Ex × St)} {n0 : List Bool} {body : Code} {off : Nat} {live out : List Tmp} (hL : LoopsAt X L n0 body off)
    (S : σ → St) (res : σ → Ex × St) (μ : σ → Nat) (Inv : σ → Prop)
    (h : ∀ s, Inv s → (∀ T : St → Tr (Ex × St), (evRound X L n0 body off live out (S s) T).get = some (res s)) ∨
      ∃ s', Inv s' ∧ μ s' < μ s ∧ res s = res s' ∧ ∀ T : St → Tr (Ex × St), (evRound X L n0 body off live out (S s) T).get = (T (S s')).get) :
    ∀ s, Inv s → LoopSem X n0 body (S s) (res s) := by
  have key : ∀ n s, μ s ≤ n → Inv s → LoopSem X n0 body (S s) (res s) := by
    intro n
    induction n with
    | zero =>
      intro s hs hi
      rcases h s hi with h1 | ⟨s', _, h2, _⟩
      · exact round_end hX hm hL h1
      · omega
    | succ n ih =>
      intro s hs hi
      rcases h s hi with h1 | ⟨s', h1, h2, h3, h4⟩
      · exact round_end hX hm hL h1
      · rw [h3]; exact round_to hX hm hL h4 (ih s' (by omega) h1)
  exact fun s hi => key _ s (Nat.le_refl _) hi

/-- Two loops. -/
theorem loops_two {ks : List Bool} {c b0 b1 : Code} {n0 n1 : Nat} {live0 live1 : List Tmp} {spec0 spec1 : List AV → Store → Tr (Ex × St)} (hn : nloops c = 2) (h0 : loopAt c 0 = some b0) (h1 : loopAt c 1 = some b1)
    (k0 : LoopOK X ks b0 n0 live0 spec0) (k1 : LoopOK X ks b1 n1 live1 spec1) :
    LoopsAt X (loops [(0, loopL ks n0 live0 spec0), (1, loopL ks n1 live1 spec1)]) ks c 0 := by
  intro m b hm s r hr
  match m, hm with
  | 0, hm => rw [h0] at hm; cases hm; exact loopL_ok k0 hr
  | 1, hm => rw [h1] at hm; cases hm; exact loopL_ok k1 hr
  | m + 2, hm => rw [noloops (m + 2) (by omega)] at hm; cases hm

/-- Three loops. -/
theorem loops_three {ks : List Bool} {c b0 b1 b2 : Code} {n0 n1 n2 : Nat} {live0 live1 live2 : List Tmp} {spec0 spec1 spec2 : List AV → Store → Tr (Ex × St)} (hn : nloops c = 3) (h0 : loopAt c 0 = some b0) (h1 : loopAt c 1 = some b1) (h2 : loopAt c 2 = some b2)
    (k0 : LoopOK X ks b0 n0 live0 spec0) (k1 : LoopOK X ks b1 n1 live1 spec1) (k2 : LoopOK X ks b2 n2 live2 spec2) :
    LoopsAt X (loops [(0, loopL ks n0 live0 spec0), (1, loopL ks n1 live1 spec1), (2, loopL ks n2 live2 spec2)]) ks c 0 := by
  intro m b hm s r hr
  match m, hm with
  | 0, hm => rw [h0] at hm; cases hm; exact loopL_ok k0 hr
  | 1, hm => rw [h1] at hm; cases hm; exact loopL_ok k1 hr
  | 2, hm => rw [h2] at hm; cases hm; exact loopL_ok k2 hr
  | m + 3, hm => rw [noloops (m + 3) (by omega)] at hm; cases hm

/-- A contract of a function with loops. -/
theorem loop_spec {P : Program} {G : Nat → Option (List AV)} {l : List (Nat × Con)} (hl : AllOK P G l) (hm : P.follows .mixedOrders = true) {f : Nat} {fn : Func} {c : Code} {con : Con} (hf : P.funcs[f]? = some fn) (hb : fn.body = some c)
    (hn : (fn.name == "runtime.NumGoroutine") = false)
    (h : ∀ args st r, (con.spec args st).get = some r → ∃ L, LoopsAt (ctx P G l) L (cellsOf st) c 0 ∧ (evFn (ctx P G l) L fn args st).get = some r) : Con.ok P G f con :=
  fun args st r st' hr => by
    obtain ⟨L, hL, h1⟩ := h args st (r, st') hr
    exact fn_ok (r := (r, st')) (ctx_ok hl) hm hf hb (by simpa using hn) hL h1

theorem atL_some {β R : Type} {xs : List β} {i : Nat} {x : β} {k : β → Option R} (h : xs[i]? = some x) : atL xs i k = k x := by unfold atL; rw [h]

theorem wrap64 {n : Int} (h0 : 0 ≤ n) (h : n < 9223372036854775808) : IntKind.i64.wrap n = n := by
  simp only [IntKind.wrap]
  unfold IntKind.signed IntKind.bits
  simp
  omega
end
end Go.Abs
