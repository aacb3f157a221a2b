import Derived.Test.YthnjfgjbgblciaaGreatDoorAm22
/-
  THE ABSTRACT MACHINE, 23: a region that draws its order.
-/
namespace Go.Am

/-- q among the executed ones, so is p. -/
def Before (ops : Array Oper) (ord : List Nat) (p q : Nat) : Prop :=
  ∀ L : Nat → Prop, (∀ (j i : Nat) (y : Oper), ord[j]? = some i → ops[i]? = some y → L j → ∀ e ∈ y.after, Region.binds .any e = true → ∀ k : Nat, ord[k]? = some e.on → L k) → L q → L p

noncomputable def hasPair (p q : Nat) : List (Nat × Nat) → Bool
  | [] => false
  | x :: l => (Nat.beq x.1 p && Nat.beq x.2 q) || hasPair p q l

/-- The operation at p, planned ahead of the one at q, may come behind it. -/
noncomputable def memFree (P : Program) (ps : List (Nat × Nat)) (p q : Nat) (x y : Oper) : Bool :=
  match kindOf P x, kindOf P y with
  | .pure, _ => true
  | _, .pure => true
  | .look, .look => true
  | .look, _ => hasPair p q ps
  | .alloc, .look => hasPair q p ps
  | .alloc, _ => true
  | .hard, .look => hasPair q p ps
  | .hard, _ => false

/-- What looks at memory at q leans on something that acts behind p. -/
def Covered (P : Program) (ops : Array Oper) (os : List Oper) (ord : List Nat) (p q : Nat) (y : Oper) : Prop :=
  kindOf P y = .look ∧ ∃ (z : Nat) (oz : Oper), p < z ∧ z < q ∧ os[z]? = some oz ∧ Before ops ord z q ∧ (kindOf P oz = .alloc ∨ kindOf P oz = .hard) ∧ oz.guard = none

structure PlanOk (P : Program) (ops : Array Oper) (os : List Oper) (ord : List Nat) (ps : List (Nat × Nat)) : Prop where
  len : os.length = ord.length
  get : ∀ p : Nat, p < ord.length → ∃ i o, ord[p]? = some i ∧ ops[i]? = some o ∧ os[p]? = some o
  inj : ∀ p q i : Nat, ord[p]? = some i → ord[q]? = some i → p = q
  surj : ∀ i : Nat, i < ops.size → ∃ p : Nat, ord[p]? = some i
  edge : ∀ (q i : Nat) (y : Oper), ord[q]? = some i → ops[i]? = some y → ∀ e ∈ y.after, Region.binds .any e = true → ∃ p : Nat, p < q ∧ ord[p]? = some e.on
  pair : ∀ (p q : Nat) (x y : Oper), p < q → os[p]? = some x → os[q]? = some y → Before ops ord p q ∨ (x.apart ops y = true ∧ (memFree P ps p q x y = true ∨ Covered P ops os ord p q y))

def AStep (P : Program) (C : Cfg) (call : CallFn) (ops : Array Oper) (o : Oper) (s : St) (b : Bool) (v : Value) (s' : St) : Prop :=
  wantA ops s.rs o = some b ∧ (b = true → aOper P C call s.m s.rs o = some (v, s'.m)) ∧ (b = false → v = undef ∧ s'.m = s.m) ∧ s'.n = s.n ∧ s'.rs = put s.n s.rs o.dst v

/-- What the abstract machine did. -/
structure Tra (P : Program) (C : Cfg) (call : CallFn) (ops : Array Oper) (os : List Oper) (ps : List (Nat × Nat)) (s : St) (S : Nat → St) (ran : Nat → Bool) (val : Nat → Value) : Prop where
  zero : S 0 = s
  step : ∀ (p : Nat) (o : Oper), os[p]? = some o → AStep P C call ops o (S p) (ran p) (val p) (S (p + 1))
  told : ∀ (p q : Nat) (x : Oper), hasPair p q ps = true → os[p]? = some x → q < os.length → ran p = true → ran q = true →
    opR P C.flats (if p < q then (S (q + 1)).m.t else (S q).m.t) (S p).rs x = some (.val (val p))

/-- What a temporary holds by the executed operations. -/
def RegAt (os : List Oper) (val : Nat → Value) (rs : Rs) (L : Nat → Prop) (d : Tmp) (R : Value → Prop) : Prop :=
  (∃ (p : Nat) (o : Oper), L p ∧ os[p]? = some o ∧ o.dst = some d ∧ (∀ (q : Nat) (o' : Oper), L q → os[q]? = some o' → o'.dst = some d → q ≤ p) ∧ R (val p)) ∨
  ((∀ (q : Nat) (o' : Oper), L q → os[q]? = some o' → o'.dst ≠ some d) ∧ R ((rs.get d).getD undef))

theorem RegAt.same {os : List Oper} {val : Nat → Value} {rs : Rs} {L L' : Nat → Prop} {d : Tmp} {R : Value → Prop} {v0 : Value} (h : RegAt os val rs L d R) (h' : RegAt os val rs L' d (v0 = ·))
    (hw : ∀ (q : Nat) (o : Oper), os[q]? = some o → o.dst = some d → (L q ↔ L' q)) : R v0 := by
  rcases h with ⟨p, o, h1, h2, h3, h4, h5⟩ | ⟨h1, h2⟩
  · rcases h' with ⟨p', o', k1, k2, k3, k4, k5⟩ | ⟨k1, k2⟩
    · have e1 := h4 p' o' ((hw p' o' k2 k3).2 k1) k2 k3
      have e2 := k4 p o ((hw p o h2 h3).1 h1) h2 h3
      have : p = p' := by omega
      subst this
      rw [k5]; exact h5
    · exact absurd h3 (k1 p o ((hw p o h2 h3).1 h1) h2)
  · rcases h' with ⟨p', o', k1, k2, k3, k4, k5⟩ | ⟨k1, k2⟩
    · exact absurd k3 (h1 p' o' ((hw p' o' k2 k3).2 k1) k2)
    · rw [k2]; exact h2

theorem RegAt.mono {os : List Oper} {val : Nat → Value} {rs : Rs} {L : Nat → Prop} {d : Tmp} {R R' : Value → Prop} (h : RegAt os val rs L d R) (hR : ∀ v, R v → R' v) : RegAt os val rs L d R' := by
  rcases h with ⟨p, o, h1, h2, h3, h4, h5⟩ | ⟨h1, h2⟩
  · exact .inl ⟨p, o, h1, h2, h3, h4, hR _ h5⟩
  · exact .inr ⟨h1, hR _ h2⟩

theorem ex_bad (n : Nat) : ∃ t : Rs, ∀ d, t.get d = if d < n then some bad else none := by
  induction n with
  | zero => exact ⟨.nil, fun d => by simp; exact Tri.get_nil _⟩
  | succ n ih =>
    obtain ⟨t, ht⟩ := ih
    refine ⟨t.set n (some bad), fun d => ?_⟩
    rw [Tri.get_set, ht]
    by_cases h : d = n
    · rw [if_pos h, if_pos (by omega)]
    · rw [if_neg h]
      by_cases h2 : d < n
      · rw [if_pos h2, if_pos (by omega)]
      · rw [if_neg h2, if_neg (by omega)]

theorem ex_mask (rs : Rs) (n : Nat) (ds : List Tmp) : ∃ t : Rs, ∀ d, t.get d = if d ∈ ds then rs.get d else if d < n then some bad else none := by
  induction ds with
  | nil => obtain ⟨t, ht⟩ := ex_bad n; exact ⟨t, fun d => by simpa using ht d⟩
  | cons x ds ih =>
    obtain ⟨t, ht⟩ := ih
    refine ⟨t.set x (rs.get x), fun d => ?_⟩
    rw [Tri.get_set, ht]
    by_cases h : d = x
    · subst h; simp
    · simp [h]

section
variable {P : Program} {C : Cfg} {call : CallFn} {ops : Array Oper} {os : List Oper} {ord : List Nat} {ps : List (Nat × Nat)} {s : St} {S : Nat → St} {ran : Nat → Bool} {val : Nat → Value}

theorem put_get {n : Nat} {rs : Rs} {dst : Option Tmp} {v : Value} (d : Tmp) : (put n rs dst v).get d = if dst = some d ∧ d < n then some v else rs.get d := by
  unfold put
  cases dst with
  | none => simp
  | some x =>
    simp only [Option.some.injEq]
    cases hb : Nat.blt x n with
    | true =>
      have hx : x < n := by simpa [Nat.blt_eq] using hb
      simp only [cond_true]
      rw [Tri.get_set]
      by_cases h : d = x
      · subst h; rw [if_pos rfl, if_pos ⟨rfl, hx⟩]
      · rw [if_neg h, if_neg (fun h' => h h'.1.symm)]
    | false =>
      have hx : ¬ x < n := fun h => by rw [show Nat.blt x n = true by simpa [Nat.blt_eq] using h] at hb; cases hb
      simp only [cond_false]
      rw [if_neg]
      rintro ⟨rfl, h⟩; exact hx h

/-- The registers there. -/
theorem Tra.regs (ht : Tra P C call ops os ps s S ran val) : ∀ p : Nat, p ≤ os.length → (S p).n = s.n ∧ ∀ d, (d < s.n → RegAt os val s.rs (· < p) d (((S p).rs.get d).getD undef = ·)) ∧ (s.n ≤ d → (S p).rs.get d = s.rs.get d)
  | 0, _ => by rw [ht.zero]; exact ⟨rfl, fun d => ⟨fun _ => .inr ⟨fun q _ hq => absurd hq (by omega), rfl⟩, fun _ => rfl⟩⟩
  | p + 1, hp => by
    obtain ⟨ih1, ih2⟩ := Tra.regs ht p (by omega)
    obtain ⟨o, ho⟩ : ∃ o, os[p]? = some o := ⟨_, List.getElem?_eq_getElem (by omega)⟩
    obtain ⟨_, _, _, h4, h5⟩ := ht.step p o ho
    refine ⟨h4.trans ih1, fun d => ⟨fun hd => ?_, fun hd => ?_⟩⟩
    · rw [h5, put_get]
      by_cases hdst : o.dst = some d
      · rw [if_pos ⟨hdst, by rw [ih1]; exact hd⟩]
        exact .inl ⟨p, o, by omega, ho, hdst, fun q _ hq _ _ => by omega, rfl⟩
      · rw [if_neg (fun h => hdst h.1)]
        rcases (ih2 d).1 hd with ⟨p', o', k1, k2, k3, k4, k5⟩ | ⟨k1, k2⟩
        · refine .inl ⟨p', o', by omega, k2, k3, fun q o2 hq hq2 hq3 => ?_, k5⟩
          by_cases hqp : q = p
          · subst hqp; rw [ho] at hq2; cases hq2; exact absurd hq3 hdst
          · exact k4 q o2 (by omega) hq2 hq3
        · refine .inr ⟨fun q o2 hq hq2 hq3 => ?_, k2⟩
          by_cases hqp : q = p
          · subst hqp; rw [ho] at hq2; cases hq2; exact absurd hq3 hdst
          · exact k1 q o2 (by omega) hq2 hq3
    · rw [h5, put_get, if_neg (fun h => by have h2 := h.2; rw [ih1] at h2; exact absurd h2 (Nat.not_lt.2 hd))]
      exact (ih2 d).2 hd

/-- An operation that touches memory, and was run. -/
def Acts (P : Program) (ran : Nat → Bool) (p : Nat) (o : Oper) : Prop := ran p = true ∧ (kindOf P o = .alloc ∨ kindOf P o = .hard)

theorem Tra.still (ht : Tra P C call ops os ps s S ran val) {p : Nat} {o : Oper} (ho : os[p]? = some o) (hn : ¬ Acts P ran p o) : (S (p + 1)).m = (S p).m := by
  obtain ⟨_, h2, h3, _, _⟩ := ht.step p o ho
  cases hr : ran p with
  | false => exact (h3 hr).2
  | true =>
    have hop := h2 hr
    unfold aOper at hop
    cases hres : opR P C.flats (S p).m.t (S p).rs o with
    | none => simp [hres] at hop
    | some res =>
      cases hk : kindOf P o with
      | alloc => exact absurd ⟨hr, .inl hk⟩ hn
      | hard => exact absurd ⟨hr, .inr hk⟩ hn
      | pure =>
        obtain ⟨v, rfl, _⟩ := pure_val hk hres
        simp only [hres, Option.some.injEq, Prod.mk.injEq] at hop
        exact hop.2.symm
      | look =>
        obtain ⟨v, rfl⟩ := look_val hk hres
        simp only [hres, Option.some.injEq, Prod.mk.injEq] at hop
        exact hop.2.symm

theorem Tra.makes (ht : Tra P C call ops os ps s S ran val) {p : Nat} {o : Oper} (ho : os[p]? = some o) (hr : ran p = true) (hk : kindOf P o = .alloc) :
    ∃ x u, opR P C.flats (S p).m.t (S p).rs o = some (.alloc x u) ∧ val p = numbered (S p).m.n u ∧ (S (p + 1)).m = ⟨(S p).m.t.set (S p).m.n (some x), (S p).m.n + 1⟩ := by
  obtain ⟨_, h2, _, _, _⟩ := ht.step p o ho
  have hop := h2 hr
  unfold aOper at hop
  cases hres : opR P C.flats (S p).m.t (S p).rs o with
  | none => simp [hres] at hop
  | some res =>
    obtain ⟨⟨x, u, rfl⟩, _⟩ := alloc_val hk hres
    simp only [hres, Option.some.injEq, Prod.mk.injEq] at hop
    exact ⟨x, u, rfl, hop.1.symm, hop.2.symm⟩

/-- The world amid the region: L are executed; the abstract memory is the one ahead of position t. -/
structure Inv (P : Program) (C : Cfg) (ops : Array Oper) (os : List Oper) (s : St) (S : Nat → St) (ran : Nat → Bool) (val : Nat → Value) (r0 : Ren) (m0 : Mem) (w0 : World) (L : Nat → Prop) (t : Nat) (r : Ren) (a : Act) (w : World) : Prop where
  tn : t ≤ os.length
  hmax : ∀ (p : Nat) (o : Oper), os[p]? = some o → L p → Acts P ran p o → p < t
  hpre : ∀ (p : Nat) (o : Oper), p < t → os[p]? = some o → ran p = true → kindOf P o = .hard → L p
  hm : HRel P r (S t).m w
  evo : Evo r0 m0 w0 r (S t).m w
  pend : ∀ (p : Nat) (o : Oper), p < t → os[p]? = some o → ran p = true → kindOf P o = .alloc → ¬ L p → r (S p).m.n = none ∧ (S t).m.t.get (S p).m.n = (S (p + 1)).m.t.get (S p).m.n ∧ m0.n ≤ (S p).m.n ∧ (S p).m.n < (S t).m.n
  dist : ∀ (p q : Nat) (o o' : Oper), p < q → q < t → os[p]? = some o → os[q]? = some o' → ran p = true → ran q = true → kindOf P o = .alloc → kindOf P o' = .alloc → ¬ L p → ¬ L q → (S p).m.n < (S q).m.n
  regs : ∀ d : Tmp, (d < s.n → RegAt os val s.rs L d (VRel r · (a.tmps.getD d undef))) ∧ (s.n ≤ d → VRel r ((s.rs.get d).getD undef) (a.tmps.getD d undef))
  size : a.tmps.size = s.n
  defers : a.defers = []

variable {r0 : Ren} {m0 : Mem} {w0 : World} {L : Nat → Prop} {t : Nat} {r : Ren} {a : Act} {w : World}

/-- The abstract memory goes ahead, over what is pending. -/
theorem Inv.ahead (ht : Tra P C call ops os ps s S ran val) (h : Inv P C ops os s S ran val r0 m0 w0 L t r a w) : ∀ (k t' : Nat), t' = t + k → t' ≤ os.length → (∀ (p : Nat) (o : Oper), t ≤ p → p < t' → os[p]? = some o → ran p = true → kindOf P o ≠ .hard) →
    Inv P C ops os s S ran val r0 m0 w0 L t' r a w
  | 0, t', e, _, _ => by rw [Nat.add_zero] at e; subst e; exact h
  | k + 1, t', e, hle, hno => by
    have ih := Inv.ahead ht h k (t + k) rfl (by omega) fun p o h1 h2 => hno p o h1 (by omega)
    have et : t' = (t + k) + 1 := by omega
    subst et
    generalize t + k = q at *
    obtain ⟨o, ho⟩ : ∃ o, os[q]? = some o := ⟨_, List.getElem?_eq_getElem (by omega)⟩
    have hmax' : ∀ (p : Nat) (o : Oper), os[p]? = some o → L p → Acts P ran p o → p < q + 1 := fun p o h1 h2 h3 => Nat.lt_succ_of_lt (ih.hmax p o h1 h2 h3)
    have hnl : Acts P ran q o → ¬ L q := fun h1 h2 => absurd (ih.hmax q o ho h2 h1) (Nat.lt_irrefl _)
    have hpre' : ∀ (p : Nat) (o : Oper), p < q + 1 → os[p]? = some o → ran p = true → kindOf P o = .hard → L p := by
      intro p o' hp ho' hr hk
      by_cases hpq : p = q
      · subst hpq
        by_cases htp : t ≤ p
        · exact absurd hk (hno p o' htp (by omega) ho' hr)
        · exact h.hpre p o' (by omega) ho' hr hk
      · exact ih.hpre p o' (by omega) ho' hr hk
    by_cases hact : Acts P ran q o
    · have hk : kindOf P o = .alloc := by
        rcases hact.2 with hk | hk
        · exact hk
        · by_cases htp : t ≤ q
          · exact absurd hk (hno q o htp (by omega) ho hact.1)
          · exact absurd (h.hpre q o (by omega) ho hact.1 hk) (hnl hact)
      obtain ⟨x, u, _, _, hmem⟩ := ht.makes ho hact.1 hk
      have hg := ih.hm.grow x
      have hfr := ih.hm.fresh _ (Nat.le_refl _)
      refine ⟨hle, hmax', hpre', by rw [hmem]; exact hg.1, by rw [hmem]; exact ih.evo.trans hg.2, fun p o' hp ho' hr hk' hnl' => ?_, fun i j oi oj hij hj hi1 hj1 ri rj ki kj li lj => ?_, ih.regs, ih.size, ih.defers⟩
      rotate_left
      · by_cases hjq : j = q
        · subst hjq; exact (ih.pend i oi hij hi1 ri ki li).2.2.2
        · exact ih.dist i j oi oj hij (by omega) hi1 hj1 ri rj ki kj li lj
      by_cases hpq : p = q
      · subst hpq
        exact ⟨hfr, rfl, ih.evo.num, by rw [hmem]; exact Nat.lt_succ_self _⟩
      · obtain ⟨k1, k2, k3, k4⟩ := ih.pend p o' (by omega) ho' hr hk' hnl'
        refine ⟨k1, ?_, k3, by rw [hmem]; exact Nat.lt_succ_of_lt k4⟩
        rw [hmem, ← k2]
        exact Tri.get_set_ne _ _ (by omega)
    · have hst := ht.still ho hact
      refine ⟨hle, hmax', hpre', by rw [hst]; exact ih.hm, by rw [hst]; exact ih.evo, fun p o' hp ho' hr hk' hnl' => ?_, fun i j oi oj hij hj hi1 hj1 ri rj ki kj li lj => ?_, ih.regs, ih.size, ih.defers⟩
      rotate_left
      · by_cases hjq : j = q
        · subst hjq; rw [ho] at hj1; cases hj1; exact absurd ⟨rj, .inl kj⟩ hact
        · exact ih.dist i j oi oj hij (by omega) hi1 hj1 ri rj ki kj li lj
      by_cases hpq : p = q
      · subst hpq
        rw [ho] at ho'; cases ho'
        exact absurd ⟨hr, .inl hk'⟩ hact
      · rw [hst]; exact ih.pend p o' (by omega) ho' hr hk' hnl'

/-- L is such as an order lists. -/
def Closed (ops : Array Oper) (ord : List Nat) (L : Nat → Prop) : Prop :=
  ∀ (j i : Nat) (y : Oper), ord[j]? = some i → ops[i]? = some y → L j → ∀ e ∈ y.after, Region.binds .any e = true → ∀ k : Nat, ord[k]? = some e.on → L k

/-- p comes next. -/
structure Next (ops : Array Oper) (os : List Oper) (ord : List Nat) (L : Nat → Prop) (p : Nat) (o : Oper) : Prop where
  closed : Closed ops ord L
  os : os[p]? = some o
  new : ¬ L p
  edges : ∀ e ∈ o.after, Region.binds .any e = true → ∀ k : Nat, ord[k]? = some e.on → L k

variable {p : Nat} {o : Oper}

theorem PlanOk.at (hp : PlanOk P ops os ord ps) (ho : os[p]? = some o) : ∃ i, ord[p]? = some i ∧ ops[i]? = some o := by
  have hlt : p < os.length := by
    rcases Nat.lt_or_ge p os.length with h | h
    · exact h
    · rw [List.getElem?_eq_none h] at ho; cases ho
  obtain ⟨i, o', h1, h2, h3⟩ := hp.get p (by rw [← hp.len]; exact hlt)
  rw [ho] at h3; cases h3
  exact ⟨i, h1, h2⟩

theorem Next.closed' (hp : PlanOk P ops os ord ps) (hn : Next ops os ord L p o) : Closed ops ord fun q => L q ∨ q = p := by
  intro j i y h1 h2 h3 e he hb k hk
  rcases h3 with h3 | h3
  · exact .inl (hn.closed j i y h1 h2 h3 e he hb k hk)
  · subst h3
    obtain ⟨i', h4, h5⟩ := hp.at hn.os
    rw [h1] at h4; cases h4
    rw [h2] at h5; cases h5
    exact .inl (hn.edges e he hb k hk)

/-- What must come before p is there. -/
theorem Next.of_before (hp : PlanOk P ops os ord ps) (hn : Next ops os ord L p o) {q : Nat} (hb : Before ops ord q p) (hne : q ≠ p) : L q := by
  rcases hb _ (hn.closed' hp) (.inr rfl) with h | h
  · exact h
  · exact absurd h hne

theorem Next.not_before (hn : Next ops os ord L p o) {q : Nat} (hb : Before ops ord p q) : ¬ L q := fun h => hn.new (hb L hn.closed h)

/-- Who wrote what p looks at: just who was planned ahead of it. -/
theorem Next.writers (hp : PlanOk P ops os ord ps) (hn : Next ops os ord L p o) {d : Tmp} (hd : d ∈ o.looksAt ops) (q : Nat) (o' : Oper) (hq : os[q]? = some o') (hdst : o'.dst = some d) : L q ↔ q < p := by
  constructor
  · intro hl
    rcases Nat.lt_trichotomy q p with h | h | h
    · exact h
    · subst h; exact absurd hl hn.new
    · rcases hp.pair p q o o' h hn.os hq with hb | ⟨hap, _⟩
      · exact absurd hl (hn.not_before hb)
      · obtain ⟨_, _, h3⟩ := Oper.apart_spec hap
        exact absurd hd (h3 d hdst)
  · intro hlt
    rcases hp.pair q p o' o hlt hq hn.os with hb | ⟨hap, _⟩
    · exact hn.of_before hp hb (by omega)
    · obtain ⟨h1, _, _⟩ := Oper.apart_spec hap
      exact absurd hd (h1 d hdst)

/-- What p looks at is as it was there. -/
theorem Inv.looked (hp : PlanOk P ops os ord ps) (ht : Tra P C call ops os ps s S ran val) (h : Inv P C ops os s S ran val r0 m0 w0 L t r a w) (hn : Next ops os ord L p o) {d : Tmp} (hd : d ∈ o.looksAt ops) :
    VRel r (((S p).rs.get d).getD undef) (a.tmps.getD d undef) := by
  have hlt : p ≤ os.length := by
    rcases Nat.lt_or_ge p os.length with h | h
    · omega
    · have := hn.os; rw [List.getElem?_eq_none h] at this; cases this
  obtain ⟨_, hregs⟩ := ht.regs p hlt
  by_cases hdn : d < s.n
  · exact ((h.regs d).1 hdn).same ((hregs d).1 hdn) fun q o' hq hdst => hn.writers hp hd q o' hq hdst
  · rw [(hregs d).2 (Nat.le_of_not_lt hdn)]
    exact (h.regs d).2 (Nat.le_of_not_lt hdn)

/-- Registers to run p by: what it looks at, of the rest nothing. -/
theorem Inv.masked (hp : PlanOk P ops os ord ps) (ht : Tra P C call ops os ps s S ran val) (h : Inv P C ops os s S ran val r0 m0 w0 L t r a w) (hn : Next ops os ord L p o) :
    ∃ rs', RRel r s.n rs' a.tmps ∧ ∀ x ∈ o.op.operands, eval P (S p).rs x = eval P rs' x := by
  obtain ⟨rs', hrs⟩ := ex_mask (S p).rs s.n (o.looksAt ops)
  refine ⟨rs', ⟨h.size, fun d => ?_⟩, fun x hx => ?_⟩
  · rw [hrs]
    by_cases hd : d ∈ o.looksAt ops
    · rw [if_pos hd]; exact h.looked hp ht hn hd
    · rw [if_neg hd]
      by_cases hdn : d < s.n
      · rw [if_pos hdn]; exact .bad _
      · rw [if_neg hdn, Array.getD_eq_getD_getElem?, Array.getElem?_eq_none (by rw [h.size]; exact Nat.le_of_not_lt hdn)]
        exact VRel.undef r
  · cases x with
    | tmp d =>
      have hd : d ∈ o.looksAt ops := List.mem_append_left _ (List.mem_filterMap.2 ⟨.tmp d, by simpa using hx, rfl⟩)
      show ((S p).rs.get d).getD undef = (rs'.get d).getD undef
      rw [hrs, if_pos hd]
    | _ => rfl

/-- Registers behind p. -/
theorem Inv.regs' (hp : PlanOk P ops os ord ps) (h : Inv P C ops os s S ran val r0 m0 w0 L t r a w) (hn : Next ops os ord L p o) {r' : Ren} (hx : Ext r r') {v' : Value} (hv : VRel r' (val p) v') (d : Tmp) :
    (d < s.n → RegAt os val s.rs (fun q => L q ∨ q = p) d (VRel r' · ((a.put o.dst v').tmps.getD d undef))) ∧ (s.n ≤ d → VRel r' ((s.rs.get d).getD undef) ((a.put o.dst v').tmps.getD d undef)) := by
  have hget : (a.put o.dst v').tmps.getD d undef = if o.dst = some d ∧ d < s.n then v' else a.tmps.getD d undef := by
    cases hdst : o.dst with
    | none => simp [Act.put]
    | some x =>
      simp only [Act.put, Option.some.injEq, Array.getD_eq_getD_getElem?]
      by_cases hxd : x = d
      · subst hxd
        by_cases hlt : x < s.n
        · rw [if_pos ⟨rfl, hlt⟩, Array.getElem?_setIfInBounds_self_of_lt (by rw [h.size]; exact hlt)]; rfl
        · rw [if_neg (fun hh => hlt hh.2), Array.setIfInBounds_eq_of_size_le (by rw [h.size]; exact Nat.le_of_not_lt hlt)]
      · rw [if_neg (fun hh => hxd hh.1), Array.getElem?_setIfInBounds_ne hxd]
  constructor
  · intro hdn
    by_cases hdst : o.dst = some d
    · refine .inl ⟨p, o, .inr rfl, hn.os, hdst, fun q o' hq hqo hqd => ?_, by rw [hget, if_pos ⟨hdst, hdn⟩]; exact hv⟩
      rcases hq with hq | hq
      · rcases Nat.lt_or_ge p q with hlt | hge
        · rcases hp.pair p q o o' hlt hn.os hqo with hb | ⟨hap, _⟩
          · exact absurd hq (hn.not_before hb)
          · obtain ⟨_, h2, _⟩ := Oper.apart_spec hap
            exact absurd hqd (h2 d hdst)
        · exact hge
      · omega
    · rw [hget, if_neg (fun hh => hdst hh.1)]
      rcases (h.regs d).1 hdn with ⟨p', o', k1, k2, k3, k4, k5⟩ | ⟨k1, k2⟩
      · refine .inl ⟨p', o', .inl k1, k2, k3, fun q o2 hq hq2 hq3 => ?_, k5.mono hx⟩
        rcases hq with hq | hq
        · exact k4 q o2 hq hq2 hq3
        · subst hq; rw [hn.os] at hq2; cases hq2; exact absurd hq3 hdst
      · refine .inr ⟨fun q o2 hq hq2 hq3 => ?_, k2.mono hx⟩
        rcases hq with hq | hq
        · exact k1 q o2 hq hq2 hq3
        · subst hq; rw [hn.os] at hq2; cases hq2; exact absurd hq3 hdst
  · intro hdn
    rw [hget, if_neg (fun hh => absurd hh.2 (Nat.not_lt.2 hdn))]
    exact ((h.regs d).2 hdn).mono hx

theorem put_defers (a : Act) (dst : Option Tmp) (v : Value) : (a.put dst v).defers = a.defers := by cases dst <;> rfl
theorem put_size (a : Act) (dst : Option Tmp) (v : Value) : (a.put dst v).tmps.size = a.tmps.size := by cases dst <;> simp [Act.put]

end
end Go.Am
