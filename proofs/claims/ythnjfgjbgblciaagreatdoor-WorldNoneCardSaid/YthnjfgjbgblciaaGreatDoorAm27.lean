import Derived.Test.YthnjfgjbgblciaaGreatDoorAm26
/-
  THE ABSTRACT MACHINE, 27: the test of a plan.
-/
namespace Go.Am

noncomputable def natElem (i : Nat) : List Nat → Bool
  | [] => false
  | j :: l => Nat.beq j i || natElem i l

noncomputable def nodupB : List Nat → Bool
  | [] => true
  | i :: l => !natElem i l && nodupB l

/-- Where i stands. -/
noncomputable def posIn (i : Nat) : List Nat → Nat
  | [] => 0
  | j :: l => bif Nat.beq j i then 0 else posIn i l + 1

noncomputable def getD0 : List Nat → Nat → Nat
  | [], _ => 0
  | x :: _, 0 => x
  | _ :: l, n + 1 => getD0 l n

/-- The edges of an operation, as positions, as bits; with what they lean on. -/
noncomputable def maskE (ord : List Nat) (acc : List Nat) : List Edge → Nat
  | [] => 0
  | e :: l => bif Region.binds .any e then Nat.lor (Nat.lor (2 ^ posIn e.on ord) (getD0 acc (posIn e.on ord))) (maskE ord acc l) else maskE ord acc l

noncomputable def edgesB (ord : List Nat) (q : Nat) : List Edge → Bool
  | [] => true
  | e :: l => (!Region.binds .any e || (Nat.blt (posIn e.on ord) q && natElem e.on ord)) && edgesB ord q l

noncomputable def masks (ord : List Nat) : List Oper → List Nat → List Nat
  | [], acc => acc
  | o :: l, acc => masks ord l (acc ++ [maskE ord acc o.after.toList])

noncomputable def edgesAll (ord : List Nat) : Nat → List Oper → Bool
  | _, [] => true
  | q, o :: l => edgesB ord q o.after.toList && edgesAll ord (q + 1) l

noncomputable def bitB (m p : Nat) : Bool := Nat.beq (Nat.land (Nat.shiftRight m p) 1) 1

noncomputable def actB : Kind → Bool
  | .alloc | .hard => true
  | _ => false
noncomputable def lookB : Kind → Bool
  | .look => true
  | _ => false

/-- Of those from p to q one acts for sure, and q leans on it. -/
noncomputable def leanB (P : Program) (m q : Nat) : Nat → List Oper → Bool
  | _, [] => false
  | p, x :: l => bif Nat.blt p q then (bitB m p && actB (kindOf P x) && x.guard.isNone) || leanB P m q (p + 1) l else false

/-- The operation at q against those ahead of it. -/
noncomputable def pairsAt (P : Program) (ops : Array Oper) (ps : List (Nat × Nat)) (q : Nat) (y : Oper) (m : Nat) : Nat → List Oper → Bool
  | _, [] => true
  | p, x :: l => bif Nat.blt p q then (bitB m p || (x.apart ops y && (memFree P ps p q x y || (lookB (kindOf P y) && leanB P m q (p + 1) l)))) && pairsAt P ops ps q y m (p + 1) l else true

noncomputable def pairsAll (P : Program) (ops : Array Oper) (ps : List (Nat × Nat)) (os : List Oper) (ms : List Nat) : Nat → List Oper → Bool
  | _, [] => true
  | q, y :: l => pairsAt P ops ps q y (getD0 ms q) 0 os && pairsAll P ops ps os ms (q + 1) l

noncomputable def belowB (n : Nat) : List Nat → Bool
  | [] => true
  | i :: l => Nat.blt i n && belowB n l

noncomputable def coverB (ord : List Nat) : Nat → Bool
  | 0 => true
  | n + 1 => natElem n ord && coverB ord n

noncomputable def ordOf (ops : Array Oper) : Option (List Nat) → List Nat
  | none => List.range ops.size
  | some l => l

noncomputable def planOkB (P : Program) (ops : Array Oper) (plan : Option (List Nat)) (ps : List (Nat × Nat)) : Bool :=
  nodupB (ordOf ops plan) && belowB ops.size (ordOf ops plan) && coverB (ordOf ops plan) ops.size &&
  edgesAll (ordOf ops plan) 0 (planOps ops plan) && pairsAll P ops ps (planOps ops plan) (masks (ordOf ops plan) (planOps ops plan) []) 0 (planOps ops plan)

noncomputable def plansB (P : Program) (C : Cfg) (f : FuncId) : Code → Bool
  | .region id ops draw => !draw || (match C.plan f id with | some (plan, ps) => planOkB P ops plan ps | none => true)
  | .seq a b | .cond _ a b => plansB P C f a && plansB P C f b
  | .block _ a | .loop a => plansB P C f a
  | _ => true

noncomputable def plansL (P : Program) (C : Cfg) : Nat → List Func → Bool
  | _, [] => true
  | i, fn :: l => (match fn.body with | some c => plansB P C i c | none => true) && plansL P C (i + 1) l

theorem natElem_iff {i : Nat} : ∀ {l : List Nat}, natElem i l = true ↔ i ∈ l
  | [] => by simp [natElem]
  | j :: l => by
    simp only [natElem, Bool.or_eq_true, natElem_iff (l := l), List.mem_cons]
    constructor
    · rintro (h | h)
      · exact .inl (Nat.eq_of_beq_eq_true h).symm
      · exact .inr h
    · rintro (rfl | h)
      · exact .inl (Nat.beq_refl _)
      · exact .inr h

theorem nodupB_ok : ∀ {l : List Nat}, nodupB l = true → ∀ (p q i : Nat), l[p]? = some i → l[q]? = some i → p = q
  | [], _, p, q, i, h, _ => by simp at h
  | j :: l, h, p, q, i, h1, h2 => by
    simp only [nodupB, Bool.and_eq_true, Bool.not_eq_true'] at h
    have hj : j ∉ l := fun hm => by rw [natElem_iff.2 hm] at h; cases h.1
    cases p with
    | zero =>
      cases q with
      | zero => rfl
      | succ q =>
        simp only [List.getElem?_cons_zero, Option.some.injEq] at h1
        subst h1
        rw [List.getElem?_cons_succ] at h2
        exact absurd (List.mem_of_getElem? h2) hj
    | succ p =>
      rw [List.getElem?_cons_succ] at h1
      cases q with
      | zero =>
        simp only [List.getElem?_cons_zero, Option.some.injEq] at h2
        subst h2
        exact absurd (List.mem_of_getElem? h1) hj
      | succ q =>
        rw [List.getElem?_cons_succ] at h2
        rw [nodupB_ok h.2 p q i h1 h2]

theorem posIn_get {i : Nat} : ∀ {l : List Nat}, i ∈ l → l[posIn i l]? = some i
  | j :: l, h => by
    unfold posIn
    cases hb : Nat.beq j i with
    | true => rw [Nat.eq_of_beq_eq_true hb]; rfl
    | false =>
      have hne : j ≠ i := fun e => by subst e; simp at hb
      rcases List.mem_cons.1 h with rfl | h
      · exact absurd rfl hne
      · simp only [cond_false, List.getElem?_cons_succ]; exact posIn_get h

theorem getD0_get : ∀ {l : List Nat} {n : Nat}, getD0 l n = (l[n]?).getD 0
  | [], n => by simp [getD0]
  | x :: _, 0 => rfl
  | _ :: l, n + 1 => by simp only [getD0, List.getElem?_cons_succ]; exact getD0_get

theorem bitB_eq (m p : Nat) : bitB m p = m.testBit p := by
  unfold bitB Nat.testBit
  show Nat.beq (Nat.land (Nat.shiftRight m p) 1) 1 = (Nat.land 1 (Nat.shiftRight m p) != 0)
  have h1 : Nat.land (Nat.shiftRight m p) 1 = (m >>> p) % 2 := Nat.and_one_is_mod (m >>> p)
  have h2 : Nat.land 1 (Nat.shiftRight m p) = (m >>> p) % 2 := by rw [← Nat.and_one_is_mod]; exact Nat.and_comm 1 (m >>> p)
  rw [h1, h2]
  rcases Nat.mod_two_eq_zero_or_one (m >>> p) with h | h <;> rw [h] <;> rfl

section
variable {P : Program} {C : Cfg} {ops : Array Oper} {os : List Oper} {ord : List Nat} {ps : List (Nat × Nat)}

/-- What the bits say. -/
def MaskOk (ops : Array Oper) (ord acc : List Nat) : Prop := ∀ (q m : Nat), acc[q]? = some m → ∀ p : Nat, m.testBit p = true → Before ops ord p q

theorem maskE_ok {acc : List Nat} (hacc : MaskOk ops ord acc) {q i : Nat} {y : Oper} (hi : ord[q]? = some i) (hy : ops[i]? = some y) : ∀ (l : List Edge), (∀ e ∈ l, e ∈ y.after) → (∀ e ∈ l, Region.binds .any e = true → e.on ∈ ord) →
    ∀ p : Nat, (maskE ord acc l).testBit p = true → Before ops ord p q
  | [], _, _, p, h => by simp [maskE] at h
  | e :: l, hl, hin, p, h => by
    unfold maskE at h
    cases hb : Region.binds .any e with
    | false =>
      rw [hb, cond_false] at h
      exact maskE_ok hacc hi hy l (fun e he => hl e (by simp [he])) (fun e he => hin e (by simp [he])) p h
    | true =>
      rw [hb, cond_true] at h
      have hon := posIn_get (hin e (by simp) hb)
      have hstep : ∀ L : Nat → Prop, (∀ (j i : Nat) (y : Oper), ord[j]? = some i → ops[i]? = some y → L j → ∀ e ∈ y.after, Region.binds .any e = true → ∀ k : Nat, ord[k]? = some e.on → L k) → L q → L (posIn e.on ord) :=
        fun L hL hq => hL q i y hi hy hq e (hl e (by simp)) hb _ hon
      replace h : ((2 ^ posIn e.on ord ||| getD0 acc (posIn e.on ord)) ||| maskE ord acc l).testBit p = true := h
      rw [Nat.testBit_or, Nat.testBit_or] at h
      simp only [Bool.or_eq_true] at h
      rcases h with (h | h) | h
      · rw [Nat.testBit_two_pow] at h
        have : posIn e.on ord = p := by simpa using h
        subst this
        exact hstep
      · rw [getD0_get] at h
        cases hg : acc[posIn e.on ord]? with
        | none => rw [hg] at h; simp at h
        | some m =>
          rw [hg] at h
          exact fun L hL hq => hacc _ m hg p h L hL (hstep L hL hq)
      · exact maskE_ok hacc hi hy l (fun e he => hl e (by simp [he])) (fun e he => hin e (by simp [he])) p h

theorem edgesB_ok {q : Nat} : ∀ {l : List Edge}, edgesB ord q l = true → ∀ e ∈ l, Region.binds .any e = true → posIn e.on ord < q ∧ e.on ∈ ord
  | [], _, e, he, _ => by cases he
  | x :: l, h, e, he, hb => by
    simp only [edgesB, Bool.and_eq_true, Bool.or_eq_true, Bool.not_eq_true'] at h
    rcases List.mem_cons.1 he with rfl | he
    · rcases h.1 with h1 | ⟨h1, h2⟩
      · rw [hb] at h1; cases h1
      · exact ⟨by simpa [Nat.blt_eq] using h1, natElem_iff.1 h2⟩
    · exact edgesB_ok h.2 e he hb

theorem edgesAll_ok : ∀ {l : List Oper} {q0 : Nat}, edgesAll ord q0 l = true → ∀ (q : Nat) (o : Oper), l[q]? = some o → edgesB ord (q0 + q) o.after.toList = true
  | [], _, _, q, o, h => by simp at h
  | x :: l, q0, h, q, o, ho => by
    simp only [edgesAll, Bool.and_eq_true] at h
    cases q with
    | zero => simp only [List.getElem?_cons_zero, Option.some.injEq] at ho; subst ho; exact h.1
    | succ q =>
      rw [List.getElem?_cons_succ] at ho
      have := edgesAll_ok h.2 q o ho
      rwa [show q0 + 1 + q = q0 + (q + 1) by omega] at this

theorem masks_ok (hedge : ∀ (q : Nat) (o : Oper), os[q]? = some o → ∀ e ∈ o.after, Region.binds .any e = true → e.on ∈ ord) (hos : ∀ (q : Nat) (o : Oper), os[q]? = some o → ∃ i, ord[q]? = some i ∧ ops[i]? = some o) :
    ∀ (l : List Oper) (acc : List Nat), os.drop acc.length = l → MaskOk ops ord acc → MaskOk ops ord (masks ord l acc)
  | [], acc, _, h => h
  | o :: l, acc, hd, h => by
    have ho : os[acc.length]? = some o := by
      have : (os.drop acc.length)[0]? = some o := by rw [hd]; rfl
      simpa using this
    have hd' : os.drop (acc.length + 1) = l := by
      have : (os.drop acc.length).drop 1 = l := by rw [hd]; rfl
      simpa [List.drop_drop] using this
    obtain ⟨i, hi, hy⟩ := hos _ _ ho
    refine masks_ok hedge hos l _ (by simpa using hd') ?_
    intro q m hq p hp
    rcases Nat.lt_trichotomy q acc.length with hlt | heq | hgt
    · rw [List.getElem?_append_left hlt] at hq
      exact h q m hq p hp
    · subst heq
      simp at hq
      subst hq
      exact maskE_ok h hi hy _ (fun e he => by simpa using he) (fun e he hb => hedge _ o ho e (by simpa using he) hb) p hp
    · rw [List.getElem?_append_right (by omega), List.getElem?_singleton] at hq
      split at hq
      · omega
      · cases hq

theorem leanB_ok {q m : Nat} : ∀ {l : List Oper} {p0 : Nat}, leanB P m q p0 l = true → ∃ (z : Nat) (oz : Oper), p0 + z < q ∧ l[z]? = some oz ∧ m.testBit (p0 + z) = true ∧ (kindOf P oz = .alloc ∨ kindOf P oz = .hard) ∧ oz.guard = none
  | [], _, h => by cases h
  | x :: l, p0, h => by
    unfold leanB at h
    cases hb : Nat.blt p0 q with
    | false => rw [hb] at h; cases h
    | true =>
      rw [hb, cond_true, Bool.or_eq_true] at h
      have hlt : p0 < q := by simpa [Nat.blt_eq] using hb
      rcases h with h | h
      · simp only [Bool.and_eq_true, Option.isNone_iff_eq_none] at h
        obtain ⟨⟨h1, h2⟩, h3⟩ := h
        rw [bitB_eq] at h1
        refine ⟨0, x, by omega, rfl, h1, ?_, h3⟩
        cases hk : kindOf P x <;> rw [hk] at h2 <;> first | exact .inl rfl | exact .inr rfl | cases h2
      · obtain ⟨z, oz, h1, h2, h3, h4⟩ := leanB_ok h
        exact ⟨z + 1, oz, by omega, by simpa using h2, by rw [show p0 + (z + 1) = p0 + 1 + z by omega]; exact h3, h4⟩

theorem pairsAt_ok {q : Nat} {y : Oper} {m : Nat} : ∀ {l : List Oper} {p0 : Nat}, pairsAt P ops ps q y m p0 l = true → ∀ (p : Nat) (x : Oper), l[p]? = some x → p0 + p < q → m.testBit (p0 + p) = true ∨ (x.apart ops y = true ∧ (memFree P ps (p0 + p) q x y = true ∨
      (kindOf P y = .look ∧ ∃ (z : Nat) (oz : Oper), p < z ∧ p0 + z < q ∧ l[z]? = some oz ∧ m.testBit (p0 + z) = true ∧ (kindOf P oz = .alloc ∨ kindOf P oz = .hard) ∧ oz.guard = none)))
  | [], _, _, p, x, h, _ => by simp at h
  | z :: l, p0, h, p, x, hx, hlt => by
    have hb : Nat.blt p0 q = true := by rw [Nat.blt_eq]; omega
    simp only [pairsAt, hb, cond_true, Bool.and_eq_true, Bool.or_eq_true] at h
    cases p with
    | zero =>
      simp only [List.getElem?_cons_zero, Option.some.injEq] at hx; subst hx
      rw [← bitB_eq]
      rcases h.1 with h1 | ⟨h1, h2 | ⟨h2, h3⟩⟩
      · exact .inl h1
      · exact .inr ⟨h1, .inl h2⟩
      · obtain ⟨zz, oz, k1, k2, k3, k4⟩ := leanB_ok h3
        refine .inr ⟨h1, .inr ⟨?_, zz + 1, oz, by omega, by omega, by simpa using k2, by rw [show p0 + (zz + 1) = p0 + 1 + zz by omega]; exact k3, k4⟩⟩
        cases hk : kindOf P y <;> rw [hk] at h2 <;> first | rfl | cases h2
    | succ p =>
      rw [List.getElem?_cons_succ] at hx
      have := pairsAt_ok h.2 p x hx (by omega)
      rw [show p0 + 1 + p = p0 + (p + 1) by omega] at this
      rcases this with h1 | ⟨h1, h2 | ⟨h2, zz, oz, k1, k2, k3, k4, k5⟩⟩
      · exact .inl h1
      · exact .inr ⟨h1, .inl h2⟩
      · exact .inr ⟨h1, .inr ⟨h2, zz + 1, oz, by omega, by omega, by simpa using k3, by rw [show p0 + (zz + 1) = p0 + 1 + zz by omega]; exact k4, k5⟩⟩

theorem pairsAll_ok {ms : List Nat} : ∀ {l : List Oper} {q0 : Nat}, pairsAll P ops ps os ms q0 l = true → ∀ (q : Nat) (y : Oper), l[q]? = some y → pairsAt P ops ps (q0 + q) y (getD0 ms (q0 + q)) 0 os = true
  | [], _, _, q, o, h => by simp at h
  | x :: l, q0, h, q, o, ho => by
    simp only [pairsAll, Bool.and_eq_true] at h
    cases q with
    | zero => simp only [List.getElem?_cons_zero, Option.some.injEq] at ho; subst ho; exact h.1
    | succ q =>
      rw [List.getElem?_cons_succ] at ho
      have := pairsAll_ok h.2 q o ho
      rwa [show q0 + 1 + q = q0 + (q + 1) by omega] at this

theorem belowB_ok {n : Nat} : ∀ {l : List Nat}, belowB n l = true → ∀ i ∈ l, i < n
  | [], _, i, h => by cases h
  | j :: l, h, i, hi => by
    simp only [belowB, Bool.and_eq_true] at h
    rcases List.mem_cons.1 hi with rfl | hi
    · simpa [Nat.blt_eq] using h.1
    · exact belowB_ok h.2 i hi

theorem coverB_ok : ∀ {n : Nat}, coverB ord n = true → ∀ i, i < n → i ∈ ord
  | 0, _, i, h => by omega
  | n + 1, h, i, hi => by
    simp only [coverB, Bool.and_eq_true] at h
    by_cases hin : i = n
    · subst hin; exact natElem_iff.1 h.1
    · exact coverB_ok h.2 i (by omega)

theorem filterMap_get {l : List Nat} (h : ∀ i ∈ l, i < ops.size) : (l.filterMap fun i => ops[i]?).length = l.length ∧ ∀ (p i : Nat), l[p]? = some i → (l.filterMap fun i => ops[i]?)[p]? = ops[i]? := by
  induction l with
  | nil => exact ⟨rfl, fun p i h => by simp at h⟩
  | cons j l ih =>
    obtain ⟨h1, h2⟩ := ih fun i hi => h i (by simp [hi])
    have hj : j < ops.size := h j (by simp)
    have hcons : ((j :: l).filterMap fun i => ops[i]?) = ops[j] :: (l.filterMap fun i => ops[i]?) := by simp [hj]
    rw [hcons]
    refine ⟨by simp [h1], fun p i hp => ?_⟩
    cases p with
    | zero =>
      simp only [List.getElem?_cons_zero, Option.some.injEq] at hp
      subst hp; simp [hj]
    | succ p =>
      rw [List.getElem?_cons_succ] at hp ⊢
      exact h2 p i hp

theorem planOps_eq (plan : Option (List Nat)) : planOps ops plan = (ordOf ops plan).filterMap fun i => ops[i]? := by
  cases plan with
  | some l => rfl
  | none =>
    have := filterMap_range ops.toList
    simp only [planOps, ordOf]
    simpa using this.symm

theorem planOkB_ok {plan : Option (List Nat)} (h : planOkB P ops plan ps = true) : PlanOk P ops (planOps ops plan) (ordOf ops plan) ps := by
  simp only [planOkB, Bool.and_eq_true] at h
  obtain ⟨⟨⟨⟨h1, h2⟩, h3⟩, h4⟩, h5⟩ := h
  rw [planOps_eq] at h4 h5 ⊢
  generalize ordOf ops plan = ord at *
  obtain ⟨f1, f2⟩ := filterMap_get (ops := ops) (belowB_ok h2)
  have hos : ∀ (q : Nat) (o : Oper), (ord.filterMap fun i => ops[i]?)[q]? = some o → ∃ i, ord[q]? = some i ∧ ops[i]? = some o := by
    intro q o ho
    have hlt : q < ord.length := by
      rw [← f1]
      rcases Nat.lt_or_ge q (ord.filterMap fun i => ops[i]?).length with h | h
      · exact h
      · rw [List.getElem?_eq_none h] at ho; cases ho
    refine ⟨ord[q], List.getElem?_eq_getElem hlt, ?_⟩
    rw [← f2 q _ (List.getElem?_eq_getElem hlt)]; exact ho
  have hedge : ∀ (q : Nat) (o : Oper), (ord.filterMap fun i => ops[i]?)[q]? = some o → ∀ e ∈ o.after, Region.binds .any e = true → posIn e.on ord < q ∧ e.on ∈ ord := by
    intro q o ho e he hb
    have := edgesAll_ok h4 q o ho
    rw [Nat.zero_add] at this
    exact edgesB_ok this e (by simpa using he) hb
  have hmask := masks_ok (ops := ops) (ord := ord) (fun q o ho e he hb => (hedge q o ho e he hb).2) hos _ [] rfl (fun q m hq => by simp at hq)
  refine ⟨f1, fun p hp => ?_, nodupB_ok h1, fun i hi => ?_, fun q i y hi hy e he hb => ?_, fun p q x y hpq hx hy => ?_⟩
  · have hg := List.getElem?_eq_getElem hp
    have hlt := belowB_ok h2 _ (List.getElem_mem hp)
    exact ⟨ord[p], ops[ord[p]], hg, Array.getElem?_eq_getElem hlt, by rw [f2 p _ hg]; exact Array.getElem?_eq_getElem hlt⟩
  · exact List.getElem?_of_mem (coverB_ok h3 i hi)
  · have ho : (ord.filterMap fun i => ops[i]?)[q]? = some y := by rw [f2 q i hi]; exact hy
    obtain ⟨k1, k2⟩ := hedge q y ho e he hb
    exact ⟨_, k1, posIn_get k2⟩
  · have := pairsAll_ok h5 q y hy
    rw [Nat.zero_add] at this
    have := pairsAt_ok this p x hx (by omega)
    simp only [Nat.zero_add] at this
    have bits : ∀ z : Nat, (getD0 (masks ord (ord.filterMap fun i => ops[i]?) []) q).testBit z = true → Before ops ord z q := by
      intro z hb
      rw [getD0_get] at hb
      cases hg : (masks ord (ord.filterMap fun i => ops[i]?) [])[q]? with
      | none => rw [hg] at hb; simp at hb
      | some m => rw [hg] at hb; exact hmask q m hg z hb
    rcases this with hb | ⟨h1, h2 | ⟨h2, z, oz, k1, k2, k3, k4, k5⟩⟩
    · exact .inl (bits p hb)
    · exact .inr ⟨h1, .inl h2⟩
    · exact .inr ⟨h1, .inr ⟨h2, z, oz, k1, k2, k3, bits z k4, k5⟩⟩

theorem plansB_ok {f : FuncId} : ∀ {c : Code}, plansB P C f c = true → PlansOk P C f c
  | .region id ops false, _ => trivial
  | .region id ops true, h => by
    intro plan ps hplan
    simp only [plansB, Bool.not_true, Bool.false_or, hplan] at h
    exact ⟨_, planOkB_ok h⟩
  | .seq a b, h => by simp only [plansB, Bool.and_eq_true] at h; exact ⟨plansB_ok h.1, plansB_ok h.2⟩
  | .cond _ a b, h => by simp only [plansB, Bool.and_eq_true] at h; exact ⟨plansB_ok h.1, plansB_ok h.2⟩
  | .block _ a, h => by exact plansB_ok (c := a) h
  | .loop a, h => by exact plansB_ok (c := a) h
  | .skip, _ => trivial
  | .ret, _ => trivial
  | .exit _, _ => trivial
  | .rangeFunc _ _ _ _, _ => trivial
  | .scope _, _ => trivial
  | .goto _, _ => trivial
  | .label _, _ => trivial
  | .refuse _, _ => trivial

theorem plansL_ok : ∀ {l : List Func} {i0 : Nat}, plansL P C i0 l = true → ∀ (i : Nat) (fn : Func) (c : Code), l[i]? = some fn → fn.body = some c → PlansOk P C (i0 + i) c
  | [], _, _, i, fn, c, h, _ => by simp at h
  | x :: l, i0, h, i, fn, c, hi, hb => by
    simp only [plansL, Bool.and_eq_true] at h
    cases i with
    | zero =>
      simp only [List.getElem?_cons_zero, Option.some.injEq] at hi
      subst hi
      rw [hb] at h
      exact plansB_ok h.1
    | succ i =>
      rw [List.getElem?_cons_succ] at hi
      have := plansL_ok h.2 i fn c hi hb
      rwa [show i0 + 1 + i = i0 + (i + 1) by omega] at this

theorem allPlans_of (h : plansL P C 0 P.funcs.toList = true) : AllPlans P C := by
  intro f fn c hf hb
  have := plansL_ok h f fn c (by simpa using hf) hb
  rwa [Nat.zero_add] at this

end
end Go.Am
