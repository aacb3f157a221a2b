import Derived.Test.YthnjfgjbgblciaaGreatDoorAm23
/-
  THE ABSTRACT MACHINE, 24: a region that draws its order, whole.
-/
namespace Go.Am

section
variable {P : Program} {C : Cfg} {call : CallFn} {ops : Array Oper} {os : List Oper} {ord : List Nat} {ps : List (Nat × Nat)} {s : St} {S : Nat → St} {ran : Nat → Bool} {val : Nat → Value}
variable {r0 : Ren} {m0 : Mem} {w0 : World} {L : Nat → Prop} {t : Nat} {r : Ren} {a : Act} {w : World} {p : Nat} {o : Oper} {K : Act → World → Prop} {Q : Exit → Act → World → Prop}

theorem Inv.stepped (hp : PlanOk P ops os ord ps) (h : Inv P C ops os s S ran val r0 m0 w0 L t r a w) (hn : Next ops os ord L p o) {t' : Nat} (htt : t ≤ t') (ht' : t' ≤ os.length) (hmx : Acts P ran p o → p < t')
    (hpr : ∀ (q : Nat) (o' : Oper), t ≤ q → q < t' → os[q]? = some o' → Acts P ran q o' → q = p)
    {r1 : Ren} {w' : World} {v' : Value} (h1 : HRel P r1 (S t').m w') (h2 : Evo r (S t).m w r1 (S t').m w') (h3 : VRel r1 (val p) v') : Inv P C ops os s S ran val r0 m0 w0 (fun q => L q ∨ q = p) t' r1 (a.put o.dst v') w' := by
  refine ⟨ht', ?_, ?_, h1, h.evo.trans h2, ?_, ?_, h.regs' hp hn h2.ext h3, by rw [put_size]; exact h.size, by rw [put_defers]; exact h.defers⟩
  · intro q o' ho' hl ha
    rcases hl with hl | hl
    · exact Nat.lt_of_lt_of_le (h.hmax q o' ho' hl ha) htt
    · subst hl; rw [hn.os] at ho'; cases ho'; exact hmx ha
  · intro q o' hq ho' hr hk
    rcases Nat.lt_or_ge q t with hlt | hge
    · exact .inl (h.hpre q o' hlt ho' hr hk)
    · exact .inr (hpr q o' hge hq ho' ⟨hr, .inr hk⟩)
  · intro q o' hq ho' hr hk hnl
    rcases Nat.lt_or_ge q t with hlt | hge
    · obtain ⟨k1, k2, k3, k4⟩ := h.pend q o' hlt ho' hr hk (fun hh => hnl (.inl hh))
      obtain ⟨e1, e2⟩ := h2.hid _ k4 k1
      exact ⟨e1, e2.trans k2, k3, Nat.lt_of_lt_of_le k4 h2.num⟩
    · exact absurd (.inr (hpr q o' hge hq ho' ⟨hr, .inl hk⟩)) hnl
  · intro i j oi oj hij hj hi1 hj1 ri rj ki kj li lj
    rcases Nat.lt_or_ge j t with hlt | hge
    · exact h.dist i j oi oj hij hlt hi1 hj1 ri rj ki kj (fun hh => li (.inl hh)) (fun hh => lj (.inl hh))
    · exact absurd (.inr (hpr j oj hge hj hj1 ⟨rj, .inl kj⟩)) lj

/-- No executed operation lies behind; one that acts and is planned between is yet to come, and may come later. -/
theorem Inv.between (hp : PlanOk P ops os ord ps) (h : Inv P C ops os s S ran val r0 m0 w0 L t r a w) (hn : Next ops os ord L p o) (hk : kindOf P o = .alloc ∨ kindOf P o = .hard) (q : Nat) (o' : Oper) (htq : t ≤ q) (hqp : q < p) (ho' : os[q]? = some o')
    (hr : ran q = true) : kindOf P o' ≠ .hard := by
  intro hk'
  have hnl : ¬ L q := fun hl => absurd (h.hmax q o' ho' hl ⟨hr, .inr hk'⟩) (by omega)
  rcases hp.pair q p o' o hqp ho' hn.os with hb | ⟨_, hmf | hmf⟩
  · exact hnl (hn.of_before hp hb (by omega))
  · unfold memFree at hmf
    rw [hk'] at hmf
    rcases hk with hk | hk <;> rw [hk] at hmf <;> simp at hmf
  · have h0 := hmf.1
    rcases hk with hk | hk <;> rw [hk] at h0 <;> cases h0

/-- What looks at memory sees the same, whatever stands there now. -/
theorem Inv.sees (hp : PlanOk P ops os ord ps) (ht : Tra P C call ops os ps s S ran val) (h : Inv P C ops os s S ran val r0 m0 w0 L t r a w) (hlast : t = 0 ∨ ∃ o', os[t - 1]? = some o' ∧ L (t - 1) ∧ Acts P ran (t - 1) o')
    (hn : Next ops os ord L p o) (hr : ran p = true) (hk : kindOf P o = .look) : opR P C.flats (S t).m.t (S p).rs o = some (.val (val p)) := by
  have hlt : p < os.length := by
    rcases Nat.lt_or_ge p os.length with h | h
    · exact h
    · have := hn.os; rw [List.getElem?_eq_none h] at this; cases this
  have here : opR P C.flats (S p).m.t (S p).rs o = some (.val (val p)) := by
    obtain ⟨_, h2, _, _, _⟩ := ht.step p o hn.os
    have hop := h2 hr
    unfold aOper at hop
    cases hres : opR P C.flats (S p).m.t (S p).rs o with
    | none => simp [hres] at hop
    | some res =>
      obtain ⟨v, rfl⟩ := look_val hk hres
      simp only [hres, Option.some.injEq, Prod.mk.injEq] at hop
      rw [hop.1]
  rcases Nat.lt_or_ge p t with hpt | htp
  · -- the memory is behind p
    rcases hlast with h0 | ⟨o', ho', hl, hact⟩
    · omega
    · have hne : t - 1 ≠ p := fun e => hn.new (e ▸ hl)
      have hlt' : p < t - 1 := by omega
      have hlt2 : t - 1 < os.length := by have := h.tn; omega
      rcases hp.pair p (t - 1) o o' hlt' hn.os ho' with hb | ⟨_, hmf | hmf⟩
      · exact absurd hl (hn.not_before hb)
      rotate_left
      · have h0 := hmf.1
        rcases hact.2 with hk' | hk' <;> rw [hk'] at h0 <;> cases h0
      · have hpair : hasPair p (t - 1) ps = true := by
          unfold memFree at hmf
          rw [hk] at hmf
          rcases hact.2 with hk' | hk' <;> rw [hk'] at hmf <;> simpa using hmf
        have := ht.told p (t - 1) o hpair hn.os hlt2 hr hact.1
        rw [if_pos hlt', show t - 1 + 1 = t from by omega] at this
        exact this
  · -- the first that acts from t on
    by_cases hex : ∃ (q : Nat) (o' : Oper), t ≤ q ∧ q < p ∧ os[q]? = some o' ∧ Acts P ran q o'
    · -- take the least
      have least : ∃ (q : Nat) (o' : Oper), t ≤ q ∧ q < p ∧ os[q]? = some o' ∧ Acts P ran q o' ∧ (S q).m = (S t).m := by
        obtain ⟨q, o', h1, h2, h3, h4⟩ := hex
        have go : ∀ (k q : Nat) (o' : Oper), q = t + k → q < p → os[q]? = some o' → Acts P ran q o' → ∃ (q : Nat) (o' : Oper), t ≤ q ∧ q < p ∧ os[q]? = some o' ∧ Acts P ran q o' ∧ (S q).m = (S t).m := by
          intro k
          induction k using Nat.strongRecOn with
          | _ k ih =>
            intro q o' e h2 h3 h4
            by_cases hex2 : ∃ (q' : Nat) (o2 : Oper), t ≤ q' ∧ q' < q ∧ os[q']? = some o2 ∧ Acts P ran q' o2
            · obtain ⟨q', o2, k1, k2, k3, k4⟩ := hex2
              exact ih (q' - t) (by omega) q' o2 (by omega) (by omega) k3 k4
            · refine ⟨q, o', by omega, h2, h3, h4, ?_⟩
              have still : ∀ j, t + j ≤ q → (S (t + j)).m = (S t).m := by
                intro j
                induction j with
                | zero => intro _; rfl
                | succ j ihj =>
                  intro hj
                  obtain ⟨o3, ho3⟩ : ∃ o, os[t + j]? = some o := ⟨_, List.getElem?_eq_getElem (by omega)⟩
                  rw [show t + (j + 1) = (t + j) + 1 from rfl, ht.still ho3 (fun hact => hex2 ⟨t + j, o3, by omega, by omega, ho3, hact⟩)]
                  exact ihj (by omega)
              have := still k (by omega)
              rw [← e] at this; exact this
        exact go (q - t) q o' (by omega) h2 h3 h4
      obtain ⟨q, o', h1, h2, h3, h4, h5⟩ := least
      have hnl : ¬ L q := fun hl => absurd (h.hmax q o' h3 hl h4) (by omega)
      rcases hp.pair q p o' o h2 h3 hn.os with hb | ⟨_, hmf | hmf⟩
      · exact absurd (hn.of_before hp hb (by omega)) hnl
      rotate_left
      · obtain ⟨_, z, oz, z1, z2, z3, z4, z5, z6⟩ := hmf
        have hz := hn.of_before hp z4 (by omega)
        obtain ⟨w1, _⟩ := ht.step z oz z3
        have hrz : ran z = true := by
          unfold wantA at w1
          rw [z6] at w1
          exact (Option.some.inj w1).symm
        have := h.hmax z oz z3 hz ⟨hrz, z5⟩
        omega
      · have hpair : hasPair p q ps = true := by
          unfold memFree at hmf
          rcases h4.2 with hk' | hk' <;> rw [hk', hk] at hmf <;> simpa using hmf
        have := ht.told p q o hpair hn.os (by omega) hr h4.1
        rw [if_neg (by omega), h5] at this
        exact this
    · have still : ∀ j, t + j ≤ p → (S (t + j)).m = (S t).m := by
        intro j
        induction j with
        | zero => intro _; rfl
        | succ j ihj =>
          intro hj
          obtain ⟨o3, ho3⟩ : ∃ o, os[t + j]? = some o := ⟨_, List.getElem?_eq_getElem (by omega)⟩
          rw [show t + (j + 1) = (t + j) + 1 from rfl, ht.still ho3 (fun hact => hex ⟨t + j, o3, by omega, by omega, ho3, hact⟩)]
          exact ihj (by omega)
      have := still (p - t) (by omega)
      rw [show t + (p - t) = p from by omega] at this
      rw [← this]; exact here

/-- The memory there is just ahead of what was executed last. -/
def Last (P : Program) (os : List Oper) (ran : Nat → Bool) (L : Nat → Prop) (t : Nat) : Prop := t = 0 ∨ ∃ o', os[t - 1]? = some o' ∧ L (t - 1) ∧ Acts P ran (t - 1) o'

theorem Inv.exec (hP : PGood P) (hfl : ∀ t, C.flats.contains t = true → FlatOk P t) (hcall : CallOk P call) (hp : PlanOk P ops os ord ps) (ht : Tra P C call ops os ps s S ran val) (h : Inv P C ops os s S ran val r0 m0 w0 L t r a w) (hlast : Last P os ran L t)
    (hn : Next ops os ord L p o) (hK : ∀ t' r' a' w', Inv P C ops os s S ran val r0 m0 w0 (fun q => L q ∨ q = p) t' r' a' w' → Last P os ran (fun q => L q ∨ q = p) t' → K a' w') :
    if Region.wanted o (yielded ops a.tmps) then o.wp P a w K Q ∨ (o.asks P a w ∧ LetsOut Q) else K (a.put o.dst undef) w := by
  obtain ⟨s1, s2, s3, s4, s5⟩ := ht.step p o hn.os
  have hlt : p < os.length := by
    rcases Nat.lt_or_ge p os.length with h | h
    · exact h
    · have := hn.os; rw [List.getElem?_eq_none h] at this; cases this
  have hw := want_rel (r := r) (a := a) s1 fun d hd => by
    obtain ⟨j, want, hg, hdd⟩ := hd
    exact h.looked hp ht hn (List.mem_append_right _ (by simp [hg, hdd]))
  have last_mono : Last P os ran (fun q => L q ∨ q = p) t := by
    rcases hlast with h0 | ⟨o', k1, k2, k3⟩
    · exact .inl h0
    · exact .inr ⟨o', k1, .inl k2, k3⟩
  rw [hw]
  cases hr : ran p with
  | false =>
    simp only [Bool.false_eq_true, if_false]
    obtain ⟨hv, _⟩ := s3 hr
    exact hK t r _ w (h.stepped hp hn (Nat.le_refl _) h.tn (fun ha => absurd ha.1 (by rw [hr]; simp)) (fun q o' h1 h2 _ _ => by omega) h.hm (Evo.refl _ _ _) (by rw [hv]; exact VRel.undef r)) last_mono
  | true =>
    simp only [if_true]
    obtain ⟨rs', hrr, heq⟩ := h.masked hp ht hn
    have ev := eval_rel (P := P) h.hm hrr
    have soft : opR P C.flats (S t).m.t (S p).rs o = some (.val (val p)) → (¬ Acts P ran p o) → o.wp P a w K Q ∨ (o.asks P a w ∧ LetsOut Q) := by
      intro hop hna
      have hop' : aOper P C call (S t).m rs' o = some (val p, (S t).m) := by
        unfold aOper
        rw [← opR_congr heq, hop]
      refine oper_step hP hfl hcall h.hm ev hop' (fun r1 v' w' h1 h2 h3 => ?_)
      exact hK t r1 _ w' (h.stepped hp hn (Nat.le_refl _) h.tn (fun ha => absurd ha hna) (fun q o' h1 h2 _ _ => by omega) h1 h2 h3) last_mono
    have fore : (kindOf P o = .alloc ∨ kindOf P o = .hard) → t ≤ p → o.wp P a w K Q ∨ (o.asks P a w ∧ LetsOut Q) := by
      intro hk htp
      have hA := h.ahead ht (p - t) p (by omega) (by omega) fun q o' h1 h2 h3 h4 => h.between hp hn hk q o' h1 h2 h3 h4
      have ev' := eval_rel (P := P) hA.hm hrr
      have hop' : aOper P C call (S p).m rs' o = some (val p, (S (p + 1)).m) := by
        rw [← s2 hr]
        unfold aOper
        rw [← opR_congr heq]
      refine oper_step hP hfl hcall hA.hm ev' hop' (fun r1 v' w' h1 h2 h3 => ?_)
      refine hK (p + 1) r1 _ w' (hA.stepped hp hn (Nat.le_succ _) hlt (fun _ => Nat.lt_succ_self _) (fun q o' h1 h2 _ _ => by omega) h1 h2 h3) (.inr ⟨o, ?_, .inr rfl, ⟨hr, hk⟩⟩)
      exact hn.os
    cases hk : kindOf P o with
    | pure =>
      refine soft ?_ (fun ha => by rcases ha.2 with h' | h' <;> rw [hk] at h' <;> cases h')
      have hop := s2 hr
      unfold aOper at hop
      cases hres : opR P C.flats (S p).m.t (S p).rs o with
      | none => simp [hres] at hop
      | some res =>
        obtain ⟨v, rfl, hall⟩ := pure_val hk hres
        simp only [hres, Option.some.injEq, Prod.mk.injEq] at hop
        rw [hall, hop.1]
    | look =>
      exact soft (h.sees hp ht hlast hn hr hk) (fun ha => by rcases ha.2 with h' | h' <;> rw [hk] at h' <;> cases h')
    | hard =>
      refine fore (.inr hk) ?_
      rcases Nat.lt_or_ge p t with hpt | htp
      · exact absurd (h.hpre p o hpt hn.os hr hk) hn.new
      · exact htp
    | alloc =>
      rcases Nat.lt_or_ge p t with hpt | htp
      · -- pending: it comes late
        obtain ⟨x, u, k1, k2, k3⟩ := ht.makes hn.os hr hk
        obtain ⟨e1, e2, e3, e4⟩ := h.pend p o hpt hn.os hr hk hn.new
        have hop : opR P C.flats (S p).m.t rs' o = some (.alloc x u) := by rw [← opR_congr heq]; exact k1
        obtain ⟨x', u', hxu, hsim⟩ := alloc_sim (w := w) (m := (S p).m) hP ev hk hop
        cases hxu
        obtain ⟨v', ob, e, d, g1, g2, g3⟩ := hsim
        obtain ⟨g4, g5⟩ := g3 _ e1
        have hget : (S t).m.t.get (S p).m.n = some x := by rw [e2, k3]; exact Tri.get_set_same _ _ _
        have hm' := h.hm.late d e1 e4 hget g2 g4
        have hx : Ext r (r.with (S p).m.n e) := Ext.with e e1
        left
        unfold Oper.wp
        rw [g1, Oper.upon_value]
        refine hK t (r.with (S p).m.n e) _ _ ⟨h.tn, ?_, ?_, hm', h.evo.late d e1 e3 g2, ?_, fun i j oi oj hij hj hi1 hj1 ri rj ki kj li lj => h.dist i j oi oj hij hj hi1 hj1 ri rj ki kj (fun hh => li (.inl hh)) (fun hh => lj (.inl hh)), h.regs' hp hn hx (by rw [k2]; exact g5), by rw [put_size]; exact h.size, by rw [put_defers]; exact h.defers⟩ last_mono
        · intro q o' ho' hl ha
          rcases hl with hl | hl
          · exact h.hmax q o' ho' hl ha
          · subst hl; exact hpt
        · intro q o' hq ho' hr' hk'
          exact .inl (h.hpre q o' hq ho' hr' hk')
        · intro q o' hq ho' hr' hk' hnl
          obtain ⟨f1, f2, f3, f4⟩ := h.pend q o' hq ho' hr' hk' (fun hh => hnl (.inl hh))
          refine ⟨?_, f2, f3, f4⟩
          have hqp : q ≠ p := fun hh => hnl (.inr hh)
          rw [Ren.with_ne]
          · exact f1
          · -- the numbers differ
            intro hnum
            rcases Nat.lt_or_gt_of_ne hqp with hlt' | hgt
            · have := h.dist q p o' o hlt' hpt ho' hn.os hr' hr hk' hk (fun hh => hnl (.inl hh)) hn.new; omega
            · have := h.dist p q o o' hgt hq hn.os ho' hr hr' hk hk' hn.new (fun hh => hnl (.inl hh)); omega
      · exact fore (.inl hk) htp

end
end Go.Am
