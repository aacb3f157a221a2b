import Derived.Test.YthnjfgjbgblciaaGreatDoorAm24
/-
  THE ABSTRACT MACHINE, 25: a region that draws its order: all orders.
-/
namespace Go.Am

section
variable {P : Program} {C : Cfg} {call : CallFn} {ops : Array Oper} {os : List Oper} {ord : List Nat} {ps : List (Nat × Nat)} {s : St} {S : Nat → St} {ran : Nat → Bool} {val : Nat → Value}
variable {r0 : Ren} {m0 : Mem} {w0 : World} {Q : Exit → Act → World → Prop}

/-- The positions of what is listed. -/
def Lof (ord : List Nat) (listed : Array Bool) (p : Nat) : Prop := ∃ i, ord[p]? = some i ∧ listed.getD i false = true

theorem Lof.set (hp : PlanOk P ops os ord ps) {listed : Array Bool} {p i : Nat} (hi : ord[p]? = some i) (hlt : i < listed.size) : Lof ord (listed.setIfInBounds i true) = fun q => Lof ord listed q ∨ q = p := by
  funext q
  apply propext
  constructor
  · rintro ⟨j, h1, h2⟩
    by_cases hji : j = i
    · subst hji; exact .inr (hp.inj q p j h1 hi)
    · refine .inl ⟨j, h1, ?_⟩
      rw [Array.getD_eq_getD_getElem?, Array.getElem?_setIfInBounds_ne (Ne.symm hji)] at h2
      rw [Array.getD_eq_getD_getElem?]; exact h2
  · rintro (⟨j, h1, h2⟩ | rfl)
    · refine ⟨j, h1, ?_⟩
      by_cases hji : j = i
      · subst hji; rw [Array.getD_eq_getD_getElem?, Array.getElem?_setIfInBounds_self_of_lt hlt]; rfl
      · rw [Array.getD_eq_getD_getElem?, Array.getElem?_setIfInBounds_ne (Ne.symm hji)]
        rw [Array.getD_eq_getD_getElem?] at h2; exact h2
    · exact ⟨i, hi, by rw [Array.getD_eq_getD_getElem?, Array.getElem?_setIfInBounds_self_of_lt hlt]; rfl⟩

theorem all_of_ready (hp : PlanOk P ops os ord ps) {listed : Array Bool} (hsz : listed.size = ops.size) (hnil : Region.ready .any ops listed = []) : ∀ p : Nat, p < os.length → Lof ord listed p := by
  intro p
  induction p using Nat.strongRecOn with
  | _ p ih =>
    intro hlt
    obtain ⟨i, o, h1, h2, h3⟩ := hp.get p (by rw [← hp.len]; exact hlt)
    cases hb : listed.getD i false with
    | true => exact ⟨i, h1, hb⟩
    | false =>
      exfalso
      have hi : i < ops.size := by
        rcases Nat.lt_or_ge i ops.size with h | h
        · exact h
        · rw [Array.getElem?_eq_none h] at h2; cases h2
      have hmem : i ∈ Region.ready .any ops listed := by
        rw [mem_ready]
        refine ⟨?_, o, h2, fun e he hbd => ?_⟩
        · rw [Array.getD_eq_getD_getElem?, Array.getElem?_eq_getElem (by omega)] at hb ⊢
          exact hb
        · obtain ⟨k, hk1, hk2⟩ := hp.edge p i o h1 h2 e he hbd
          obtain ⟨j, hj1, hj2⟩ := ih k hk1 (by omega)
          rw [hk2] at hj1; cases hj1; exact hj2
      rw [hnil] at hmem; cases hmem

/-- At the end. -/
theorem Inv.done (_hp : PlanOk P ops os ord ps) (ht : Tra P C call ops os ps s S ran val) {L : Nat → Prop} {t : Nat} {r : Ren} {a : Act} {w : World} (h : Inv P C ops os s S ran val r0 m0 w0 L t r a w) (hall : ∀ p : Nat, p < os.length → L p) : Post P r0 m0 w0 (S os.length) a w := by
  have hA := h.ahead ht (os.length - t) os.length (by have := h.tn; omega) (Nat.le_refl _) fun q o h1 h2 h3 h4 h5 => absurd (h.hmax q o h3 (hall q h2) ⟨h4, .inr h5⟩) (by omega)
  obtain ⟨hn, hregs⟩ := ht.regs os.length (Nat.le_refl _)
  refine ⟨r, hA.hm, hA.evo, ⟨by rw [hn]; exact h.size, fun d => ?_⟩, h.defers⟩
  by_cases hd : d < s.n
  · refine ((h.regs d).1 hd).same ((hregs d).1 hd) fun q o hq _ => ?_
    have hlt : q < os.length := by
      rcases Nat.lt_or_ge q os.length with h | h
      · exact h
      · rw [List.getElem?_eq_none h] at hq; cases hq
    exact ⟨fun _ => hlt, fun _ => hall q hlt⟩
  · rw [(hregs d).2 (Nat.le_of_not_lt hd)]
    exact (h.regs d).2 (Nat.le_of_not_lt hd)

theorem count_set_true {listed : Array Bool} {i : Nat} (hlt : i < listed.size) (hf : listed.getD i true = false) : (listed.setIfInBounds i true).toList.count false + 1 = listed.toList.count false := by
  have hi : listed.toList[i]'(by simpa using hlt) = false := by
    rw [Array.getD_eq_getD_getElem?, Array.getElem?_eq_getElem hlt] at hf
    simpa using hf
  rw [Array.toList_setIfInBounds, List.count_set (by simpa using hlt), hi]
  have hpos : 0 < listed.toList.count false := List.count_pos_iff.2 (by rw [← hi]; exact List.getElem_mem _)
  show List.count false listed.toList - 1 + 0 + 1 = List.count false listed.toList
  omega

theorem any_sound (hP : PGood P) (hfl : ∀ t, C.flats.contains t = true → FlatOk P t) (hcall : CallOk P call) (hp : PlanOk P ops os ord ps) (ht : Tra P C call ops os ps s S ran val) (hend : ∀ a w, Post P r0 m0 w0 (S os.length) a w → Q .normal a w) :
    ∀ (fuel : Nat) (listed : Array Bool) (t : Nat) (r : Ren) (a : Act) (w : World), listed.size = ops.size → listed.toList.count false ≤ fuel → Closed ops ord (Lof ord listed) →
      Inv P C ops os s S ran val r0 m0 w0 (Lof ord listed) t r a w → Last P os ran (Lof ord listed) t → wpAny P .any ops Q fuel listed a w
  | 0, listed, t, r, a, w, hsz, hc, hcl, h, hlast => by
    have hnil : Region.ready .any ops listed = [] := by
      rw [List.eq_nil_iff_forall_not_mem]
      intro j hj
      rw [mem_ready] at hj
      obtain ⟨h1, o, h2, _⟩ := hj
      have hj : j < listed.size := by
        rcases Nat.lt_or_ge j listed.size with h | h
        · exact h
        · rw [Array.getD_eq_getD_getElem?, Array.getElem?_eq_none h] at h1; cases h1
      have := count_set_true hj h1
      omega
    exact ⟨hnil, hend a w (h.done hp ht (all_of_ready hp hsz hnil))⟩
  | fuel + 1, listed, t, r, a, w, hsz, hc, hcl, h, hlast => by
    refine ⟨fun hnil => hend a w (h.done hp ht (all_of_ready hp hsz hnil)), fun i hi => ?_⟩
    rw [mem_ready] at hi
    obtain ⟨h1, o, h2, h3⟩ := hi
    have hilt : i < ops.size := by
      rcases Nat.lt_or_ge i ops.size with h | h
      · exact h
      · rw [Array.getElem?_eq_none h] at h2; cases h2
    obtain ⟨p, hpi⟩ := hp.surj i hilt
    have hplt : p < ord.length := by
      rcases Nat.lt_or_ge p ord.length with h | h
      · exact h
      · rw [List.getElem?_eq_none h] at hpi; cases hpi
    have hos : os[p]? = some o := by
      obtain ⟨i', o', k1, k2, k3⟩ := hp.get p hplt
      rw [hpi] at k1; cases k1
      rw [h2] at k2; cases k2
      exact k3
    have hn : Next ops os ord (Lof ord listed) p o := by
      refine ⟨hcl, hos, ?_, fun e he hb k hk => ⟨e.on, hk, h3 e he hb⟩⟩
      rintro ⟨j, k1, k2⟩
      rw [hpi] at k1; cases k1
      rw [Array.getD_eq_getD_getElem?, Array.getElem?_eq_getElem (by omega)] at h1 k2
      simp only [Option.getD_some] at h1 k2
      rw [h1] at k2; cases k2
    have hset := Lof.set hp hpi (listed := listed) (by omega)
    have := h.exec (Q := Q) hP hfl hcall hp ht hlast hn (K := wpAny P .any ops Q fuel (listed.setIfInBounds i true)) fun t' r' a' w' hinv hlast' => by
      refine any_sound hP hfl hcall hp ht hend fuel _ t' r' a' w' (by simpa using hsz) ?_ ?_ (by rw [hset]; exact hinv) (by rw [hset]; exact hlast')
      · have := count_set_true (listed := listed) (i := i) (by omega) h1
        omega
      · rw [hset]; exact hn.closed' hp
    unfold wpOp
    simp only [h2]
    exact this

theorem trace_tra : ∀ (l : List Oper) (acc : List TE) (s s' : St) (tr : List TE), aTrace P C call ops l acc s = some (tr, s') →
    ∃ (S : Nat → St) (ran : Nat → Bool) (val : Nat → Value), S 0 = s ∧ S l.length = s' ∧ (∀ (p : Nat) (o : Oper), l[p]? = some o → AStep P C call ops o (S p) (ran p) (val p) (S (p + 1))) ∧
      tr.reverse = acc.reverse ++ (List.range l.length).map fun p => ⟨(S p).m.t, (S p).rs, ran p, val p⟩
  | [], acc, s, s', tr, h => by
    cases h
    exact ⟨fun _ => s, fun _ => false, fun _ => undef, rfl, rfl, fun p o ho => by simp at ho, by simp⟩
  | o :: l, acc, s, s', tr, h => by
    replace h : aTrace1 P C call ops o (aTrace P C call ops l) acc s = some (tr, s') := h
    unfold aTrace1 at h
    have fin : ∀ (b : Bool) (v : Value) (s1 : St), AStep P C call ops o s b v s1 → aTrace P C call ops l (⟨s.m.t, s.rs, b, v⟩ :: acc) s1 = some (tr, s') →
        ∃ (S : Nat → St) (ran : Nat → Bool) (val : Nat → Value), S 0 = s ∧ S (o :: l).length = s' ∧ (∀ (p : Nat) (o' : Oper), (o :: l)[p]? = some o' → AStep P C call ops o' (S p) (ran p) (val p) (S (p + 1))) ∧
          tr.reverse = acc.reverse ++ (List.range (o :: l).length).map fun p => ⟨(S p).m.t, (S p).rs, ran p, val p⟩ := by
      intro b v s1 hst htr
      obtain ⟨S, ran, val, h1, h2, h3, h4⟩ := trace_tra l _ s1 s' tr htr
      refine ⟨fun p => match p with | 0 => s | p + 1 => S p, fun p => match p with | 0 => b | p + 1 => ran p, fun p => match p with | 0 => v | p + 1 => val p, rfl, h2, fun p o' ho' => ?_, ?_⟩
      · cases p with
        | zero => simp at ho'; subst ho'; simp only [h1]; exact hst
        | succ p => exact h3 p o' (by simpa using ho')
      · rw [h4, List.reverse_cons, List.append_assoc, List.length_cons, List.range_succ_eq_map, List.map_cons, List.map_map]
        rfl
    cases hw : wantA ops s.rs o with
    | none => simp [hw] at h
    | some b =>
      cases b with
      | true =>
        simp only [hw] at h
        cases hop : aOper P C call s.m s.rs o with
        | none => simp [hop] at h
        | some vm =>
          obtain ⟨v, m1⟩ := vm
          simp only [hop] at h
          exact fin true v ⟨s.n, put s.n s.rs o.dst v, m1⟩ ⟨hw, fun _ => hop, (fun hh => by cases hh), rfl, rfl⟩ h
      | false =>
        simp only [hw] at h
        exact fin false undef ⟨s.n, put s.n s.rs o.dst undef, s.m⟩ ⟨hw, (fun hh => by cases hh), fun _ => ⟨rfl, rfl⟩, rfl, rfl⟩ h

theorem ops_trace : ∀ (l : List Oper) (acc : List TE) (s s' : St), aOps P C call ops l s = some s' → ∃ tr, aTrace P C call ops l acc s = some (tr, s')
  | [], acc, s, s', h => by cases h; exact ⟨acc, rfl⟩
  | o :: l, acc, s, s', h => by
    rw [aOps_cons] at h
    unfold aOps1 at h
    show ∃ tr, aTrace1 P C call ops o (aTrace P C call ops l) acc s = some (tr, s')
    unfold aTrace1
    cases hw : wantA ops s.rs o with
    | none => simp [hw] at h
    | some b =>
      cases b with
      | true =>
        simp only [hw] at h
        cases hop : aOper P C call s.m s.rs o with
        | none => simp [hop] at h
        | some vm =>
          simp only [hop] at h
          exact ops_trace l _ _ _ h
      | false =>
        simp only [hw] at h
        exact ops_trace l _ _ _ h

theorem hasPair_mem {p q : Nat} : ∀ {l : List (Nat × Nat)}, hasPair p q l = true → (p, q) ∈ l
  | (x, y) :: l, h => by
    simp only [hasPair, Bool.or_eq_true, Bool.and_eq_true] at h
    rcases h with ⟨h1, h2⟩ | h
    · rw [Nat.eq_of_beq_eq_true h1, Nat.eq_of_beq_eq_true h2]; simp
    · exact List.mem_cons_of_mem _ (hasPair_mem h)

theorem allL_mem {α : Type} {f : α → Bool} : ∀ {l : List α}, allL f l = true → ∀ x ∈ l, f x = true
  | [], _, x, hx => by cases hx
  | y :: l, h, x, hx => by
    simp only [allL, Bool.and_eq_true] at h
    rcases List.mem_cons.1 hx with rfl | hx
    · exact h.1
    · exact allL_mem h.2 x hx

theorem drawn_tra {f : FuncId} {id : Nat} {s' : St} {plan : Option (List Nat)} (hplan : C.plan f id = some (plan, ps)) (h : aDrawn P C call f id ops s = some s') :
    ∃ (S : Nat → St) (ran : Nat → Bool) (val : Nat → Value), S (planOps ops plan).length = s' ∧ Tra P C call ops (planOps ops plan) ps s S ran val := by
  unfold aDrawn at h
  rw [hplan] at h
  have main : ∀ tr, aTrace P C call ops (planOps ops plan) [] s = some (tr, s') → allL (pairOk P C (planOps ops plan) tr.reverse s'.m.t) ps = true →
      ∃ (S : Nat → St) (ran : Nat → Bool) (val : Nat → Value), S (planOps ops plan).length = s' ∧ Tra P C call ops (planOps ops plan) ps s S ran val := by
    intro tr htr hall
    obtain ⟨S, ran, val, h1, h2, h3, h4⟩ := trace_tra _ _ _ _ _ htr
    refine ⟨S, ran, val, h2, h1, h3, fun p q x hpq hx hq hrp hrq => ?_⟩
    have hok := allL_mem hall _ (hasPair_mem hpq)
    have hget : ∀ k : Nat, k < (planOps ops plan).length → tr.reverse[k]? = some ⟨(S k).m.t, (S k).rs, ran k, val k⟩ := fun k hk => by
      rw [h4]; simp [hk]
    have hp : p < (planOps ops plan).length := by
      rcases Nat.lt_or_ge p (planOps ops plan).length with h | h
      · exact h
      · rw [List.getElem?_eq_none h] at hx; cases hx
    unfold pairOk at hok
    rw [hget p hp, hget q hq, hx] at hok
    simp only [hrp, hrq, Bool.and_self, if_true] at hok
    have fin : ∀ t : Tr, (match opR P C.flats t (S p).rs x with | some (.val v) => sameV v (val p) | _ => false) = true → opR P C.flats t (S p).rs x = some (.val (val p)) := by
      intro t hok
      cases hres : opR P C.flats t (S p).rs x with
      | none => rw [hres] at hok; cases hok
      | some res =>
        rw [hres] at hok
        cases res <;> try (cases hok; done)
        rw [sameV_eq hok]
    by_cases hlt : p < q
    · rw [if_pos hlt] at hok ⊢
      rcases Nat.lt_or_ge (q + 1) (planOps ops plan).length with h | h
      · rw [hget _ h] at hok
        exact fin _ hok
      · have hnone : tr.reverse[q + 1]? = none := by rw [h4]; simp; omega
        rw [hnone] at hok
        have : q + 1 = (planOps ops plan).length := by omega
        rw [this, h2]
        exact fin _ hok
    · rw [if_neg hlt] at hok ⊢
      exact fin _ hok
  cases ps with
  | nil =>
    simp only at h
    obtain ⟨tr, htr⟩ := ops_trace _ [] _ _ h
    exact main tr htr rfl
  | cons x l =>
    simp only at h
    cases htr : aTrace P C call ops (planOps ops plan) [] s with
    | none => simp [htr] at h
    | some q =>
      obtain ⟨tr, s2⟩ := q
      simp only [htr] at h
      split at h <;> cases h
      rename_i hall
      exact main tr htr hall

theorem drawn_sound (hP : PGood P) (hfl : ∀ t, C.flats.contains t = true → FlatOk P t) (hcall : CallOk P call) {f : FuncId} {id : Nat} {s' : St} {plan : Option (List Nat)} (hplan : C.plan f id = some (plan, ps))
    (hp : PlanOk P ops (planOps ops plan) ord ps) (h : aDrawn P C call f id ops s = some s') (hend : ∀ a w, Post P r0 m0 w0 s' a w → Q .normal a w) {a : Act} {w : World} (hpost : Post P r0 m0 w0 s a w) : (Code.region id ops true).wp P Q a w := by
  obtain ⟨S, ran, val, h1, h2⟩ := drawn_tra hplan h
  refine wp_region_any hP.mixed ?_
  obtain ⟨r, hm, he, hr, hd⟩ := hpost
  have hno : ∀ p, ¬ Lof ord (Array.replicate ops.size false) p := by
    rintro p ⟨i, k1, k2⟩
    rw [Array.getD_eq_getD_getElem?, Array.getElem?_replicate] at k2
    split at k2 <;> simp at k2
  refine any_sound hP hfl hcall hp h2 (by rw [h1]; exact hend) ops.size _ 0 r a _ (by simp) (by simp) (fun j i y _ _ hl => absurd hl (hno j)) ?_ (.inl rfl)
  refine ⟨Nat.zero_le _, fun p o _ hl => absurd hl (hno p), fun p o hp => absurd hp (Nat.not_lt_zero _), by rw [h2.zero]; exact hm.drawn _, by rw [h2.zero]; exact he.trans (Evo.drawn _ _ _ _), fun p o hp => absurd hp (Nat.not_lt_zero _),
    fun p q o o' _ hq => absurd hq (Nat.not_lt_zero _), fun d => ⟨fun _ => .inr ⟨fun q o' hl => absurd hl (hno q), hr.get d⟩, fun _ => hr.get d⟩, hr.size, hd⟩

end
end Go.Am
