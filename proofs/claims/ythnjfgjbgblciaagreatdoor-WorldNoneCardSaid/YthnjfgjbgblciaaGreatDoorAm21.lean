import Derived.Test.YthnjfgjbgblciaaGreatDoorAm20
import Derived.Orders
/-
  THE ABSTRACT MACHINE, 21: one operation, and a region in its written order.
-/
namespace Go.Am

/-- What a call leaves. -/
def CallPost (P : Program) (r : Ren) (m : Mem) (w : World) (v : Value) (m' : Mem) : Ending → World → Prop
  | .returned v', w' => ∃ r', HRel P r' m' w' ∧ Evo r m w r' m' w' ∧ VRel r' v v'
  | .panicked _, _ => False
  | .outgrown, _ => False

/-- What answers calls there is right. -/
def CallOk (P : Program) (call : CallFn) : Prop :=
  ∀ f args m v m', call f args m = some (v, m') → ∀ r w args', HRel P r m w → VRelL r args args' → Calls P f ⟨args'⟩ w (CallPost P r m w v m')

/-- A frame's state is as the abstract one, from a start on. -/
def Post (P : Program) (r0 : Ren) (m0 : Mem) (w0 : World) (s : St) (a : Act) (w : World) : Prop :=
  ∃ r, HRel P r s.m w ∧ Evo r0 m0 w0 r s.m w ∧ RRel r s.n s.rs a.tmps ∧ a.defers = []

section
variable {P : Program} {C : Cfg} {call : CallFn} {r : Ren} {m : Mem} {w : World} {rs : Rs} {a : Act} {o : Oper} {K : Act → World → Prop} {Q : Exit → Act → World → Prop}

theorem upon_next {v : Value} {nx : Next} {w' : World} (hn : NRel r v nx) (h : ∀ v', VRel r v v' → K (a.put o.dst v') w') : o.upon P a K Q (.ok nx w') := by
  cases nx <;> first | exact False.elim hn | exact h _ hn

theorem oper_step (hP : PGood P) (hfl : ∀ t, C.flats.contains t = true → FlatOk P t) (hcall : CallOk P call) (hm : HRel P r m w) (ev : ∀ x, VRel r (eval P rs x) (a.eval x)) {v : Value} {m1 : Mem}
    (h : aOper P C call m rs o = some (v, m1)) (hK : ∀ r1 v' w', HRel P r1 m1 w' → Evo r m w r1 m1 w' → VRel r1 v v' → K (a.put o.dst v') w') : o.wp P a w K Q ∨ (o.asks P a w ∧ LetsOut Q) := by
  unfold aOper at h
  cases hres : opR P C.flats m.t rs o with
  | none => simp [hres] at h
  | some res =>
    have hs := op_sim hP hfl hm ev hres
    unfold Oper.wp
    cases res with
    | val u =>
      simp only [hres, Option.some.injEq, Prod.mk.injEq] at h
      obtain ⟨rfl, rfl⟩ := h
      obtain ⟨nx, h1, h2⟩ := hs
      rw [h1]
      exact .inl (upon_next h2 fun v' hv => hK r v' w hm (Evo.refl _ _ _) hv)
    | alloc x u =>
      simp only [hres, Option.some.injEq, Prod.mk.injEq] at h
      obtain ⟨rfl, rfl⟩ := h
      rcases hs with hs | ⟨nx, w', e, h1, h2, h3, h4⟩
      · exact hs.elim
      · rw [h1]
        exact .inl (upon_next h4 fun v' hv => hK _ v' w' h2 h3 hv)
    | step u t =>
      simp only [hres, Option.some.injEq, Prod.mk.injEq] at h
      obtain ⟨rfl, rfl⟩ := h
      obtain ⟨nx, w', h1, h2, h3, h4⟩ := hs
      rw [h1]
      exact .inl (upon_next h4 fun v' hv => hK _ v' w' h2 h3 hv)
    | stepNew u t x =>
      simp only [hres, Option.some.injEq, Prod.mk.injEq] at h
      obtain ⟨rfl, rfl⟩ := h
      rcases hs with hs | ⟨nx, w', e, h1, h2, h3, h4⟩
      · exact hs.elim
      · rw [h1]
        exact .inl (upon_next h4 fun v' hv => hK _ v' w' h2 h3 hv)
    | enter f args =>
      simp only [hres] at h
      obtain ⟨args', h1, h2⟩ := hs
      rw [h1, Oper.upon_enter]
      refine .inl (Calls.mono (hcall f args m v m1 h r w args'.toList hm h2) fun e w' he => ?_)
      cases e with
      | returned v' =>
        obtain ⟨r', h3, h4, h5⟩ := he
        exact hK r' v' w' h3 h4 h5
      | panicked c => exact False.elim he
      | outgrown => exact False.elim he

theorem want_rel {ops : Array Oper} {b : Bool} (h : wantA ops rs o = some b) (hr : ∀ d, (∃ j want, o.guard = some (j, want) ∧ (ops[j]?).bind (·.dst) = some d) → VRel r ((rs.get d).getD undef) (a.tmps.getD d undef)) :
    Region.wanted o (yielded ops a.tmps) = b := by
  unfold wantA at h
  unfold Region.wanted
  cases hg : o.guard with
  | none => simp only [hg, Option.some.injEq] at h; exact h
  | some gw =>
    obtain ⟨j, want⟩ := gw
    simp only [hg] at h
    unfold yielded
    cases hd : (ops[j]?).bind (·.dst) with
    | none => simp only [hd, Option.some.injEq] at h; subst h; simp [hd]
    | some d =>
      simp only [hd] at h
      have hv := hr d ⟨j, want, hg, hd⟩
      rw [Array.getD_eq_getD_getElem?] at hv
      split at h
      · rename_i b' hb'
        cases h
        rw [hb'] at hv
        cases ht : a.tmps[d]? with
        | none => rw [ht] at hv; cases hv
        | some u => rw [ht] at hv; cases hv; simp [hd, ht]
      · rename_i t' hb'
        cases h
        rw [hb'] at hv
        cases ht : a.tmps[d]? with
        | none => simp [hd, ht]
        | some u => rw [ht] at hv; cases hv; simp [hd, ht]
      · cases h

theorem aOps_cons (ops : Array Oper) (l : List Oper) (s : St) : aOps P C call ops (o :: l) s = aOps1 P C call ops o (aOps P C call ops l) s := rfl
theorem aOps_nil (ops : Array Oper) (s : St) : aOps P C call ops [] s = some s := rfl

theorem ops_sound (hP : PGood P) (hfl : ∀ t, C.flats.contains t = true → FlatOk P t) (hcall : CallOk P call) {ops : Array Oper} {r0 : Ren} {m0 : Mem} {w0 : World} {s' : St} (hend : ∀ a w, Post P r0 m0 w0 s' a w → Q .normal a w) :
    ∀ (l : List Oper) (idx : List Nat) (s : St) (a : Act) (w : World), idx.filterMap (fun i => ops[i]?) = l → (∀ i ∈ idx, (ops[i]?).isSome = true) → aOps P C call ops l s = some s' → Post P r0 m0 w0 s a w → wpOps P ops Q idx a w
  | [], idx, s, a, w, hidx, hin, h, hp => by
    have : idx = [] := by
      cases idx with
      | nil => rfl
      | cons i idx =>
        obtain ⟨o, ho⟩ := Option.isSome_iff_exists.1 (hin i (by simp))
        simp [ho] at hidx
    subst this
    cases h
    exact hend a w hp
  | o :: l, idx, s, a, w, hidx, hin, h, hp => by
    cases idx with
    | nil => simp at hidx
    | cons i idx =>
      obtain ⟨o', ho⟩ := Option.isSome_iff_exists.1 (hin i (by simp))
      simp only [List.filterMap_cons, ho, List.cons.injEq] at hidx
      obtain ⟨rfl, hidx⟩ := hidx
      obtain ⟨r, hm, he, hr, hd⟩ := hp
      rw [aOps_cons] at h
      unfold aOps1 at h
      have ev := eval_rel (P := P) hm hr
      simp only [wpOps, ho]
      cases hw : wantA ops s.rs o' with
      | none => simp [hw] at h
      | some b =>
        have hwant := want_rel (a := a) hw fun d _ => hr.get d
        simp only [hw] at h
        cases b with
        | true =>
          simp only at h
          cases hop : aOper P C call s.m s.rs o' with
          | none => simp [hop] at h
          | some vm =>
            obtain ⟨v, m1⟩ := vm
            simp only [hop] at h
            rw [hwant]
            simp only [if_true]
            refine oper_step hP hfl hcall hm ev hop (fun r1 v' w' h1 h2 h3 => ?_)
            refine ops_sound hP hfl hcall hend l idx _ _ _ hidx (fun j hj => hin j (by simp [hj])) h ⟨r1, h1, he.trans h2, (hr.mono h2.ext).put h3 o'.dst, ?_⟩
            cases hdst : o'.dst <;> simpa [Act.put] using hd
        | false =>
          rw [hwant]
          simp only [Bool.false_eq_true, if_false]
          refine ops_sound hP hfl hcall hend l idx _ _ _ hidx (fun j hj => hin j (by simp [hj])) h ⟨r, hm, he, hr.put (VRel.undef r) o'.dst, ?_⟩
          cases hdst : o'.dst <;> simpa [Act.put] using hd

end
end Go.Am
