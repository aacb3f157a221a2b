import Derived.Test.YthnjfgjbgblciaaGreatDoorAm7
/-
  THE ABSTRACT MACHINE, 8: building, slicing, conversions, maps read.
-/
namespace Go.Am

section
variable {P : Program} {r : Ren} {m : Mem} {w : World} {rs : Rs} {a : Act} {o : Oper} {A : Prop} {res : OpR}

theorem run_mapM_list {α β : Type} (f : α → Sem β) (g : α → β) : ∀ (l : List α), (∀ x ∈ l, (f x).run P w = .ok (g x) w) → (l.mapM f).run P w = .ok (l.map g) w
  | [], _ => by simp
  | x :: l, h => by
    simp only [List.mapM_cons, Sem.run_bind, h x (by simp), Result.andThen_ok, run_mapM_list f g l (fun y hy => h y (by simp [hy])), Sem.run_pure, List.map_cons]

theorem run_mapM_array {α β : Type} (f : α → Sem β) (g : α → β) (xs : Array α) (h : ∀ x ∈ xs.toList, (f x).run P w = .ok (g x) w) : (xs.mapM f).run P w = .ok (xs.map g) w := by
  rw [Array.mapM_eq_mapM_toList, Sem.run_map, run_mapM_list (P := P) (w := w) f g xs.toList h]
  simp only [Result.andThen_ok]
  congr 1
  cases xs; simp

variable (ev : ∀ x, VRel r (eval P rs x) (a.eval x))

include ev in
theorem parts_rel (ps : List (Nat × Operand)) : VRelL r ((ps.map fun (i, x) => (i, eval P rs x)).map (·.2)) ((ps.map fun (i, x) => (i, a.eval x)).map (·.2)) := by
  induction ps with
  | nil => exact .nil
  | cons p ps ih => exact .cons (ev p.2) ih

theorem parts_fst {f g : Operand → Value} (ps : List (Nat × Operand)) : (ps.map fun (i, x) => (i, f x)).map (·.1) = (ps.map fun (i, x) => (i, g x)).map (·.1) := by
  induction ps with
  | nil => rfl
  | cons p ps ih => simp only [List.map_cons, List.cons.injEq, true_and] at ih ⊢; exact ih

include ev in
theorem sim_build (hP : PGood P) {t : TypeId} {parts : Array (Nat × Operand)} (ho : o.op = .build t parts) (h : buildR P rs t parts = some res) : OpSim P r m w (execOp a.eval o) A res := by
  unfold buildR at h
  simp only at h
  cases hz : zeroT P t with
  | none => simp [hz] at h
  | some z =>
    have hzr : VRelL r z.cells.toList z.cells.toList := by
      have := hP.zero t z hz
      exact VRel.cells (goodZ_rel this) (goodZ_junk this)
    have hpl : (parts.map fun (i, x) => (i, a.eval x)).toList = parts.toList.map fun (i, x) => (i, a.eval x) := by simp
    cases hu : under P t with
    | none => simp [hz, hu] at h
    | some d =>
      cases d <;> try (simp [hz, hu] at h; done)
      case struct fields =>
        simp only [hz, hu] at h
        cases hf : fillL (fun i => (fields[i]?).bind fun f => (sizeT P f.type).map fun s => (f.offset, s)) z.cells.toList (parts.toList.map fun (i, x) => (i, eval P rs x)) with
        | none => rw [hf] at h; cases h
        | some l =>
          rw [hf] at h; cases h
          have hpl' : ∀ (i : Nat) (x : Nat × Nat), (((fields[i]? : Option Field)).bind fun (f : Field) => (sizeT P f.type).map fun s => (f.offset, s)) = some x → ((fields.map fun (f : Field) => (f.offset, (sizeT P f.type).getD 0))[i]?) = some x := by
            intro i x hx
            cases hfi : fields[i]? with
            | none => simp [hfi] at hx
            | some f =>
              simp only [hfi, Option.bind_some] at hx
              cases hs : sizeT P f.type with
              | none => simp [hs] at hx
              | some s => simp [hs] at hx; simp [hfi, hs, hx]
          obtain ⟨out, h1, h2, _⟩ := fill_rel hpl' _ (parts.toList.map fun (i, x) => (i, a.eval x)) _ z.cells _ (parts_fst _) (parts_rel ev _) hzr hf
          refine OpSim.mk (v' := .agg out) (.agg h2) ?_
          have hm : (fields.mapM (fun (f : Field) => (do pure (f.offset, ← sizeOf f.type) : Sem (Nat × Nat)))).run P w = .ok (fields.map fun (f : Field) => (f.offset, (sizeT P f.type).getD 0)) w := by
            apply run_mapM_array
            intro f hf
            have := hP.fsize t fields z hz hu f hf
            cases hs : sizeT P f.type with
            | none => simp [hs] at this
            | some s => simp [run_sizeT hs]
          simp only [execOp, ho, Instr.build, Sem.run_bind, run_zeroT hz, Result.andThen_ok, run_under hu, hm, hpl, h1, Sem.run_pure]
      case array len el =>
        simp only [hz, hu] at h
        cases hs : sizeT P el with
        | none => simp [hs] at h
        | some s =>
          simp only [hs] at h
          cases hf : fillL (fun i => some (i * s, s)) z.cells.toList (parts.toList.map fun (i, x) => (i, eval P rs x)) with
          | none => rw [hf] at h; cases h
          | some l =>
            rw [hf] at h; cases h
            obtain ⟨out, h1, h2, _⟩ := fill_rel (pl' := fun i => some (i * s, s)) (fun _ _ hx => hx) _ (parts.toList.map fun (i, x) => (i, a.eval x)) _ z.cells _ (parts_fst _) (parts_rel ev _) hzr hf
            refine OpSim.mk (v' := .agg out) (.agg h2) ?_
            simp only [execOp, ho, Instr.build, Sem.run_bind, run_zeroT hz, Result.andThen_ok, run_under hu, run_sizeT hs, hpl, h1, Sem.run_pure]

inductive OptR (r : Ren) : Option Value → Option Value → Prop where
  | none : OptR r none none
  | some {v v' : Value} (h : VRel r v v') : OptR r (some v) (some v')

theorem run_bound {v v' : Value} {top n : Nat} {code : BoundsCode} (h : boundOf v top = some n) (hv : VRel r v v') {top' : Nat} (ht : top ≤ top') : (Instr.sliceBound v' top' code).run P w = .ok n w ∧ n ≤ top := by
  cases hv <;> simp [boundOf] at h
  obtain ⟨hb, rfl⟩ := h
  refine ⟨?_, by omega⟩
  simp only [Instr.sliceBound, asIntOf, Sem.run_bind, Sem.run_pure, Result.andThen_ok, Sem.run_ite]
  rw [if_pos ⟨hb.1, by omega⟩]

/-- The bounds of a slice expression: the same in the world, where the capacity may be greater. -/
theorem run_bounds {b : Bool} {len cap cap' l h' m' : Nat} {lo hi mx lo' hi' mx' : Option Value} (h : bounds len cap lo hi mx = some (l, h', m')) (hc : cap ≤ cap') (hlc : len ≤ cap)
    (hlo : OptR r lo lo')
    (hhi : OptR r hi hi')
    (hmx : OptR r mx mx') :
    ∃ m'', (Instr.sliceBounds b len cap' lo' hi' mx').run P w = .ok (l, h', m'') w ∧ m' ≤ m'' ∧ (mx.isSome = true → m'' = m') ∧ (mx.isSome = false → m'' = cap' ∧ m' = cap) ∧ l ≤ h' ∧ h' ≤ m' ∧ m'' ≤ cap' ∧ m' ≤ cap := by
  unfold bounds at h
  cases mx with
  | none =>
    cases mx' with
    | some _ => cases hmx
    | none =>
      simp only at h
      have hhh : ∃ q, (match hi with | some v => boundOf v cap | none => some len) = some q ∧ (match lo with | some v => boundOf v q | none => some 0) = some l ∧ q = h' ∧ m' = cap := by
        cases hi with
        | none =>
          simp only at h
          cases lo with
          | none => simp at h; obtain ⟨rfl, rfl, rfl⟩ := h; exact ⟨_, rfl, rfl, rfl, rfl⟩
          | some v =>
            simp only at h
            cases hb : boundOf v len with
            | none => simp [hb] at h
            | some k => simp [hb] at h; obtain ⟨rfl, rfl, rfl⟩ := h; exact ⟨_, rfl, hb, rfl, rfl⟩
        | some u =>
          simp only at h
          cases hq : boundOf u cap with
          | none => simp [hq] at h
          | some q =>
            simp only [hq] at h
            cases lo with
            | none => simp at h; obtain ⟨rfl, rfl, rfl⟩ := h; exact ⟨_, hq, rfl, rfl, rfl⟩
            | some v =>
              simp only at h
              cases hb : boundOf v q with
              | none => simp [hb] at h
              | some k => simp [hb] at h; obtain ⟨rfl, rfl, rfl⟩ := h; exact ⟨_, hq, hb, rfl, rfl⟩
      obtain ⟨q, h1, h2, rfl, rfl⟩ := hhh
      have hrun1 : ∀ code, (match hi' with | some v => Instr.sliceBound v cap' code | none => pure len : Sem Nat).run P w = .ok q w ∧ q ≤ m' := by
        intro code
        cases hi with
        | none => cases hi' with
          | none => cases h1; exact ⟨rfl, hlc⟩
          | some _ => cases hhi
        | some u => cases hi' with
          | none => cases hhi
          | some u' => cases hhi with | some hh => exact run_bound h1 hh hc
      have hrun2 : ∀ code, (match lo' with | some v => Instr.sliceBound v q code | none => pure 0 : Sem Nat).run P w = .ok l w ∧ l ≤ q := by
        intro code
        cases lo with
        | none => cases lo' with
          | none => cases h2; exact ⟨rfl, Nat.zero_le _⟩
          | some _ => cases hlo
        | some u => cases lo' with
          | none => cases hlo
          | some u' => cases hlo with | some hh => exact run_bound h2 hh (Nat.le_refl _)
      refine ⟨cap', ?_, hc, by simp, by simp, (hrun2 .sliceB).2, (hrun1 .sliceB).2, Nat.le_refl _, Nat.le_refl _⟩
      have e1 := fun code => (hrun1 code).1
      have e2 := fun code => (hrun2 code).1
      clear hrun1 hrun2 hlo hhi hmx h1 h2 h
      cases hi' with
      | none =>
        have := e1 .sliceB
        simp only [Sem.run_pure, Result.ok.injEq, and_true] at this
        subst this
        cases lo' with
        | none =>
          have := e2 .sliceB
          simp only [Sem.run_pure, Result.ok.injEq, and_true] at this
          subst this
          simp [Instr.sliceBounds]
        | some v => simp [Instr.sliceBounds, e2]
      | some u =>
        cases lo' with
        | none =>
          have := e2 .sliceB
          simp only [Sem.run_pure, Result.ok.injEq, and_true] at this
          subst this
          simp [Instr.sliceBounds, e1]
        | some v => simp [Instr.sliceBounds, e1, e2]
  | some x =>
    cases mx' with
    | none => cases hmx
    | some x' =>
      simp only at h
      cases hmm : boundOf x cap with
      | none => simp [hmm] at h
      | some k =>
        simp only [hmm] at h
        cases hi with
        | none => simp at h
        | some u =>
          cases hi' with
          | none => cases hhi
          | some u' =>
            simp only at h
            cases hq : boundOf u k with
            | none => simp [hq] at h
            | some q =>
              simp only [hq] at h
              have hh : (match lo with | some v => boundOf v q | none => some 0) = some l ∧ q = h' ∧ k = m' := by
                cases lo with
                | none => simp at h; obtain ⟨rfl, rfl, rfl⟩ := h; exact ⟨rfl, rfl, rfl⟩
                | some v =>
                  simp only at h
                  cases hb : boundOf v q with
                  | none => simp [hb] at h
                  | some kk => simp [hb] at h; obtain ⟨rfl, rfl, rfl⟩ := h; exact ⟨hb, rfl, rfl⟩
              obtain ⟨h2, rfl, rfl⟩ := hh
              have hmx' : VRel r x x' := by cases hmx with | some hh => exact hh
              have hhi' : VRel r u u' := by cases hhi with | some hh => exact hh
              have hx := fun code => run_bound (P := P) (w := w) (code := code) hmm hmx' hc
              have hy := fun code => run_bound (P := P) (w := w) (code := code) hq hhi' (Nat.le_refl _)
              have hrun2 : ∀ code, (match lo' with | some v => Instr.sliceBound v q code | none => pure 0 : Sem Nat).run P w = .ok l w ∧ l ≤ q := by
                intro code
                cases lo with
                | none => cases lo' with
                  | none => cases h2; exact ⟨rfl, Nat.zero_le _⟩
                  | some _ => cases hlo
                | some u => cases lo' with
                  | none => cases hlo
                  | some u' => cases hlo with | some hh => exact run_bound h2 hh (Nat.le_refl _)
              refine ⟨k, ?_, Nat.le_refl _, fun _ => rfl, by simp, (hrun2 .sliceB).2, (hy .sliceB).2, Nat.le_trans (hx .sliceB).2 hc, (hx .sliceB).2⟩
              have e2 := fun code => (hrun2 code).1
              have e3 := fun code => (hx code).1
              have e4 := fun code => (hy code).1
              clear hrun2 hlo hhi hmx hmx' hhi' h2 h hx hy
              cases lo' with
              | none =>
                have := e2 .sliceB
                simp only [Sem.run_pure, Result.ok.injEq, and_true] at this
                subst this
                simp [Instr.sliceBounds, e3, e4]
              | some v => simp [Instr.sliceBounds, e2, e3, e4]

end
end Go.Am
