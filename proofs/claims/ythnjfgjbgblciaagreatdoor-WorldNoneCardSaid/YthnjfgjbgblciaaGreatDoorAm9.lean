import Derived.Test.YthnjfgjbgblciaaGreatDoorAm8
/-
  THE ABSTRACT MACHINE, 9: slicing, conversions, maps read, len and its kin.
-/
namespace Go.Am

section
variable {P : Program} {r : Ren} {m : Mem} {w : World} {rs : Rs} {a : Act} {o : Oper} {A : Prop} {res : OpR}

theorem optRel {f g : Operand → Value} (h : ∀ x, VRel r (f x) (g x)) (x : Option Operand) : OptR r (x.map f) (x.map g) := by
  cases x with
  | none => exact .none
  | some x => exact .some (h x)

theorem bytes_extract (s : ByteArray) (l h : Nat) : s.extract l h = ⟨⟨(s.data.toList.drop l).take (h - l)⟩⟩ := by
  apply ByteArray.ext
  apply Array.ext'
  simp [ByteArray.data_extract, List.extract_eq_take_drop]

variable (ev : ∀ x, VRel r (eval P rs x) (a.eval x))
include ev

theorem sim_slice (hm : HRel P r m w) {t : TypeId} {x : Operand} {lo hi mx : Option Operand} (ho : o.op = .slice t x lo hi mx) (h : sliceR P m.t rs t x lo hi mx = some res) : OpSim P r m w (execOp a.eval o) A res := by
  have hx := ev x
  unfold sliceR at h
  simp only at h
  generalize hcv : a.eval x = vc at hx
  generalize eval P rs x = v at h hx
  cases hu : under P t with
  | none => cases hx <;> simp [hu] at h
  | some d =>
    cases hx <;> try (cases h; done)
    case string s =>
      simp only [hu] at h
      cases d <;> try (simp at h; done)
      simp only [if_true] at h
      cases hb : bounds s.size s.size (lo.map (eval P rs)) (hi.map (eval P rs)) none with
      | none => simp [hb] at h
      | some q =>
        obtain ⟨l, h', m'⟩ := q
        simp only [hb] at h
        cases mx with
        | some _ => cases h
        | none =>
          cases h
          obtain ⟨m'', h1, _⟩ := run_bounds (P := P) (w := w) (b := false) hb (Nat.le_refl _) (Nat.le_refl _) (optRel ev lo) (optRel ev hi) (mx' := none) .none
          refine OpSim.mk (.string _) ?_
          simp only [execOp, ho, hcv, Instr.sliceAt, Sem.run_bind, run_under hu, Result.andThen_ok, Instr.slice]
          simp [h1, bytes_extract]
    case snil =>
      simp only [hu] at h
      cases d <;> try (simp at h; done)
      rename_i el
      simp only at h
      cases hs : sizeT P el with
      | none => simp [hs] at h
      | some s =>
        cases hb : bounds 0 0 (lo.map (eval P rs)) (hi.map (eval P rs)) (mx.map (eval P rs)) with
        | none => simp [hs, hb] at h
        | some q =>
          obtain ⟨l, h', m'⟩ := q
          simp [hs, hb] at h
          subst h
          obtain ⟨m'', h1, h2, _, _, h3, h4, h5, h6⟩ := run_bounds (P := P) (w := w) (b := true) hb (Nat.le_refl _) (Nat.le_refl _) (optRel ev lo) (optRel ev hi) (optRel ev mx)
          have e1 : m'' = 0 := by omega
          have e2 : m' = 0 := by omega
          have e3 : h' = 0 := by omega
          have e4 : l = 0 := by omega
          subst e1 e2 e3 e4
          refine OpSim.mk (v' := .slice none 0 0) .snil ?_
          simp only [execOp, ho, hcv, Instr.sliceAt, Sem.run_bind, run_under hu, Result.andThen_ok, Instr.slice, h1, run_sizeT hs]
          simp
    case slice id off off' len cap cap' sp e hr hoff hc hl hsx hrm hb47 ha =>
      simp only [hu] at h
      cases d <;> try (simp at h; done)
      rename_i el
      simp only at h
      cases hs : sizeT P el with
      | none => simp [hs] at h
      | some s =>
        cases hb : bounds len cap (lo.map (eval P rs)) (hi.map (eval P rs)) (mx.map (eval P rs)) with
        | none => simp [hs, hb] at h
        | some q =>
          obtain ⟨l, h', m'⟩ := q
          simp only [hs, hb] at h
          cases hrow : rowFits P m.t id s with
          | false => simp [hrow] at h
          | true =>
            simp only [hrow, Bool.true_eq_false, if_false] at h
            cases h
            unfold rowFits at hrow
            have hes : e.es = s := by
              cases hra : rowAt m.t id with
              | none => simp [hra] at hrow
              | some x =>
                obtain ⟨cs, t', fz⟩ := x
                simp only [hra] at hrow
                obtain ⟨c, lo', hi', _, _, _, _, _, h6, _⟩ := row_of hm hr hra
                rw [h6] at hrow
                simpa using hrow
            obtain ⟨m'', h1, h2, hmx1, hmx2, h3, h4, h5, h6⟩ := run_bounds (P := P) (w := w) (b := true) hb hc hl (optRel ev lo) (optRel ev hi) (optRel ev mx)
            refine OpSim.mk (v' := .slice (some ⟨e.b, if m'' = l then off' else off' + l * s, none⟩) (h' - l) (m'' - l)) ?_ ?_
            · have hcap0 : 0 < m' - l → off' = e.d + off := fun hh => hoff (by
                rcases Nat.eq_zero_or_pos cap with hz | hz
                · subst hz; 
                  cases hmxx : (mx.map (eval P rs)).isSome with
                  | true => have := hmx1 hmxx; omega
                  | false => have := (hmx2 hmxx).2; omega
                · exact hz)
              have := VRel.slice (r := r) (id := id) (off := if m' = l then off else off + l * s) (off' := if m'' = l then off' else off' + l * s) (len := h' - l) (cap := m' - l) (cap' := m'' - l)
                (sp := if (mx.isSome || (some (Addr.mk id off sp)).all fun a => a.spot == some 1) = true then some 1 else none) hr ?_ (by omega) (by omega) ?_ ?_ ?_ ?_
              · exact this
              · intro hh
                rw [if_neg (by omega), if_neg (by omega), hcap0 hh, Nat.add_assoc]
              · intro hh
                by_cases hmxs : mx.isSome = true
                · have := hmx1 (by simpa using hmxs); omega
                · have hsp : sp = some 1 := by
                    simp only [hmxs, Bool.false_or, Option.all_some, beq_iff_eq] at hh
                    by_cases hh2 : sp = some 1
                    · exact hh2
                    · simp [hh2] at hh
                  have h7 := hmx2 (by simpa using hmxs)
                  have h8 := hsx hsp
                  omega
              · rw [hes]
                rw [hes] at hrm
                by_cases hml : m'' = l
                · rw [if_pos hml, hml, Nat.sub_self]; have : off' ≤ off' + cap' * s := Nat.le_add_right _ _; omega
                · rw [if_neg hml]
                  have hle : l * s + (m'' - l) * s ≤ cap' * s := by
                    rw [← Nat.add_mul]; exact Nat.mul_le_mul_right _ (by omega)
                  omega
              · trivial
              · by_cases hml : m'' = l
                · rw [if_pos hml]; exact ha
                · rw [if_neg hml, hes, Nat.add_mul_mod_self_right, ← hes]; exact ha
            · simp only [execOp, ho, hcv, Instr.sliceAt, Sem.run_bind, run_under hu, Result.andThen_ok, Instr.slice, h1, run_sizeT hs]
              simp only [Sem.run_pure, Option.map_some, add_none, Result.andThen_ok]
              by_cases hml : m'' = l
              · simp [hml]
              · simp [hml]

end
end Go.Am
