import Derived.JoinedCond
import GoSem.ClaimSeven
/-
  THE ABSTRACT MACHINE, 36: the closed facts of a row, each by itself.
-/
namespace Go.Am

theorem joinedFacts_of {P : Program} {f : FuncId} {fn : Func} {s : ChangeSpec} {c : OpenClaim} (h1 : c.wf (OpenSpec.ofChange s) = true) (h2 : laidOutB P = true) (h3 : mapsRowed P = true) (h4 : fn.params.all (P.readableRec ·) = true) (h5 : namedTie P c.named s.vars = true)
    (h6 : (c.stops == []) = true) (h7 : (P.stops == []) = true) (h8 : (c.knobs == []) = true) (h9 : (P.stopKnobs == []) = true) (h10 : (c.inPlace == P.inPlace f) = true) (h11 : (c.unfollowed == P.unfollowed f) = true) (h12 : (c.recurses == P.recurses f) = true) (h13 : (c.named == P.varsNamed f) = true)
    (h14 : (c.maps == (fn.params.toList ++ s.plain.varTypes P).any (P.mapsRec ·)) = true) (h15 : (c.ifaces == (fn.params.toList ++ s.plain.varTypes P).any (P.ifacesRec ·)) = true) (h16 : (c.mapsOut == P.mapsAmong fn.resultTypes.toList) = true)
    (h17 : (c.loops == (fn.params.toList ++ s.plain.varTypes P).any (P.loopsFrom ·)) = true) (h17b : (c.wideKeys == (fn.params.toList ++ s.plain.varTypes P ++ fn.resultTypes.toList).any (P.wideKeysFrom ·)) = true)
    (h18 : s.vars.all (P.varReadable ·) = true) (h19 : fn.resultTypes.all (fun t => P.readableRec t && decide (t < P.types.size)) = true) (h20 : (c.ifacesOut == fn.resultTypes.toList.any (P.ifacesRec ·)) = true) (h21 : (c.loopsOut == fn.resultTypes.toList.any (P.loopsFrom ·)) = true)
    (h22 : (c.plainKeys == P.plainKeys) = true) (h23 : c.shortTexts.isNone = true) (h23b : P.stopsHeard = true) (h24 : P.mayEnter = true) (h24b : (c.lifted == P.liftsFinal) = true) (h24c : (P.make == some c.make) = true)
    (h25 : (c.kinds == (if c.domain.isEmpty then [] else fn.params.toList.map fun t => match P.underlying t with | some (.int k) => some k | _ => none)) = true) (h26 : (c.pinned == c.pinnedBy) = true)
    (h27 : (c.veiled == (fn.params.toList ++ s.plain.varTypes P ++ fn.resultTypes.toList).any (P.veiledRec ·)) = true) (h28 : c.veiledFits P fn.params.toList (fn.params.toList ++ s.plain.varTypes P ++ fn.resultTypes.toList) = true) :
    joinedFacts P f fn s c = true := by
  unfold joinedFacts
  rw [h1, h2, h3, h4, h5, h6, h7, h8, h9, h10, h11, h12, h13, h14, h15, h16, h17, h17b, h18, h19, h20, h21, h22, h23, h23b, h24, h24b, h24c, h26, h27, h28]
  simp only [Bool.true_and, Bool.and_true]
  exact h25

/-- Where no function of the whole program starts a goroutine, no call does. -/
theorem goes_none {P : Program} (h : P.funcs.toList.any Func.goes = false) (f : FuncId) : P.goes f = false := by
  have one : ∀ g : FuncId, ((P.funcs[g]?).any Func.goes) = false := by
    intro g
    cases hg : P.funcs[g]? with
    | none => rfl
    | some fn =>
      have hm : fn ∈ P.funcs.toList := by rw [← Array.getElem?_toList] at hg; exact List.mem_of_getElem? hg
      cases hb : Func.goes fn with
      | false => exact hb
      | true =>
        have : P.funcs.toList.any Func.goes = true := List.any_eq_true.2 ⟨fn, hm, hb⟩
        rw [h] at this; cases this
  unfold Program.goes
  have h1 : ((P.closure f).any fun g => (P.funcs[g]?).any Func.goes) = false := by
    rw [List.any_eq_false]
    intro g _
    rw [one g]; simp
  have h2 : P.funcs.any Func.goes = false := by rw [← Array.any_toList]; exact h
  rw [h1, h2]; simp

theorem goesBy_none {P : Program} (h : P.funcs.toList.any Func.goes = false) {c : OpenClaim} (hs : c.start = .entering) : false = c.goesBy P := by
  unfold OpenClaim.goesBy Program.goesAt Program.goesFrom
  rw [hs]
  cases hf : P.funcNamed c.func with
  | none => rfl
  | some f => simp [goes_none h f]

end Go.Am
