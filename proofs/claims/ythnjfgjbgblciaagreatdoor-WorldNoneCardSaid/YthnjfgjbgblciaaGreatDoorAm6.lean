import Derived.Test.YthnjfgjbgblciaaGreatDoorAm5
import Derived.Laws.StructEq
/-
  THE ABSTRACT MACHINE, 6: operators.
-/
namespace Go.Am

/-- Of a type whose values are compared cell by cell. -/
structure FlatOk (P : Program) (t : TypeId) : Prop where
  stood : P.stoodInHeld t = false
  guard : P.eqGuardType P.depth t = false
  names : ∀ fs, under P t = some (.struct fs) → ∀ f ∈ fs.toList, f.name ≠ "_"

theorem eqPlain_same {r : Ren} {d : Option TypeDesc} {x y x' y' : Value} {q : Bool} (h : eqPlain d x y = some q) (hx : VRel r x x') (hy : VRel r y y') : x' = x ∧ y' = y := by
  unfold eqPlain at h
  split at h <;> first | (cases h; done) | (cases hx; cases hy; exact ⟨rfl, rfl⟩)

theorem eqFlds_same {P : Program} {r : Ren} : ∀ {fs : List Field} {i : Nat} {l k l' k' : List Value} {q : Bool}, eqFlds P i fs l k = some q → VRelL r l l' → VRelL r k k' → l' = l ∧ k' = k
  | [], _, [], [], _, _, _, _, .nil, .nil => ⟨rfl, rfl⟩
  | f :: fs, i, x :: l, y :: k, _, _, q, h, .cons hx tx, .cons hy ty => by
    unfold eqFlds at h
    cases hb : Nat.beq f.offset i with
    | false => rw [hb] at h; cases h
    | true =>
      rw [hb] at h
      simp only [cond_true] at h
      split at h
      · rename_i a b h1 h2
        obtain ⟨e1, e2⟩ := eqPlain_same h1 hx hy
        obtain ⟨e3, e4⟩ := eqFlds_same h2 tx ty
        exact ⟨by rw [e1, e3], by rw [e2, e4]⟩
      · cases h
  | [], _, _ :: _, _, _, _, _, h, _, _ => by simp [eqFlds] at h
  | [], _, [], _ :: _, _, _, _, h, _, _ => by simp [eqFlds] at h
  | _ :: _, _, [], _, _, _, _, h, _, _ => by simp [eqFlds] at h
  | _ :: _, _, _ :: _, [], _, _, _, h, _, _ => by simp [eqFlds] at h

theorem eqStruct_same {P : Program} {r : Ren} {t : TypeId} {l k l' k' : List Value} {q : Bool} (h : eqStruct P t l k = some q) (h1 : VRelL r l l') (h2 : VRelL r k k') : l' = l ∧ k' = k := by
  unfold eqStruct at h
  split at h
  · exact eqFlds_same h h1 h2
  · cases h

theorem run_eqPlain {P : Program} {w : World} {t : TypeId} {x y : Value} {q : Bool} (h : eqPlain (under P t) x y = some q) (d : Nat) : aggT P t = some false ∧ (Op.equalIn (d + 1) t x y).run P w = .ok q w := by
  cases hu : under P t with
  | none => rw [hu] at h; simp [eqPlain] at h
  | some e =>
    rw [hu] at h
    unfold eqPlain at h
    split at h
    · rename_i j k a j' b he
      cases he
      split at h <;> cases h
      rename_i hk
      subst hk
      exact ⟨by simp [aggT, hu], run_equalIn_int w d t _ _ _ _ hu⟩
    · rename_i a b he
      cases he; cases h
      refine ⟨by simp [aggT, hu], ?_⟩
      rw [run_equalIn_string w d t _ _ hu, ByteArray.toList_eq, ByteArray.toList_eq]
    · rename_i a b he
      cases he; cases h
      exact ⟨by simp [aggT, hu], run_equalIn_bool' w d t _ _ hu⟩
    · cases h

theorem run_eqFlds {P : Program} {w : World} (d : Nat) (xs ys : Array Value) : ∀ {fs : List Field} {i : Nat} {l k : List Value} {q : Bool}, eqFlds P i fs l k = some q → (∀ f ∈ fs, f.name ≠ "_") →
    xs.toList.drop i = l → ys.toList.drop i = k → (Op.eqFields (d + 1) xs ys fs).run P w = .ok q w
  | [], i, [], [], q, h, _, _, _ => by
    simp only [eqFlds, Option.some.injEq] at h
    subst h
    simp [Op.eqFields]
  | f :: fs, i, x :: l, y :: k, q, h, hn, hx, hy => by
    unfold eqFlds at h
    cases hb : Nat.beq f.offset i with
    | false => rw [hb] at h; cases h
    | true =>
      have ho := Nat.eq_of_beq_eq_true hb
      rw [hb] at h
      simp only [cond_true] at h
      split at h
      · rename_i a b h1 h2
        cases h
        obtain ⟨g1, g2⟩ := run_eqPlain (w := w) h1 d
        have ih := run_eqFlds (w := w) d xs ys h2 (fun f hf => hn f (by simp [hf])) (by rw [← List.tail_drop, hx]; rfl) (by rw [← List.tail_drop, hy]; rfl)
        have px : xs[f.offset]? = some x := by
          have : (xs.toList.drop i)[0]? = some x := by rw [hx]; rfl
          rw [ho]; simpa using this
        have py : ys[f.offset]? = some y := by
          have : (ys.toList.drop i)[0]? = some y := by rw [hy]; rfl
          rw [ho]; simpa using this
        have ex : (part f.type xs f.offset).run P w = .ok x w := by
          simp only [part, Sem.run_bind, run_aggT g1, Result.andThen_ok, Bool.false_eq_true, if_false, px, Sem.run_pure]
        have ey : (part f.type ys f.offset).run P w = .ok y w := by
          simp only [part, Sem.run_bind, run_aggT g1, Result.andThen_ok, Bool.false_eq_true, if_false, py, Sem.run_pure]
        unfold Op.eqFields
        rw [if_pos (hn f (by simp))]
        simp only [Sem.run_bind, ex, ey, Result.andThen_ok, g2]
        cases a
        · simp
        · simp only [Bool.not_true, Bool.false_eq_true, if_false, Bool.true_and]; exact ih
      · cases h
  | [], _, _ :: _, _, _, h, _, _, _ => by simp [eqFlds] at h
  | [], _, [], _ :: _, _, h, _, _, _ => by simp [eqFlds] at h
  | _ :: _, _, [], _, _, h, _, _, _ => by simp [eqFlds] at h
  | _ :: _, _, _ :: _, [], _, h, _, _, _ => by simp [eqFlds] at h

theorem run_eqStruct {P : Program} {w : World} {t : TypeId} (hf : FlatOk P t) {a b : Array Value} {q : Bool} (h : eqStruct P t a.toList b.toList = some q) (op : BinOp) (x y : Operand) :
    (eqGuard op t x y (.agg a) (.agg b)).run P w = .ok () w ∧ (Op.equal t (.agg a) (.agg b)).run P w = .ok q w := by
  refine ⟨run_eqGuard_agg w op t x y a b hf.guard, ?_⟩
  cases hu : under P t with
  | none => simp [eqStruct, hu] at h
  | some d =>
    cases d <;> try (simp [eqStruct, hu] at h; done)
    rename_i fs
    simp only [eqStruct, hu] at h
    have hfo : P.fieldsOf t = fs := by
      have : P.underlying t = some (.struct fs) := hu
      simp [Program.fieldsOf, this]
    obtain ⟨D, hD⟩ : ∃ D, Op.maxDepth = (D + 1) + 1 := ⟨9998, rfl⟩
    unfold Op.equal
    rw [hD, run_equalIn_agg w (D + 1) t a b (by rw [hfo]; exact hu) hf.stood, hfo]
    exact run_eqFlds D a b h (hf.names fs hu) rfl rfl

section
variable {P : Program} {r : Ren} {m : Mem} {w : World} {rs : Rs} {a : Act} {o : Oper} {A : Prop} {res : OpR}

/-- Two numbers. -/
theorem run_intR {op : BinOp} {k j : IntKind} {x y : Int} {v : Value} (t : TypeId) (h : intR op k x j y = some v) :
    (binOp op t (.int k x) (.int j y)).run P w = .ok v w ∧ VRel r v v := by
  cases op <;> simp only [intR] at h
  case shl =>
    split at h <;> cases h
    rename_i hy
    exact ⟨by simp [binOp, Op.shift, hy], .int _ _⟩
  case shr =>
    split at h <;> cases h
    rename_i hy
    exact ⟨by simp [binOp, Op.shift, hy], .int _ _⟩
  case quo =>
    split at h <;> cases h
    rename_i hy
    obtain ⟨rfl, hy⟩ := hy
    exact ⟨by simp [binOp, Op.intDiv, hy], .int _ _⟩
  case rem =>
    split at h <;> cases h
    rename_i hy
    obtain ⟨rfl, hy⟩ := hy
    exact ⟨by simp [binOp, Op.intDiv, hy], .int _ _⟩
  all_goals
    split at h <;> cases h
    rename_i hk
    subst hk
    exact ⟨by simp [binOp, Op.intArith, Op.intBits, Op.intCmp], by first | exact .int _ _ | exact .bool _⟩

theorem run_strR {op : BinOp} {x y : ByteArray} {v : Value} (t : TypeId) (h : strR op x.data.toList y.data.toList = some v) :
    (binOp op t (.string x) (.string y)).run P w = .ok v w ∧ VRel r v v := by
  cases op <;> simp only [strR] at h <;> try (cases h; done)
  case add =>
    split at h <;> cases h
    rename_i hs
    refine ⟨?_, .string _⟩
    have hs' : ¬ ((x.size + y.size : Nat) : Int) > IntKind.i64.max := by
      have h1 : x.size = x.data.toList.length := by simp
      have h2 : y.size = y.data.toList.length := by simp
      rw [h1, h2]
      have : IntKind.i64.max = 9223372036854775807 := by decide
      rw [this]; omega
    have he : (x ++ y) = ⟨⟨x.data.toList ++ y.data.toList⟩⟩ := by
      cases x; cases y
      rename_i a b
      cases a; cases b
      apply ByteArray.ext
      simp
    simp only [binOp, Op.stringOp, if_neg hs', Sem.run_pure, he]
  all_goals
    cases h
    exact ⟨by simp [binOp, Op.stringOp, ByteArray.toList_eq], .bool _⟩

/-- == where an address may stand. -/
theorem run_eqAddr {t : TypeId} {x y x' y' : Value} {q : Bool} (h : eqAddr P t x y = some q) (hx : VRel r x x') (hy : VRel r y y') :
    (Op.equal t x' y').run P w = .ok q w := by
  obtain ⟨D, hD⟩ : ∃ D, Op.maxDepth = D + 1 := ⟨9999, rfl⟩
  unfold Op.equal
  rw [hD]
  clear hD
  unfold eqAddr at h
  cases hu : under P t with
  | none => simp [hu] at h
  | some d =>
    rw [hu] at h
    cases d <;> try (simp at h; done)
    case pointer el =>
      cases hx <;> cases hy <;> try (simp at h; done)
      all_goals simp only [Option.isNone] at h
      · cases h; simp [Op.equalIn, run_under hu]
      · cases h; simp [Op.equalIn, run_under hu]
      · cases h; simp [Op.equalIn, run_under hu]
      · rename_i id off e he id' off' e' he'
        split at h
        · rename_i hid
          subst hid
          rw [he] at he'; cases he'
          cases hs : sizeT P el with
          | none => simp [hs] at h
          | some s =>
            cases s with
            | zero => simp [hs] at h
            | succ s =>
              simp only [hs] at h
              cases h
              simp only [Op.equalIn, Sem.run_bind, run_under hu, Result.andThen_ok, run_sizeT hs]
              by_cases hoo : off = off'
              · subst hoo; simp [Go.sameAddr]
              · have : ¬ (e.d + off = e.d + off') := by omega
                have h2 : (off == off') = false := by simpa using hoo
                have h1 : ((Addr.mk e.b (e.d + off) none) == (Addr.mk e.b (e.d + off') none)) = false := by
                  rw [beq_eq_false_iff_ne]; intro hh; injection hh with _ h3 _; exact this h3
                simp [Go.sameAddr, h1, h2]
        · cases h
    case slice el =>
      cases hx <;> cases hy <;> try (simp at h; done)
      all_goals simp only [Option.isNone] at h
      all_goals cases h; simp [Op.equalIn, run_under hu]
    case map k el =>
      cases hx <;> cases hy <;> try (simp at h; done)
      all_goals simp only [Option.isNone] at h
      all_goals cases h; simp [Op.equalIn, run_under hu]
    case interface ms =>
      cases hx <;> cases hy <;> try (simp at h; done)
      all_goals cases h; simp [Op.equalIn, run_under hu]
    case func p q s =>
      cases hx <;> cases hy <;> try (simp at h; done)
      all_goals cases h; simp [Op.equalIn, run_under hu]

theorem run_eqGuard_other {op : BinOp} {t : TypeId} {x y : Operand} {u v : Value} (h1 : ¬ (u = .nilIface ∧ v = .nilIface)) (h2 : ∀ c d, ¬ (u = .agg c ∧ v = .agg d)) :
    (eqGuard op t x y u v).run P w = .ok () w := by
  unfold eqGuard
  cases op <;> simp
  all_goals
    split
    · exact absurd ⟨rfl, rfl⟩ h1
    · exact absurd ⟨rfl, rfl⟩ (h2 _ _)
    · rfl

theorem run_eqR {fl : List TypeId} (hfl : ∀ t, fl.contains t = true → FlatOk P t) {op : BinOp} {t : TypeId} {x y : Operand} {u v u' v' : Value} {q : Bool} (h : eqR P fl t u v = some q)
    (hu : VRel r u u') (hv : VRel r v v') (hn : ¬ (u = .nilIface ∧ v = .nilIface)) :
    (eqGuard op t x y u' v').run P w = .ok () w ∧ (Op.equal t u' v').run P w = .ok q w := by
  unfold eqR at h
  split at h
  · rename_i b1 b2
    cases hu; cases hv
    refine ⟨run_eqGuard_other (by simp) (by simp), ?_⟩
    split at h <;> cases h
    rename_i hud
    cases hut : under P t with
    | none => rw [hut] at hud; simp at hud
    | some d =>
      rw [hut] at hud
      cases d <;> simp at hud
      obtain ⟨D, hD⟩ : ∃ D, Op.maxDepth = D + 1 := ⟨9999, rfl⟩
      unfold Op.equal
      rw [hD]
      simp [Op.equalIn, run_under hut]
  · rename_i c1 c2
    cases hu with
    | agg h1 =>
      cases hv with
      | agg h2 =>
        split at h
        · rename_i hc
          obtain ⟨e1, e2⟩ := eqStruct_same h h1 h2
          have := run_eqStruct (P := P) (w := w) (hfl t hc) h op x y
          rename_i a1 a2
          have ea : a1 = c1 := by cases a1; cases c1; simpa using e1
          have eb : a2 = c2 := by cases a2; cases c2; simpa using e2
          rw [ea, eb]; exact this
        · cases h
  · rename_i hb ha
    refine ⟨run_eqGuard_other ?_ ?_, run_eqAddr h hu hv⟩
    · rintro ⟨rfl, rfl⟩
      cases hu <;> cases hv <;> first | exact hn ⟨rfl, rfl⟩ | (simp [eqAddr] at h)
      all_goals (split at h <;> simp at h)
    · rintro c d ⟨rfl, rfl⟩
      cases hu <;> cases hv <;> first | exact ha _ _ rfl rfl | (simp [eqAddr] at h)
      all_goals (split at h <;> simp at h)

def eqShape : Value → Bool
  | .bool _ | .agg _ | .pointer _ | .slice _ _ _ | .map _ | .iface _ _ | .nilIface | .func _ _ _ | .nilFunc => true
  | _ => false

theorem eqR_shape {fl : List TypeId} {t : TypeId} {u v u' : Value} {q : Bool} (h : eqR P fl t u v = some q) (hu : VRel r u u') : eqShape u' = true := by
  cases hu <;> first | rfl | skip
  all_goals
    exfalso
    simp only [eqR, eqAddr] at h
    split at h <;> simp_all

theorem binOp_eql {t : TypeId} {u v : Value} (h : eqShape u = true) : binOp .eql t u v = (do pure (.bool (← Op.equal t u v))) := by
  cases u <;> first | (simp [eqShape] at h; done) | rfl
theorem binOp_neq {t : TypeId} {u v : Value} (h : eqShape u = true) : binOp .neq t u v = (do pure (.bool (!(← Op.equal t u v)))) := by
  cases u <;> first | (simp [eqShape] at h; done) | rfl

variable (ev : ∀ x, VRel r (eval P rs x) (a.eval x))
include ev

theorem nilIface_of {x : Operand} (h : eval P rs x = .nilIface) : a.eval x = .nilIface := by
  have hx := ev x
  rw [h] at hx
  generalize a.eval x = q at hx
  cases hx; rfl

theorem sim_binOp {fl : List TypeId} (hfl : ∀ t, fl.contains t = true → FlatOk P t) {op : BinOp} {t yt : TypeId} {x y : Operand} (ho : o.op = .binOp op t x y yt) (h : binOpR P fl rs op t x y = some res) :
    OpSim P r m w (execOp a.eval o) A res := by
  have hx := ev x
  have hy := ev y
  by_cases hnn : eval P rs x = .nilIface ∧ eval P rs y = .nilIface
  · have f1 := nilIface_of ev hnn.1
    have f2 := nilIface_of ev hnn.2
    simp only [binOpR, hnn.1, hnn.2] at h
    by_cases hc : (Region.isConst x || Region.isConst y) = true
    · rw [if_pos hc] at h
      have hg : ∀ op', (eqGuard op' t x y .nilIface .nilIface).run P w = .ok () w := by
        intro op'
        unfold eqGuard
        cases op' <;> simp
        all_goals (cases x <;> cases y <;> first | rfl | (simp [Region.isConst] at hc; done) | simp)
      cases hu : under P t with
      | none => rw [hu] at h; cases op <;> cases h
      | some d =>
        rw [hu] at h
        obtain ⟨D, hD⟩ : ∃ D, Op.maxDepth = D + 1 := ⟨9999, rfl⟩
        have heq : ∀ ms, d = .interface ms → (Op.equal t .nilIface .nilIface).run P w = .ok true w := by
          rintro ms rfl
          unfold Op.equal
          rw [hD]
          simp [Op.equalIn, run_under hu]
        cases d <;> cases op <;> first | (cases h; done) | skip
        · cases h
          exact OpSim.mk (.bool _) (by simp only [execOp, ho, f1, f2, Sem.run_bind, hg, Result.andThen_ok, binOp_eql (u := .nilIface) rfl, heq _ rfl, Sem.run_pure])
        · cases h
          exact OpSim.mk (.bool _) (by simp only [execOp, ho, f1, f2, Sem.run_bind, hg, Result.andThen_ok, binOp_neq (u := .nilIface) rfl, heq _ rfl, Sem.run_pure]; rfl)
    · rw [if_neg hc] at h; cases h
  · have h' : (binR P fl op t (eval P rs x) (eval P rs y)).map OpR.val = some res := by
      unfold binOpR at h
      simp only at h
      split at h
      · rename_i e1 e2; exact absurd ⟨e1, e2⟩ hnn
      · exact h
    cases hb : binR P fl op t (eval P rs x) (eval P rs y) with
    | none => rw [hb] at h'; cases h'
    | some v =>
      rw [hb] at h'; cases h'
      generalize eval P rs x = u at hx hb hnn
      generalize eval P rs y = v' at hy hb hnn
      generalize hcx : a.eval x = q at hx
      generalize hcy : a.eval y = q' at hy
      unfold binR at hb
      split at hb
      · cases hx; cases hy
        obtain ⟨h1, h2⟩ := run_intR (P := P) (w := w) (r := r) t hb
        exact OpSim.mk h2 (by simp only [execOp, ho, hcx, hcy, Sem.run_bind, run_eqGuard_other (P := P) (w := w) (op := op) (t := t) (x := x) (y := y) (u := .int _ _) (v := .int _ _) (by simp) (by simp), Result.andThen_ok, h1, Sem.run_pure])
      · cases hx; cases hy
        obtain ⟨h1, h2⟩ := run_strR (P := P) (w := w) (r := r) t hb
        exact OpSim.mk h2 (by simp only [execOp, ho, hcx, hcy, Sem.run_bind, run_eqGuard_other (P := P) (w := w) (op := op) (t := t) (x := x) (y := y) (u := .string _) (v := .string _) (by simp) (by simp), Result.andThen_ok, h1, Sem.run_pure])
      · split at hb
        · cases he : eqR P fl t u v' with
          | none => rw [he] at hb; cases hb
          | some b =>
            rw [he] at hb; cases hb
            obtain ⟨h1, h2⟩ := run_eqR (w := w) hfl (op := .eql) (x := x) (y := y) he hx hy hnn
            exact OpSim.mk (.bool _) (by simp only [execOp, ho, hcx, hcy, Sem.run_bind, h1, Result.andThen_ok, binOp_eql (eqR_shape he hx), h2, Sem.run_pure])
        · cases he : eqR P fl t u v' with
          | none => rw [he] at hb; cases hb
          | some b =>
            rw [he] at hb; cases hb
            obtain ⟨h1, h2⟩ := run_eqR (w := w) hfl (op := .neq) (x := x) (y := y) he hx hy hnn
            exact OpSim.mk (.bool _) (by simp only [execOp, ho, hcx, hcy, Sem.run_bind, h1, Result.andThen_ok, binOp_neq (eqR_shape he hx), h2, Sem.run_pure])
        · cases hb

end
end Go.Am
