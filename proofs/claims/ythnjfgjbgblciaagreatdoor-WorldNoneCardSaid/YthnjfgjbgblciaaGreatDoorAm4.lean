import Derived.Test.YthnjfgjbgblciaaGreatDoorAm3
import Derived.Laws.Strings
/-
  THE ABSTRACT MACHINE, 4: what one operation does, there and in the world: the operations that leave memory alone.
-/
namespace Go.Am

/-- A frame's temporaries are as the abstract ones say. -/
structure RRel (r : Ren) (n : Nat) (rs : Rs) (tmps : Array Value) : Prop where
  size : tmps.size = n
  get : ∀ t, VRel r ((rs.get t).getD undef) (tmps.getD t undef)

theorem VRel.undef (r : Ren) : VRel r undef undef := .tuple .nil

theorem RRel.mono {r r' : Ren} (hx : Ext r r') {n : Nat} {rs : Rs} {tmps : Array Value} (h : RRel r n rs tmps) : RRel r' n rs tmps := ⟨h.size, fun t => (h.get t).mono hx⟩

theorem RRel.put {r : Ren} {n : Nat} {rs : Rs} {a : Act} (h : RRel r n rs a.tmps) {v v' : Value} (hv : VRel r v v') (dst : Option Tmp) : RRel r n (Am.put n rs dst v) (a.put dst v').tmps := by
  cases dst with
  | none => exact h
  | some d =>
    simp only [Am.put, Act.put]
    refine ⟨by simpa using h.size, fun t => ?_⟩
    by_cases hd : d < n
    · rw [show Nat.blt d n = true from by simpa [Nat.blt_eq] using hd]
      simp only [cond_true]
      by_cases ht : t = d
      · subst ht
        rw [Tri.get_set_same]
        have : t < a.tmps.size := by rw [h.size]; exact hd
        simp [Array.getD, this, hv]
      · rw [Tri.get_set_ne _ _ ht]
        have := h.get t
        simp only [Array.getD_eq_getD_getElem?, Array.getElem?_setIfInBounds_ne (Ne.symm ht)] at this ⊢
        exact this
    · rw [show Nat.blt d n = false from by cases hb : Nat.blt d n with | false => rfl | true => exact absurd (by simpa [Nat.blt_eq] using hb) hd]
      simp only [cond_false]
      have := h.get t
      rw [Array.setIfInBounds_eq_of_size_le (h.size ▸ Nat.le_of_not_lt hd)]
      exact this

theorem VRel.const {r : Ren} {v : Value} (h : constOk v = true) : VRel r v v := by
  unfold constOk at h
  split at h <;> first | constructor | (cases h)

theorem eval_rel {P : Program} {r : Ren} {m : Mem} {w : World} {n : Nat} {rs : Rs} {a : Act} (hm : HRel P r m w) (hr : RRel r n rs a.tmps) (x : Operand) : VRel r (eval P rs x) (a.eval x) := by
  cases x with
  | tmp t => exact hr.get t
  | const v =>
    show VRel r (bif constOk v then v else Am.bad) v
    cases h : constOk v with
    | true => exact VRel.const h
    | false => exact .bad v
  | global g =>
    show VRel r (bif Nat.blt g P.globals.size then _ else Am.bad) (.pointer (some ⟨g, 0, none⟩))
    cases h : Nat.blt g P.globals.size with
    | true =>
      obtain ⟨e, h1, h2, h3⟩ := hm.glob g (by simpa [Nat.blt_eq] using h)
      have := VRel.ptr (r := r) (id := g) (off := 0) h1
      rw [h2, h3] at this; exact this
    | false => exact .bad _
  | func f => exact .func _ .nil .nil

/-- What an operation hands on. -/
def NRel (r : Ren) (v : Value) : Next → Prop
  | .value v' => VRel r v v'
  | .skip => VRel r v undef
  | _ => False

def OpSim (P : Program) (r : Ren) (m : Mem) (w : World) (s : Sem Next) (asks : Prop) : OpR → Prop
  | .val v => ∃ nx, s.run P w = .ok nx w ∧ NRel r v nx
  | .alloc x v => asks ∨ ∃ nx w' e, s.run P w = .ok nx w' ∧ HRel P (r.with m.n e) ⟨m.t.set m.n (some x), m.n + 1⟩ w' ∧
      Evo r m w (r.with m.n e) ⟨m.t.set m.n (some x), m.n + 1⟩ w' ∧ NRel (r.with m.n e) (numbered m.n v) nx
  | .step v t => ∃ nx w', s.run P w = .ok nx w' ∧ HRel P r ⟨t, m.n⟩ w' ∧ Evo r m w r ⟨t, m.n⟩ w' ∧ NRel r v nx
  | .stepNew v t x => asks ∨ ∃ nx w' e, s.run P w = .ok nx w' ∧ HRel P (r.with m.n e) ⟨t.set m.n (some x), m.n + 1⟩ w' ∧
      Evo r m w (r.with m.n e) ⟨t.set m.n (some x), m.n + 1⟩ w' ∧ NRel (r.with m.n e) (numbered m.n v) nx
  | .enter f args => ∃ args', s.run P w = .ok (.enter f args') w ∧ VRelL r args args'.toList

section
variable {P : Program} {r : Ren} {m : Mem} {w : World} {rs : Rs} {a : Act} {o : Oper} {A : Prop} {res : OpR}

@[simp] theorem run_under {t : TypeId} {d : TypeDesc} (h : under P t = some d) : (underlying t).run P w = .ok d w := by
  unfold under at h
  simp [underlying, h]

@[simp] theorem run_sizeT {t : TypeId} {s : Nat} (h : sizeT P t = some s) : (sizeOf t).run P w = .ok s w := by
  unfold sizeT at h
  cases hi : P.info? t with
  | none => simp [hi] at h
  | some i => simp [hi] at h; simp [sizeOf, typeInfo, hi, h]

theorem zeroT_info {t : TypeId} {z : Value} (h : zeroT P t = some z) : t < P.types.size ∧ (P.info? t).bind (·.zero) = some z := by
  unfold zeroT at h
  cases hb : Nat.blt t P.types.size with
  | false => rw [hb] at h; cases h
  | true =>
    rw [hb, cond_true] at h
    refine ⟨by simpa [Nat.blt_eq] using hb, ?_⟩
    unfold noTuple at h
    split at h
    · cases h
    · exact h

theorem run_zeroT {t : TypeId} {z : Value} (h : zeroT P t = some z) : (zeroValue t).run P w = .ok z w := by
  replace h := (zeroT_info h).2
  cases hi : P.info? t with
  | none => simp [hi] at h
  | some i => simp [hi] at h; simp [zeroValue, typeInfo, hi, h]

theorem run_aggT {t : TypeId} {b : Bool} (h : aggT P t = some b) : (isAgg t).run P w = .ok b w := by
  unfold aggT at h
  cases hu : under P t with
  | none => simp [hu] at h
  | some d =>
    simp only [isAgg, Sem.run_bind, run_under hu, Result.andThen_ok]
    rw [hu] at h
    cases d <;> simp at h <;> subst h <;> rfl

theorem OpSim.mk {s : Sem Next} {v v' : Value} (hv : VRel r v v') (h : s.run P w = .ok (.value v') w) : OpSim P r m w s A (.val v) := ⟨.value v', h, hv⟩

variable (ev : ∀ x, VRel r (eval P rs x) (a.eval x))
include ev

theorem sim_move {x : Operand} (ho : o.op = .move x) : OpSim P r m w (execOp a.eval o) A (.val (eval P rs x)) :=
  ⟨.value (a.eval x), by simp [execOp, ho], ev x⟩

theorem sim_assign {x : Operand} (ho : o.op = .assign x) : OpSim P r m w (execOp a.eval o) A (.val (eval P rs x)) :=
  ⟨.value (a.eval x), by simp [execOp, ho], ev x⟩

theorem sim_pick {c x y : Operand} (ho : o.op = .pick c x y) (h : pickR P rs c x y = some res) : OpSim P r m w (execOp a.eval o) A res := by
  have hc := ev c
  unfold pickR at h
  simp only at h
  split at h <;> try (cases h; done)
  rename_i t ht
  rw [ht] at hc
  cases h
  generalize hcv : a.eval c = vc at hc
  cases hc
  refine ⟨.value (if t then a.eval x else a.eval y), by simp [execOp, ho, hcv, asBool], ?_⟩
  cases t
  · exact ev y
  · exact ev x

theorem sim_extract {x : Operand} {i : Nat} (ho : o.op = .extract x i) (h : extractR P rs x i = some res) : OpSim P r m w (execOp a.eval o) A res := by
  have hx := ev x
  unfold extractR at h
  simp only at h
  split at h <;> try (cases h; done)
  rename_i vs hv
  rw [hv] at hx
  generalize hcv : a.eval x = vc at hx
  cases hx with
  | tuple hl =>
    cases hg : vs[i]? with
    | none => simp [hg] at h
    | some v =>
      simp [hg] at h; subst h
      obtain ⟨v', h1, h2⟩ := hl.get (i := i) (v := v) (by simpa using hg)
      exact ⟨.value v', by simp [execOp, ho, hcv, Instr.extract, show _ = some v' from by simpa using h1], h2⟩

theorem sim_nilCheck {x : Operand} (ho : o.op = .nilCheck x) (h : nilCheckR P rs x = some res) : OpSim P r m w (execOp a.eval o) A res := by
  have hx := ev x
  unfold nilCheckR at h
  simp only at h
  generalize hcv : a.eval x = vc at hx
  generalize eval P rs x = v at h hx
  cases hx
  case func fn _ _ _ _ h1 h2 =>
    cases fn <;> cases h <;> exact OpSim.mk (.func _ h1 h2) (by simp only [execOp, ho, hcv]; rfl)
  all_goals cases h
  all_goals exact ⟨_, by simp only [execOp, ho, hcv]; rfl, by first | (constructor; done) | (constructor <;> assumption)⟩

theorem sim_makeInterface {t : TypeId} {x : Operand} (ho : o.op = .makeInterface t x) (h : makeInterfaceR P rs t x = some res) : OpSim P r m w (execOp a.eval o) A res := by
  have hx := ev x
  unfold makeInterfaceR at h
  simp only at h
  cases hu : under P t with
  | none => rw [hu] at h; cases h
  | some d =>
    rw [hu] at h
    have hrun : (Instr.makeInterface t (a.eval x)).run P w = .ok (.iface t (a.eval x)) w := by
      simp only [Instr.makeInterface, Sem.run_bind, run_under hu, Result.andThen_ok]
      cases d <;> first | rfl | (cases h)
    have hres : res = .val (.iface t (eval P rs x)) := by cases d <;> first | (cases h; done) | (cases h; rfl)
    subst hres
    exact OpSim.mk (.iface t hx) (by simp only [execOp, ho, Sem.run_bind, hrun, Result.andThen_ok]; rfl)

omit ev in
theorem map_rel (ev : ∀ x, VRel r (eval P rs x) (a.eval x)) : ∀ l : List Operand, VRelL r (l.map (eval P rs)) (l.map a.eval)
  | [] => .nil
  | x :: l => .cons (ev x) (map_rel ev l)

theorem sim_makeFunc {fn : Fn} {first cap : Array Operand} (ho : o.op = .makeFunc fn first cap) :
    OpSim P r m w (execOp a.eval o) A (.val (.func fn ⟨first.toList.map (eval P rs)⟩ ⟨cap.toList.map (eval P rs)⟩)) := by
  refine ⟨.value (.func fn (first.map a.eval) (cap.map a.eval)), by simp [execOp, ho, Instr.makeFunc], ?_⟩
  exact VRel.func fn (by simpa using map_rel ev first.toList) (by simpa using map_rel ev cap.toList)

theorem sim_unOp {op : UnOp} {t : TypeId} {x : Operand} (ho : o.op = .unOp op t x) (h : unOpR P rs op x = some res) : OpSim P r m w (execOp a.eval o) A res := by
  have hx := ev x
  unfold unOpR at h
  simp only at h
  generalize hcv : a.eval x = vc at hx
  generalize eval P rs x = v at h hx
  cases op <;> cases hx <;> try (cases h; done)
  · cases h
    exact OpSim.mk (.int _ _) (by simp only [execOp, ho, hcv, Op.unary, Op.intArith, Sem.run_bind, Sem.run_pure, Result.andThen_ok])
  · cases h
    exact OpSim.mk (.int _ _) (by simp only [execOp, ho, hcv, Op.unary, Op.intBits, Sem.run_bind, Sem.run_pure, Result.andThen_ok])
  · cases h
    exact OpSim.mk (.bool _) (by simp only [execOp, ho, hcv, Op.unary, Sem.run_bind, Sem.run_pure, Result.andThen_ok])

omit ev in
theorem zero_rel_ok : True := trivial

theorem sim_typeAssert {x : Operand} {xt t : TypeId} {ok : Bool} (hz : ∀ z, zeroT P t = some z → VRel r z z) (ho : o.op = .typeAssert x xt t ok) (h : typeAssertR P rs x t ok = some res) : OpSim P r m w (execOp a.eval o) A res := by
  have hx := ev x
  unfold typeAssertR at h
  simp only at h
  generalize hcv : a.eval x = vc at hx
  generalize eval P rs x = v at h hx
  cases hu : under P t with
  | none => simp [hu] at h
  | some d =>
    simp only [hu] at h
    have hd : ∀ ms, d ≠ .interface ms := fun ms e => by subst e; simp at h
    have key : ∀ q : Sem Value, (Instr.typeAssert vc xt t ok) = q → True := fun _ _ => trivial
    cases hx <;> try (cases d <;> cases h; done)
    case iface u v v' hv =>
      have h' : (if u = t then some (OpR.val (if ok then .tuple #[v, .bool true] else v)) else if ok then (zeroT P t).map fun z => .val (.tuple #[z, .bool false]) else none) = some res := by
        cases d <;> first | exact h | exact absurd rfl (hd _)
      by_cases e : u = t
      · rw [if_pos e] at h'
        cases h'
        refine ⟨.value (if ok then .tuple #[v', .bool true] else v'), ?_, ?_⟩
        · cases d <;> first | exact absurd rfl (hd _) | (simp only [execOp, ho, hcv, Instr.typeAssert, Sem.run_bind, run_under hu, Result.andThen_ok, if_pos e]; cases ok <;> rfl)
        · cases ok
          · exact hv
          · exact VRel.tuple (.cons hv (.cons (.bool _) .nil))
      · rw [if_neg e] at h'
        cases ok with
        | false => cases h'
        | true =>
          simp only [if_true] at h'
          cases hzz : zeroT P t with
          | none => simp [hzz] at h'
          | some z =>
            simp [hzz] at h'; subst h'
            refine ⟨.value (.tuple #[z, .bool false]), ?_, VRel.tuple (.cons (hz z hzz) (.cons (.bool _) .nil))⟩
            cases d <;> first | exact absurd rfl (hd _) | (simp [execOp, ho, hcv, Instr.typeAssert, run_under hu, e, run_zeroT hzz])
    case nilIface =>
      have h' : (if ok then (zeroT P t).map fun z => OpR.val (.tuple #[z, .bool false]) else none) = some res := by
        cases d <;> first | exact h | exact absurd rfl (hd _)
      cases ok with
      | false => cases h'
      | true =>
        simp only [if_true] at h'
        cases hzz : zeroT P t with
        | none => simp [hzz] at h'
        | some z =>
          simp [hzz] at h'; subst h'
          refine ⟨.value (.tuple #[z, .bool false]), ?_, VRel.tuple (.cons (hz z hzz) (.cons (.bool _) .nil))⟩
          cases d <;> first | exact absurd rfl (hd _) | (simp [execOp, ho, hcv, Instr.typeAssert, run_under hu, run_zeroT hzz])

end
end Go.Am
