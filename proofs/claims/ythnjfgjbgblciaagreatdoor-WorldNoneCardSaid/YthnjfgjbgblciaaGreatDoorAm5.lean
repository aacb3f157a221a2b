import Derived.Test.YthnjfgjbgblciaaGreatDoorAm4
/-
  THE ABSTRACT MACHINE, 5: what reads memory.
-/
namespace Go.Am

/-- What is taken of the program. -/
structure PGood (P : Program) : Prop where
  zero : ∀ t z, zeroT P t = some z → goodZ z = true
  zsize : ∀ t z s, zeroT P t = some z → sizeT P t = some s → z.cells.size = s
  fsize : ∀ t fields z, zeroT P t = some z → under P t = some (.struct fields) → ∀ f ∈ fields.toList, (sizeT P f.type).isSome = true
  mixed : P.follows .mixedOrders = true
  next : ∀ (f : FuncId) (fn : Func), P.funcs[f]? = some fn → fn.body.isNone = true → (fn.name = "internal/abi.NoEscape" ∨ fn.name = "internal/bytealg.MakeNoZero" ∨ fn.name = "internal/bytealg.abigen_runtime_cmpstring") → Extern.findNext fn = none

theorem allL_rel {r : Ren} : ∀ {l : List Value}, allL constOk l = true → VRelL r l l
  | [], _ => .nil
  | v :: l, h => by
    simp only [allL, Bool.and_eq_true] at h
    exact .cons (VRel.const h.1) (allL_rel h.2)

theorem goodZ_rel {r : Ren} {z : Value} (h : goodZ z = true) : VRel r z z := by
  unfold goodZ at h
  split at h
  · exact .agg (allL_rel h)
  · exact VRel.const h

theorem goodZ_junk {z : Value} (h : goodZ z = true) : isJunk z = false := by
  cases z <;> first | rfl | (simp [goodZ, constOk] at h)

theorem VRel.cells {r : Ren} {v v' : Value} (h : VRel r v v') (hj : isJunk v = false) : VRelL r v.cells.toList v'.cells.toList := by
  cases h <;> first
    | (simp [isJunk] at hj; done)
    | (rename_i h; exact h)
    | (refine .cons ?_ .nil; constructor <;> assumption)
    | (refine .cons ?_ .nil; constructor)

section
variable {P : Program} {r : Ren} {m : Mem} {w : World} {rs : Rs} {a : Act} {o : Oper} {A : Prop} {res : OpR}

theorem add_none (b off n : Nat) : (Addr.mk b off none).add n = ⟨b, off + n, none⟩ := by
  unfold Addr.add
  split
  · rename_i h; subst h; rfl
  · rfl

theorem row_of (hm : HRel P r m w) {id : Nat} {e : Ent} {cs : List Value} {t : TypeId} {fz : Nat} (hr : r id = some e) (hg : rowAt m.t id = some (cs, t, fz)) :
    ORel P r e w.heap[e.b]? (.row cs t fz) := by
  unfold rowAt at hg
  split at hg <;> cases hg
  rename_i h
  exact hm.obj _ _ _ hr h

theorem rowAt_get {h : Tr} {id : Nat} {cs : List Value} {t : TypeId} {fz : Nat} (hg : rowAt h id = some (cs, t, fz)) : h.get id = some (.row cs t fz) := by
  unfold rowAt at hg
  split at hg <;> cases hg
  assumption

theorem mapAt_get {h : Tr} {id : Nat} {es : List MapEntry} {c : Nat} (hg : mapAt h id = some (es, c)) : h.get id = some (.map es c) := by
  unfold mapAt at hg
  split at hg <;> cases hg
  assumption

theorem cell_of (hm : HRel P r m w) {id i : Nat} {e : Ent} {cs : List Value} {t : TypeId} {fz : Nat} {v : Value} (hr : r id = some e) (hg : rowAt m.t id = some (cs, t, fz)) (hv : cs[i]? = some v) :
    ∃ v', w.cell? ⟨e.b, e.d + i, none⟩ = some v' ∧ VRel r v v' := by
  obtain ⟨c, lo, hi, h1, h2, h3, h4, _⟩ := row_of hm hr hg
  obtain ⟨v', h5, h6⟩ := h4.get hv
  refine ⟨v', ?_, h6⟩
  have hlt : i < cs.length := (List.getElem?_eq_some_iff.1 hv).1
  rw [List.getElem?_take, if_pos hlt, List.getElem?_drop] at h5
  simp only [World.cell?, h1]
  simpa using h5

/-- Some cells of a row, read one after the other. -/
theorem run_loadCellsFrom (b : Nat) : ∀ (cells : List Value) (off i : Nat) (acc : Array Value), (∀ k v, cells[k]? = some v → w.cell? ⟨b, off + (i + k), none⟩ = some v) →
    (loadCellsFrom ⟨b, off, none⟩ i cells.length acc).run P w = .ok (acc ++ cells.toArray) w
  | [], off, i, acc, _ => by simp [loadCellsFrom]
  | v :: l, off, i, acc, h => by
    have h0 := h 0 v rfl
    simp only [List.length_cons, loadCellsFrom, Sem.run_bind, add_none, run_load]
    rw [show off + i = off + (i + 0) from rfl, h0]
    simp only [Result.andThen_ok]
    rw [run_loadCellsFrom b l off (i + 1) (acc.push v) (fun k u hu => by rw [show i + 1 + k = i + (k + 1) from by omega]; exact h (k + 1) u (by simpa using hu))]
    simp

theorem run_loadCells {b off : Nat} {cells : List Value} (h : ∀ k v, cells[k]? = some v → w.cell? ⟨b, off + k, none⟩ = some v) :
    (loadCells ⟨b, off, none⟩ cells.length).run P w = .ok ⟨cells⟩ w := by
  unfold loadCells
  rw [run_loadCellsFrom (P := P) b cells off 0 #[] (fun k v hv => by simpa using h k v hv)]
  simp

/-- Cells of an abstract row: in the world as well. -/
theorem cells_of (hm : HRel P r m w) {id off n : Nat} {e : Ent} {l : List Value} (hr : r id = some e) (hg : cellsAt m.t id off n = some l) :
    ∃ l', l'.length = n ∧ VRelL r l l' ∧ ∀ k v, l'[k]? = some v → w.cell? ⟨e.b, e.d + off + k, none⟩ = some v := by
  unfold cellsAt at hg
  split at hg
  · rename_i cs t fz hrow
    split at hg <;> cases hg
    rename_i hle
    obtain ⟨c, lo, hi, h1, h2, h3, h4, _⟩ := row_of hm hr hrow
    refine ⟨((c.toList.drop (e.d + off)).take n), ?_, ?_, ?_⟩
    · have : c.toList.length = c.size := by simp
      simp only [List.length_take, List.length_drop, Array.length_toList]; omega
    · have := (h4.drop off).take n
      rw [List.drop_take, List.take_take, List.drop_drop] at this
      rwa [Nat.min_eq_left (by omega)] at this
    · intro k v hv
      rw [List.getElem?_take] at hv
      split at hv
      · rw [List.getElem?_drop] at hv
        simp only [World.cell?, h1]
        simpa using hv
      · cases hv
  · cases hg

theorem cellsAt_length {h : Tr} {id off n : Nat} {l : List Value} (hg : cellsAt h id off n = some l) : l.length = n := by
  unfold cellsAt at hg
  split at hg
  · split at hg <;> cases hg
    simp; omega
  · cases hg

theorem run_loadT (hm : HRel P r m w) {t : TypeId} {id off : Nat} {e : Ent} {v : Value} (hr : r id = some e) (h : loadT P m.t t id off = some v) :
    ∃ v', (loadVar t ⟨e.b, e.d + off, none⟩).run P w = .ok v' w ∧ VRel r v v' := by
  unfold loadT at h
  cases hagg : aggT P t with
  | none => simp [hagg] at h
  | some b =>
    cases b with
    | true =>
      simp only [hagg] at h
      cases hs : sizeT P t with
      | none => simp [hs] at h
      | some s =>
        simp only [hs] at h
        cases hc : cellsAt m.t id off s with
        | none => simp [hc] at h
        | some l =>
          simp [hc] at h; subst h
          obtain ⟨l', h1, h2, h3⟩ := cells_of hm hr hc
          refine ⟨.agg ⟨l'⟩, ?_, .agg h2⟩
          simp only [loadVar, Sem.run_bind, run_aggT hagg, Result.andThen_ok, if_true, run_sizeT hs]
          rw [← h1, run_loadCells (P := P) h3]
          rfl
    | false =>
      simp only [hagg] at h
      split at h
      · rename_i cs t' fz hrow
        obtain ⟨v', h1, h2⟩ := cell_of hm hr hrow h
        refine ⟨v', ?_, h2⟩
        simp only [loadVar, Sem.run_bind, run_aggT hagg, Result.andThen_ok, Bool.false_eq_true, if_false, run_load, h1]
      · cases h

variable (ev : ∀ x, VRel r (eval P rs x) (a.eval x))
include ev

theorem sim_load (hm : HRel P r m w) {t : TypeId} {x : Operand} (ho : o.op = .load t x) (h : loadR P m.t rs t x = some res) : OpSim P r m w (execOp a.eval o) A res := by
  have hx := ev x
  unfold loadR at h
  simp only at h
  generalize hcv : a.eval x = vc at hx
  generalize eval P rs x = v at h hx
  cases hx <;> try (cases h; done)
  case ptr id off e hr =>
    replace h : (loadT P m.t t id off).map OpR.val = some res := h
    cases hl : loadT P m.t t id off with
    | none => simp [hl] at h
    | some v =>
      simp [hl] at h; subst h
      obtain ⟨v', h1, h2⟩ := run_loadT hm hr hl
      exact OpSim.mk h2 (by simp only [execOp, ho, hcv, Instr.loadAt, Instr.sureAddr, Sem.run_bind, Sem.run_pure, Result.andThen_ok, h1])

theorem sim_fieldAddr {s : TypeId} {x : Operand} {f : Nat} (ho : o.op = .fieldAddr s x f) (h : fieldAddrR P rs s x f = some res) : OpSim P r m w (execOp a.eval o) A res := by
  have hx := ev x
  unfold fieldAddrR at h
  simp only at h
  generalize hcv : a.eval x = vc at hx
  generalize eval P rs x = v at h hx
  cases hu : under P s with
  | none => simp [hu] at h
  | some d =>
    cases d <;> try (simp [hu] at h; done)
    rename_i fields
    cases hx <;> try (simp [hu] at h; done)
    case ptr id off e hr =>
      simp only [hu] at h
      cases hf : fields[f]? with
      | none => simp [hf] at h
      | some fl =>
        simp only [hf] at h
        cases hs : sizeT P fl.type with
        | none => simp [hs] at h
        | some k =>
          cases k with
          | zero => simp [hs] at h
          | succ k =>
            simp [hs] at h; subst h
            refine OpSim.mk (v' := .pointer (some ⟨e.b, e.d + (off + fl.offset), none⟩)) (.ptr hr) ?_
            simp only [execOp, ho, hcv, Instr.fieldAt, Instr.sureAddr, Sem.run_bind, Sem.run_pure, Result.andThen_ok, run_under hu, hf, fieldPlace, run_sizeT hs]
            simp [add_none, Nat.add_assoc]

theorem sim_indexAddr {t : TypeId} {x ix : Operand} (ho : o.op = .indexAddr t x ix) (h : indexAddrR P rs t x ix = some res) : OpSim P r m w (execOp a.eval o) A res := by
  have hx := ev x
  have hi := ev ix
  unfold indexAddrR at h
  simp only at h
  generalize hcv : a.eval x = vc at hx
  generalize hci : a.eval ix = ic at hi
  generalize eval P rs x = v at h hx
  generalize eval P rs ix = iv at h hi
  cases hu : under P t with
  | none => simp [hu] at h
  | some d =>
    cases d <;> try (simp [hu] at h; done)
    case slice el =>
      cases hx <;> try (simp [hu] at h; done)
      case slice id off off' len cap cap' sp e hr hoff hc hl hs hrm hb ha =>
        cases hi <;> try (simp [hu] at h; done)
        rename_i k n
        simp only [hu] at h
        cases hz : sizeT P el with
        | none => simp [hz] at h
        | some s =>
          simp only [hz] at h
          split at h <;> cases h
          rename_i hb
          refine OpSim.mk (v' := .pointer (some ⟨e.b, e.d + (off + n.toNat * s), none⟩)) (.ptr hr) ?_
          have ho' : off' = e.d + off := hoff (by omega)
          simp only [execOp, ho, hcv, hci, Instr.indexAt, asIntOf, Sem.run_bind, Sem.run_pure, Result.andThen_ok, run_under hu]
          simp [hb, run_sizeT hz, add_none, ho', Nat.add_assoc]
    case array len el =>
      cases hx <;> try (simp [hu] at h; done)
      case ptr id off e hr =>
        cases hi <;> try (simp [hu] at h; done)
        rename_i k n
        simp only [hu] at h
        cases hz : sizeT P el with
        | none => simp [hz] at h
        | some s =>
          simp only [hz] at h
          split at h <;> cases h
          rename_i hb
          refine OpSim.mk (v' := .pointer (some ⟨e.b, e.d + (off + n.toNat * s), none⟩)) (.ptr hr) ?_
          simp only [execOp, ho, hcv, hci, Instr.indexAt, Instr.sureAddr, asIntOf, Sem.run_bind, Sem.run_pure, Result.andThen_ok, run_under hu]
          simp [hb, run_sizeT hz, add_none, Nat.add_assoc]

end
end Go.Am
