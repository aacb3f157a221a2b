import Derived.Test.YthnjfgjbgblciaaGreatDoorAm19
/-
  THE ABSTRACT MACHINE, 20: kinds of operations.
-/
namespace Go.Am

section
variable {P : Program} {r : Ren} {m : Mem} {w : World} {rs : Rs} {a : Act} {o : Oper} {res : OpR}

inductive Kind where
  | pure
  | look
  | alloc
  | hard
  deriving DecidableEq

/-- What an operation has to do with memory. -/
noncomputable def kindOf (P : Program) (o : Oper) : Kind :=
  match o.op with
  | .move _ | .assign _ | .pick _ _ _ | .build _ _ | .nilCheck _ | .fieldAddr _ _ _ | .indexAddr _ _ _ | .field _ _ _ | .index _ _ _ | .extract _ _ | .makeInterface _ _ | .makeFunc _ _ _ | .binOp _ _ _ _ _ | .unOp _ _ _ | .typeAssert _ _ _ _ => .pure
  | .load _ _ | .slice _ _ _ _ _ | .lookup _ _ _ _ | .entry _ => .look
  | .convert _ dst _ => match P.underlying dst with | some (.slice _) => .hard | _ => .look
  | .alloc _ | .box _ _ | .buildSlice _ _ _ | .makeSlice _ _ _ => .alloc
  | .call c => match c.callee with | .builtin .len | .builtin .cap | .builtin .min | .builtin .max | .builtin .unsafeSliceData => .look | _ => .hard
  | _ => .hard

theorem build_val {t : TypeId} {parts : Array (Nat × Operand)} (h : buildR P rs t parts = some res) : ∃ v, res = .val v := by
  unfold buildR at h
  simp only at h
  repeat' split at h
  all_goals first | (cases h; done) | (obtain ⟨_, _, rfl⟩ := Option.map_eq_some_iff.1 h; exact ⟨_, rfl⟩)

theorem index_val {t : TypeId} {x ix : Operand} (h : indexR P rs t x ix = some res) : ∃ v, res = .val v := by
  unfold indexR at h
  simp only at h
  repeat' split at h
  all_goals first | (cases h; done) | (cases h; exact ⟨_, rfl⟩) | (obtain ⟨_, _, rfl⟩ := Option.map_eq_some_iff.1 h; exact ⟨_, rfl⟩)

theorem field_val {t : TypeId} {x : Operand} {f : Nat} (h : fieldR P rs t x f = some res) : ∃ v, res = .val v := by
  unfold fieldR at h
  simp only at h
  repeat' split at h
  all_goals first | (cases h; done) | (cases h; exact ⟨_, rfl⟩) | (obtain ⟨_, _, rfl⟩ := Option.map_eq_some_iff.1 h; exact ⟨_, rfl⟩)

theorem fieldAddr_val {t : TypeId} {x : Operand} {f : Nat} (h : fieldAddrR P rs t x f = some res) : ∃ v, res = .val v := by
  unfold fieldAddrR at h
  simp only at h
  repeat' split at h
  all_goals first | (cases h; done) | (cases h; exact ⟨_, rfl⟩) | (obtain ⟨_, _, rfl⟩ := Option.map_eq_some_iff.1 h; exact ⟨_, rfl⟩)

theorem indexAddr_val {t : TypeId} {x ix : Operand} (h : indexAddrR P rs t x ix = some res) : ∃ v, res = .val v := by
  unfold indexAddrR at h
  simp only at h
  repeat' split at h
  all_goals first | (cases h; done) | (cases h; exact ⟨_, rfl⟩) | (obtain ⟨_, _, rfl⟩ := Option.map_eq_some_iff.1 h; exact ⟨_, rfl⟩)

theorem pick_val {c x y : Operand} (h : pickR P rs c x y = some res) : ∃ v, res = .val v := by
  unfold pickR at h
  simp only at h
  repeat' split at h
  all_goals first | (cases h; done) | (cases h; exact ⟨_, rfl⟩)

theorem nilCheck_val {x : Operand} (h : nilCheckR P rs x = some res) : ∃ v, res = .val v := by
  unfold nilCheckR at h
  simp only at h
  repeat' split at h
  all_goals first | (cases h; done) | (cases h; exact ⟨_, rfl⟩)

theorem extract_val {x : Operand} {i : Nat} (h : extractR P rs x i = some res) : ∃ v, res = .val v := by
  unfold extractR at h
  simp only at h
  repeat' split at h
  all_goals first | (cases h; done) | (cases h; exact ⟨_, rfl⟩) | (obtain ⟨_, _, rfl⟩ := Option.map_eq_some_iff.1 h; exact ⟨_, rfl⟩)

theorem makeInterface_val {t : TypeId} {x : Operand} (h : makeInterfaceR P rs t x = some res) : ∃ v, res = .val v := by
  unfold makeInterfaceR at h
  repeat' split at h
  all_goals first | (cases h; done) | (cases h; exact ⟨_, rfl⟩)

theorem binOp_val {fl : List TypeId} {op : BinOp} {t : TypeId} {x y : Operand} (h : binOpR P fl rs op t x y = some res) : ∃ v, res = .val v := by
  unfold binOpR at h
  simp only at h
  repeat' split at h
  all_goals first | (cases h; done) | (cases h; exact ⟨_, rfl⟩) | (obtain ⟨_, _, rfl⟩ := Option.map_eq_some_iff.1 h; exact ⟨_, rfl⟩)

theorem unOp_val {op : UnOp} {x : Operand} (h : unOpR P rs op x = some res) : ∃ v, res = .val v := by
  unfold unOpR at h
  simp only at h
  repeat' split at h
  all_goals first | (cases h; done) | (cases h; exact ⟨_, rfl⟩)

theorem typeAssert_val {x : Operand} {t : TypeId} {ok : Bool} (h : typeAssertR P rs x t ok = some res) : ∃ v, res = .val v := by
  unfold typeAssertR at h
  simp only at h
  repeat' split at h
  all_goals first | (cases h; done) | (cases h; exact ⟨_, rfl⟩) | (obtain ⟨_, _, rfl⟩ := Option.map_eq_some_iff.1 h; exact ⟨_, rfl⟩)

theorem load_val {t : TypeId} {x : Operand} (h : loadR P m.t rs t x = some res) : ∃ v, res = .val v := by
  unfold loadR at h
  simp only at h
  repeat' split at h
  all_goals first | (cases h; done) | (obtain ⟨_, _, rfl⟩ := Option.map_eq_some_iff.1 h; exact ⟨_, rfl⟩)

theorem slice_val {t : TypeId} {x : Operand} {lo hi mx : Option Operand} (h : sliceR P m.t rs t x lo hi mx = some res) : ∃ v, res = .val v := by
  unfold sliceR at h
  simp only at h
  repeat' split at h
  all_goals first | (cases h; done) | (cases h; exact ⟨_, rfl⟩)

theorem lookup_val {t : TypeId} {x k : Operand} {ok : Bool} (h : lookupR P m.t rs t x k ok = some res) : ∃ v, res = .val v := by
  unfold lookupR at h
  simp only at h
  repeat' split at h
  all_goals first | (cases h; done) | (cases h; exact ⟨_, rfl⟩)

theorem entry_val {it : Operand} (h : entryR P m.t rs it = some res) : ∃ v, res = .val v := by
  unfold entryR at h
  simp only at h
  repeat' split at h
  all_goals first | (cases h; done) | (obtain ⟨_, _, rfl⟩ := Option.map_eq_some_iff.1 h; exact ⟨_, rfl⟩)

theorem pure_val {fl : List TypeId} {h : Tr} (hk : kindOf P o = .pure) (hr : opR P fl h rs o = some res) : ∃ v, res = .val v ∧ ∀ h', opR P fl h' rs o = some (.val v) := by
  unfold kindOf at hk
  unfold opR at hr ⊢
  simp only at hr ⊢
  cases ho : o.op <;> simp only [ho] at hk hr ⊢ <;> try (cases hk; done)
  case call c => exfalso; revert hk; split <;> simp
  case convert s d x => exfalso; revert hk; split <;> simp
  case move x => exact ⟨_, (Option.some.inj hr).symm, fun _ => rfl⟩
  case assign x => exact ⟨_, (Option.some.inj hr).symm, fun _ => rfl⟩
  case makeFunc fn x y => exact ⟨_, (Option.some.inj hr).symm, fun _ => rfl⟩
  case pick => obtain ⟨v, rfl⟩ := pick_val hr; exact ⟨v, rfl, fun _ => hr⟩
  case build => obtain ⟨v, rfl⟩ := build_val hr; exact ⟨v, rfl, fun _ => hr⟩
  case nilCheck => obtain ⟨v, rfl⟩ := nilCheck_val hr; exact ⟨v, rfl, fun _ => hr⟩
  case binOp => obtain ⟨v, rfl⟩ := binOp_val hr; exact ⟨v, rfl, fun _ => hr⟩
  case unOp => obtain ⟨v, rfl⟩ := unOp_val hr; exact ⟨v, rfl, fun _ => hr⟩
  case makeInterface => obtain ⟨v, rfl⟩ := makeInterface_val hr; exact ⟨v, rfl, fun _ => hr⟩
  case fieldAddr => obtain ⟨v, rfl⟩ := fieldAddr_val hr; exact ⟨v, rfl, fun _ => hr⟩
  case field => obtain ⟨v, rfl⟩ := field_val hr; exact ⟨v, rfl, fun _ => hr⟩
  case indexAddr => obtain ⟨v, rfl⟩ := indexAddr_val hr; exact ⟨v, rfl, fun _ => hr⟩
  case index => obtain ⟨v, rfl⟩ := index_val hr; exact ⟨v, rfl, fun _ => hr⟩
  case typeAssert => obtain ⟨v, rfl⟩ := typeAssert_val hr; exact ⟨v, rfl, fun _ => hr⟩
  case extract => obtain ⟨v, rfl⟩ := extract_val hr; exact ⟨v, rfl, fun _ => hr⟩

theorem builtin_look {h : Tr} {b : Builtin} (hb : b = .len ∨ b = .cap ∨ b = .min ∨ b = .max ∨ b = .unsafeSliceData) {ts : Array TypeId} {ty : TypeId} {l : List Value} (hr : builtinR P h b ts ty l = some res) : ∃ v, res = .val v := by
  rcases hb with rfl | rfl | rfl | rfl | rfl <;> simp only [builtinR] at hr
  all_goals (repeat' split at hr)
  all_goals first | (cases hr; done) | (cases hr; exact ⟨_, rfl⟩) | (obtain ⟨_, _, rfl⟩ := Option.map_eq_some_iff.1 hr; exact ⟨_, rfl⟩)

theorem look_val {fl : List TypeId} (hk : kindOf P o = .look) (hr : opR P fl m.t rs o = some res) : ∃ v, res = .val v := by
  unfold kindOf at hk
  unfold opR at hr
  simp only at hr
  cases ho : o.op <;> simp only [ho] at hk hr <;> try (cases hk; done)
  case load => exact load_val hr
  case slice => exact slice_val hr
  case lookup => exact lookup_val hr
  case entry => exact entry_val hr
  case convert s d x =>
    rcases convert_cases hr with h | ⟨e, _, _, h, _⟩
    · exact h
    · have h : P.underlying d = some (.slice e) := h
      rw [h] at hk; cases hk
  case call c =>
    unfold callOpR at hr
    simp only at hr
    split at hk
    · rename_i hc; rw [hc] at hr; exact builtin_look (.inl rfl) hr
    · rename_i hc; rw [hc] at hr; exact builtin_look (.inr (.inl rfl)) hr
    · rename_i hc; rw [hc] at hr; exact builtin_look (.inr (.inr (.inl rfl))) hr
    · rename_i hc; rw [hc] at hr; exact builtin_look (.inr (.inr (.inr (.inl rfl)))) hr
    · rename_i hc; rw [hc] at hr; exact builtin_look (.inr (.inr (.inr (.inr rfl)))) hr
    · cases hk

theorem alloc_sim (hP : PGood P) {fl : List TypeId} (ev : ∀ x, VRel r (eval P rs x) (a.eval x)) (hk : kindOf P o = .alloc) (hr : opR P fl m.t rs o = some res) : ∃ x v, res = .alloc x v ∧ AllocSim P r w (execOp a.eval o) x v := by
  unfold kindOf at hk
  unfold opR at hr
  simp only at hr
  cases ho : o.op <;> simp only [ho] at hk hr <;> try (cases hk; done)
  case call c => exfalso; revert hk; split <;> simp
  case convert s d x => exfalso; revert hk; split <;> simp
  case alloc => exact asim_alloc hP ho hr
  case box => exact asim_box ev ho hr
  case buildSlice => exact asim_buildSlice ev hP ho hr
  case makeSlice => exact asim_makeSlice ev hP ho hr

end
end Go.Am
