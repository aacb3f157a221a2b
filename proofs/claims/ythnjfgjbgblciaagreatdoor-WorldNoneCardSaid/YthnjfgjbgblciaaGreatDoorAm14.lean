import Derived.Test.YthnjfgjbgblciaaGreatDoorAm13
/-
  THE ABSTRACT MACHINE, 14: the language's own functions but append.
-/
namespace Go.Am

section
variable {P : Program} {r : Ren} {m : Mem} {w : World} {rs : Rs} {a : Act} {o : Oper} {A : Prop} {res : OpR}

theorem exec_builtin {c : Call} {b : Builtin} (ho : o.op = .call c) (hc : c.callee = .builtin b) :
    ∃ consts, execOp a.eval o = builtin b c.argTypes o.type consts ⟨c.args.toList.map a.eval⟩ := by
  refine ⟨c.args.map fun | .const _ => true | _ => false, ?_⟩
  simp only [execOp, ho, resolve, hc]
  have : c.args.map a.eval = ⟨c.args.toList.map a.eval⟩ := by apply Array.ext'; simp
  rw [this]
  rfl

theorem arg0 {l l' : List Value} (h : VRelL r l l') {v : Value} (hv : (l[0]? : Option Value) = some v) : ∃ v', ((⟨l'⟩ : Array Value)[0]? : Option Value) = some v' ∧ VRel r v v' := by
  obtain ⟨v', h1, h2⟩ := h.get hv
  exact ⟨v', by simpa using h1, h2⟩

theorem arg1 {l l' : List Value} (h : VRelL r l l') {v : Value} (hv : (l[1]? : Option Value) = some v) : ∃ v', ((⟨l'⟩ : Array Value)[1]? : Option Value) = some v' ∧ VRel r v v' := by
  obtain ⟨v', h1, h2⟩ := h.get hv
  exact ⟨v', by simpa using h1, h2⟩

/-- One of the language's functions that answers a value. -/
def BSim (P : Program) (r : Ren) (m : Mem) (w : World) (s : Sem Value) (A : Prop) : OpR → Prop := OpSim P r m w (do pure (.value (← s))) A

theorem BSim.val {s : Sem Value} {v v' : Value} (hv : VRel r v v') (h : s.run P w = .ok v' w) : BSim P r m w s A (.val v) :=
  OpSim.mk hv (by simp only [Sem.run_bind, h, Result.andThen_ok, Sem.run_pure])

theorem BSim.step {s : Sem Value} {t : Tr} {v v' : Value} {w' : World} (h : s.run P w = .ok v' w') (hh : HRel P r ⟨t, m.n⟩ w' ∧ Evo r m w r ⟨t, m.n⟩ w') (hv : VRel r v v') : BSim P r m w s A (.step v t) :=
  OpSim.mkStep (nx := .value v') (by simp only [Sem.run_bind, h, Result.andThen_ok, Sem.run_pure]) hh hv

theorem under_of_arg {ts : Array TypeId} {d : TypeDesc} (h : (ts[0]?).bind (under P) = some d) : ∃ t, ts[0]? = some t ∧ under P t = some d := by
  cases ht : ts[0]? with
  | none => simp [ht] at h
  | some t => rw [ht] at h; exact ⟨t, rfl, h⟩

theorem sim_len (hm : HRel P r m w) {ts : Array TypeId} {ty : TypeId} {l l' : List Value} (hl : VRelL r l l') (h : builtinR P m.t .len ts ty l = some res) : BSim P r m w (Builtin.len_ ts ty ⟨l'⟩) A res := by
  simp only [builtinR] at h
  cases hu : (ts[0]?).bind (under P) with
  | none => simp [hu] at h
  | some d =>
    obtain ⟨t, ht, hut⟩ := under_of_arg hu
    cases hx : (l[0]? : Option Value) with
    | none => rw [hu, hx] at h; cases d <;> cases h
    | some v =>
      obtain ⟨v', h1, h2⟩ := arg0 hl hx
      rw [hu, hx] at h
      cases d <;> try (cases h; done)
      case string =>
        cases h2 <;> try (cases h; done)
        cases h
        exact BSim.val (.int _ _) (by simp only [Builtin.len_, ht, h1, Sem.run_bind, run_under hut, Result.andThen_ok]; rfl)
      case slice el =>
        cases h2 <;> try (cases h; done)
        all_goals cases h; exact BSim.val (.int _ _) (by simp only [Builtin.len_, ht, h1, Sem.run_bind, run_under hut, Result.andThen_ok]; rfl)
      case map k el =>
        cases h2 <;> try (cases h; done)
        case mnil => cases h; exact BSim.val (.int _ _) (by simp only [Builtin.len_, ht, h1, Sem.run_bind, run_under hut, Result.andThen_ok]; rfl)
        case map id e hr =>
          replace h : (mapAt m.t id).map (fun q => OpR.val (.int .i64 q.1.length)) = some res := h
          cases hmap : mapAt m.t id with
          | none => simp [hmap] at h
          | some q =>
            obtain ⟨es, c⟩ := q
            simp [hmap] at h; subst h
            obtain ⟨es', h3, h4⟩ := map_of hm hr hmap
            have hle := h4.length
            simp only [Array.length_toList] at hle
            refine BSim.val (.int _ _) ?_
            simp only [Builtin.len_, ht, h1, Sem.run_bind, run_under hut, Result.andThen_ok, run_getObj_map h3, Sem.run_pure, goInt, hle]

theorem sim_cap {ts : Array TypeId} {ty : TypeId} {l l' : List Value} (hl : VRelL r l l') (h : builtinR P m.t .cap ts ty l = some res) : BSim P r m w (Builtin.cap_ ts ty ⟨l'⟩) A res := by
  simp only [builtinR] at h
  cases hu : (ts[0]?).bind (under P) with
  | none => simp [hu] at h
  | some d =>
    obtain ⟨t, ht, hut⟩ := under_of_arg hu
    cases hx : (l[0]? : Option Value) with
    | none => rw [hu, hx] at h; cases d <;> cases h
    | some v =>
      obtain ⟨v', h1, h2⟩ := arg0 hl hx
      rw [hu, hx] at h
      cases d <;> try (cases h; done)
      case slice el =>
        cases h2 <;> try (cases h; done)
        case snil => cases h; exact BSim.val (.int _ _) (by simp only [Builtin.cap_, ht, h1, Sem.run_bind, run_under hut, Result.andThen_ok]; rfl)
        case slice id off off' len cap cap' sp e hr hoff hc hle hsx hrm hb47 ha =>
          replace h : (if sp = some 1 then some (OpR.val (.int .i64 cap)) else none) = some res := h
          split at h <;> cases h
          rename_i hsp
          have := hsx hsp
          subst this
          exact BSim.val (.int _ _) (by simp only [Builtin.cap_, ht, h1, Sem.run_bind, run_under hut, Result.andThen_ok]; rfl)

theorem run_minL {k : IntKind} : ∀ {l l' : List Value} {x : Int} {v : Value}, VRelL r l l' → minL true k x l = some v → (l'.foldlM Builtin.min2 (.int k x)).run P w = .ok v w ∧ VRel r v v
  | [], _, x, v, .nil, h => by cases h; exact ⟨rfl, .int _ _⟩
  | u :: l, _, x, v, .cons hu ht, h => by
    cases hu <;> try (cases h; done)
    rename_i j y
    simp only [minL] at h
    split at h
    · rename_i hk
      subst hk
      simp only [if_true] at h
      obtain ⟨h1, h2⟩ := run_minL ht h
      exact ⟨by simp only [List.foldlM_cons, Builtin.min2, Sem.run_bind, Sem.run_pure, Result.andThen_ok, h1], h2⟩
    · cases h

theorem run_maxL {k : IntKind} : ∀ {l l' : List Value} {x : Int} {v : Value}, VRelL r l l' → minL false k x l = some v → (l'.foldlM Builtin.max2 (.int k x)).run P w = .ok v w ∧ VRel r v v
  | [], _, x, v, .nil, h => by cases h; exact ⟨rfl, .int _ _⟩
  | u :: l, _, x, v, .cons hu ht, h => by
    cases hu <;> try (cases h; done)
    rename_i j y
    simp only [minL] at h
    split at h
    · rename_i hk
      subst hk
      simp only [Bool.false_eq_true, if_false] at h
      obtain ⟨h1, h2⟩ := run_maxL ht h
      exact ⟨by simp only [List.foldlM_cons, Builtin.max2, Sem.run_bind, Sem.run_pure, Result.andThen_ok]; exact h1, h2⟩
    · cases h

theorem sim_min {ts : Array TypeId} {ty : TypeId} {l l' : List Value} (hl : VRelL r l l') (h : builtinR P m.t .min ts ty l = some res) : BSim P r m w (Builtin.min_ ts ty ⟨l'⟩) A res := by
  simp only [builtinR] at h
  cases hv : minR true l with
  | none => simp [hv] at h
  | some v =>
    simp [hv] at h; subst h
    cases hl with
    | nil => cases hv
    | cons hx ht =>
      cases hx <;> try (cases hv; done)
      obtain ⟨h1, h2⟩ := run_minL (P := P) (w := w) ht hv
      exact BSim.val h2 (by simpa [Builtin.min_] using h1)

theorem sim_max {ts : Array TypeId} {ty : TypeId} {l l' : List Value} (hl : VRelL r l l') (h : builtinR P m.t .max ts ty l = some res) : BSim P r m w (Builtin.max_ ts ty ⟨l'⟩) A res := by
  simp only [builtinR] at h
  cases hv : minR false l with
  | none => simp [hv] at h
  | some v =>
    simp [hv] at h; subst h
    cases hl with
    | nil => cases hv
    | cons hx ht =>
      cases hx <;> try (cases hv; done)
      obtain ⟨h1, h2⟩ := run_maxL (P := P) (w := w) ht hv
      exact BSim.val h2 (by simpa [Builtin.max_] using h1)

theorem sim_delete (hm : HRel P r m w) {ts : Array TypeId} {ty : TypeId} {l l' : List Value} (hl : VRelL r l l') (h : builtinR P m.t .delete ts ty l = some res) : BSim P r m w (Builtin.delete_ ts ty ⟨l'⟩) A res := by
  simp only [builtinR] at h
  cases hu : (ts[0]?).bind (under P) with
  | none => simp [hu] at h
  | some d =>
    obtain ⟨t, ht, hut⟩ := under_of_arg hu
    cases hx : (l[0]? : Option Value) with
    | none => rw [hu, hx] at h; cases d <;> cases h
    | some v =>
      obtain ⟨v', h1, h2⟩ := arg0 hl hx
      cases hy : (l[1]? : Option Value) with
      | none => rw [hu, hx, hy] at h; cases d <;> cases h
      | some kv =>
        obtain ⟨kc, h3, h4⟩ := arg1 hl hy
        rw [hu, hx, hy] at h
        cases d <;> try (cases h; done)
        rename_i kt el
        simp only at h
        split at h
        · rename_i hp
          have hkk : kc = kv := by
            rcases plainKey_spec hp with ⟨j, n, _, rfl⟩ | ⟨s, _, rfl⟩ | ⟨q, _, rfl⟩ <;> cases h4 <;> rfl
          subst hkk
          cases h2 <;> try (cases h; done)
          case mnil =>
            cases h
            exact BSim.val (.tuple .nil) (by simp [Builtin.delete_, ht, h1, h3, run_under hut, run_checkKey _ hp])
          case map id e hr =>
            simp only at h
            cases hmap : mapAt m.t id with
            | none => simp [hmap] at h
            | some q =>
              obtain ⟨es, c⟩ := q
              simp only [hmap] at h
              obtain ⟨es', h5, h6⟩ := map_of hm hr hmap
              cases hf : findKey kc es 0 with
              | none => simp [hf] at h
              | some q =>
                obtain ⟨q', h7, h8⟩ := run_findKey (P := P) (w := w) hp h6 hf
                rcases h8 with ⟨rfl, rfl⟩ | ⟨j, v1, v2, e0, rfl, rfl, _, h10, _⟩
                · simp only [hf] at h
                  cases h
                  have hw := map_write (c' := c) hm hr hmap h5 (out := es) (out' := es') h6
                  refine BSim.step (v' := .tuple #[]) ?_ hw (.tuple .nil)
                  simp [Builtin.delete_, ht, h1, h3, run_under hut, run_checkKey _ hp, run_getObj_map h5, h7, run_setObj_map _ h5]
                · simp only [hf] at h
                  cases h
                  have hj : j < es'.size := by
                    have := (List.getElem?_eq_some_iff.1 h10).1
                    have := h6.length
                    simp at this; omega
                  have hw := map_write (c' := c) hm hr hmap h5 (out := es.eraseIdx j) (out' := es'.eraseIdxIfInBounds j) (by
                    rw [Array.toList_eraseIdxIfInBounds]; exact h6.eraseIdx j)
                  refine BSim.step (v' := .tuple #[]) ?_ hw (.tuple .nil)
                  simp [Builtin.delete_, ht, h1, h3, run_under hut, run_checkKey _ hp, run_getObj_map h5, h7, run_setObj_map _ h5]
        · cases h

/-- What is read at the head of a slice, or of a string. -/
theorem head_cells (hm : HRel P r m w) {size k : Nat} {x x' : Value} {new : List Value} (hx : VRel r x x') (hk : ∀ n, lenOfV x = some n → k ≤ n) (h : headCells m.t size k x = some new) :
    ∃ new', (Builtin.firstCells size k x').run P w = .ok ⟨new'⟩ w ∧ VRelL r new new' := by
  unfold headCells at h
  cases hx <;> try (cases h; done)
  case snil =>
    simp only at h
    split at h <;> cases h
    exact ⟨[], rfl, .nil⟩
  case string s =>
    cases h
    refine ⟨cellsOfBytes (s.data.toList.take k), ?_, ?_⟩
    · simp only [Builtin.firstCells, Sem.run_pure, bytes_extract]
      congr 1
      apply Array.ext'
      simp [cellsOfBytes]
    · exact VRelL.map _ _ (fun _ => .int _ _) _
  case slice id off off' len cap cap' sp e hr hoff hc hle hsx hrm hb47 ha =>
    simp only at h
    obtain ⟨l', h1, h2, h3⟩ := cells_of hm hr h
    refine ⟨l', ?_, h2⟩
    simp only [Builtin.firstCells]
    have hkl : k ≤ len := hk len rfl
    rcases Nat.eq_zero_or_pos cap with hz | hz
    · have : k = 0 := by omega
      subst this
      have : l' = [] := List.eq_nil_of_length_eq_zero (by rw [h1]; simp)
      subst this
      rw [Nat.zero_mul]; rfl
    · rw [hoff hz, ← h1]
      exact run_loadCells (P := P) h3

theorem lenOf_rel {x x' : Value} {n : Nat} (hx : VRel r x x') (h : lenOfV x = some n) : Builtin.lenOf x' = Sem.pure n := by
  unfold lenOfV at h
  cases hx <;> first | (cases h; done) | (cases h; rfl)

theorem sim_copy (hm : HRel P r m w) {ts : Array TypeId} {ty : TypeId} {l l' : List Value} (hl : VRelL r l l') (h : builtinR P m.t .copy ts ty l = some res) : BSim P r m w (Builtin.copy_ ts ty ⟨l'⟩) A res := by
  simp only [builtinR] at h
  cases hu : (ts[0]?).bind (under P) with
  | none => simp [hu] at h
  | some d =>
    obtain ⟨t, ht, hut⟩ := under_of_arg hu
    cases hx : (l[0]? : Option Value) with
    | none => rw [hu, hx] at h; cases d <;> cases h
    | some v =>
      obtain ⟨v', h1, h2⟩ := arg0 hl hx
      cases hy : (l[1]? : Option Value) with
      | none => rw [hu, hx, hy] at h; cases d <;> cases v <;> cases h
      | some x =>
        obtain ⟨x', h3, h4⟩ := arg1 hl hy
        rw [hu, hx, hy] at h
        cases d <;> try (cases h; done)
        rename_i el
        have hmin : ∀ k dLen n, lenOfV x = some k → n = Nat.min k dLen → ∀ q, lenOfV x = some q → n ≤ q := by
          intro k dLen n hk hn q hq
          rw [hk] at hq; cases hq
          rw [hn]; exact Nat.min_le_left _ _
        cases h2 <;> try (cases h; done)
        case snil =>
          simp only at h
          cases hs : sizeT P el with
          | none => simp [hs] at h
          | some s =>
            cases hk : lenOfV x with
            | none => simp [hs, hk] at h
            | some k =>
              simp only [hs, hk] at h
              cases hh : headCells m.t s (Nat.min k 0) x with
              | none => rw [hh] at h; cases h
              | some cs =>
                rw [hh] at h; cases h
                obtain ⟨new', h5, h6⟩ := head_cells (P := P) hm h4 (hmin k 0 _ hk rfl) hh
                refine BSim.val (.int _ _) ?_
                simp only [Builtin.copy_, ht, h1, h3, Sem.run_bind, run_under hut, Result.andThen_ok, lenOf_rel h4 hk, Sem.run_pure', run_sizeT hs, h5]
                rfl
        case slice id off off' len cap cap' sp e hr hoff hc hle hsx hrm hb47 ha =>
          simp only at h
          cases hs : sizeT P el with
          | none => simp [hs] at h
          | some s =>
            cases hk : lenOfV x with
            | none => simp [hs, hk] at h
            | some k =>
              simp only [hs, hk] at h
              cases hh : headCells m.t s (Nat.min k len) x with
              | none => rw [hh] at h; cases h
              | some cs =>
                rw [hh] at h
                simp only at h
                cases hst : storeAt m.t id off cs with
                | none => simp [hst] at h
                | some t' =>
                  simp [hst] at h; subst h
                  obtain ⟨new', h5, h6⟩ := head_cells (P := P) hm h4 (hmin k len _ hk rfl) hh
                  obtain ⟨w', h7, h8⟩ := store_row (P := P) hm hr hst h6 (off' := off') (fun hne => by
                    rcases Nat.eq_zero_or_pos cap with hz | hz
                    · exfalso
                      have hl0 : len = 0 := by omega
                      subst hl0
                      have hcs : cs = [] := by
                        unfold headCells at hh
                        cases x <;> simp at hh
                        · rw [← hh]; rfl
                        · rename_i ao ln cp
                          cases ao with
                          | none => simp at hh; exact hh
                          | some ad => simp at hh; exact List.eq_nil_of_length_eq_zero (cellsAt_length hh)
                      exact hne hcs
                    · exact hoff hz)
                  refine BSim.step (v' := .int .i64 (Nat.min k len)) ?_ h8 (.int _ _)
                  simp only [Builtin.copy_, ht, h1, h3, Sem.run_bind, run_under hut, Result.andThen_ok, lenOf_rel h4 hk, Sem.run_pure', run_sizeT hs, h5, h7]
                  rfl

theorem sim_clear (hP : PGood P) (hm : HRel P r m w) {ts : Array TypeId} {ty : TypeId} {l l' : List Value} (hl : VRelL r l l') (h : builtinR P m.t .clear ts ty l = some res) : BSim P r m w (Builtin.clear_ ts ty ⟨l'⟩) A res := by
  simp only [builtinR] at h
  cases hu : (ts[0]?).bind (under P) with
  | none => simp [hu] at h
  | some d =>
    obtain ⟨t, ht, hut⟩ := under_of_arg hu
    cases hx : (l[0]? : Option Value) with
    | none => rw [hu, hx] at h; cases d <;> cases h
    | some v =>
      obtain ⟨v', h1, h2⟩ := arg0 hl hx
      rw [hu, hx] at h
      cases d <;> try (cases h; done)
      rename_i el
      cases h2 <;> try (cases h; done)
      case snil =>
        cases h
        exact BSim.val (.tuple .nil) (by simp [Builtin.clear_, ht, h1, run_under hut])
      case slice id off off' len cap cap' sp e hr hoff hc hle hsx hrm hb47 ha =>
        simp only at h
        split at h
        · rename_i h0
          cases h
          subst h0
          exact BSim.val (.tuple .nil) (by simp [Builtin.clear_, ht, h1, run_under hut])
        · rename_i hn0
          cases hz : zeroT P el with
          | none => simp [hz] at h
          | some z =>
            simp only [hz] at h
            cases hst : storeAt m.t id off (repCells z.cells.toList len) with
            | none => simp [hst] at h
            | some t' =>
              simp [hst] at h; subst h
              obtain ⟨w', h7, h8⟩ := store_row (P := P) hm hr hst (rep_rel (zero_cells hP hz) len) (off' := off') (fun _ => hoff (by omega))
              obtain ⟨q, rfl⟩ : ∃ q, len = q + 1 := ⟨len - 1, by omega⟩
              refine BSim.step (v' := .tuple #[]) ?_ h8 (.tuple .nil)
              have hzc : (Builtin.zeroCells z.cells (q + 1)).toList = repCells z.cells.toList (q + 1) := by
                rw [← rep_array]; rfl
              simp only [Builtin.clear_, ht, h1, Sem.run_bind, run_under hut, Result.andThen_ok, run_zeroT hz, hzc, h7, Sem.run_pure]

end
end Go.Am
