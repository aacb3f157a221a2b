import Derived.Test.YthnjfgjbgblciaaGreatDoorGA
import Derived.Laws.BytesString
import Derived.IntWalk
/-
  THE ABSTRACT MACHINE, 7: parts of values, slices, conversions, look-ups.
-/
namespace Go.Am

section
variable {P : Program} {r : Ren} {m : Mem} {w : World} {rs : Rs} {a : Act} {o : Oper} {A : Prop} {res : OpR}

theorem run_part_agg {t : TypeId} {s off : Nat} (hg : aggT P t = some true) (hs : sizeT P t = some s) (cs : Array Value) :
    (part t cs off).run P w = .ok (.agg (cs.extract off (off + s))) w := by
  simp only [part, Sem.run_bind, run_aggT hg, Result.andThen_ok, if_true, run_sizeT hs, Sem.run_pure]

theorem run_part_one {t : TypeId} {off : Nat} {v : Value} (hg : aggT P t = some false) (cs : Array Value) (hv : cs[off]? = some v) :
    (part t cs off).run P w = .ok v w := by
  simp only [part, Sem.run_bind, run_aggT hg, Result.andThen_ok, Bool.false_eq_true, if_false, hv, Sem.run_pure]

theorem extract_toList (cs : Array Value) (off s : Nat) : (cs.extract off (off + s)).toList = (cs.toList.drop off).take s := by
  rw [Array.toList_extract]
  simp [List.extract_eq_take_drop]

theorem VRelL.extract {l : List Value} {cs : Array Value} (h : VRelL r l cs.toList) (off s : Nat) : VRelL r ((l.drop off).take s) (cs.extract off (off + s)).toList := by
  rw [extract_toList]; exact (h.drop off).take s

theorem VRelL.aget {l cs : Array Value} (h : VRelL r l.toList cs.toList) {i : Nat} {v : Value} (hv : l[i]? = some v) : ∃ v', cs[i]? = some v' ∧ VRel r v v' := by
  obtain ⟨v', h1, h2⟩ := h.get (i := i) (v := v) (by simpa using hv)
  exact ⟨v', by simpa using h1, h2⟩

variable (ev : ∀ x, VRel r (eval P rs x) (a.eval x))
include ev

theorem sim_field {t : TypeId} {x : Operand} {f : Nat} (ho : o.op = .field t x f) (h : fieldR P rs t x f = some res) : OpSim P r m w (execOp a.eval o) A res := by
  have hx := ev x
  unfold fieldR at h
  simp only at h
  generalize hcv : a.eval x = vc at hx
  generalize eval P rs x = v at h hx
  cases hu : under P t with
  | none => simp [hu] at h
  | some d =>
    cases d <;> try (simp [hu] at h; done)
    rename_i fields
    cases hx <;> try (simp [hu] at h; done)
    case agg cs cs' hl =>
      simp only [hu] at h
      cases hf : fields[f]? with
      | none => simp [hf] at h
      | some fl =>
        simp only [hf] at h
        have run0 : ∀ q : Value, (part fl.type cs' fl.offset).run P w = .ok q w → (execOp a.eval o).run P w = .ok (.value q) w := fun q hq => by
          simp only [execOp, ho, hcv, Instr.field, asAgg, Sem.run_bind, Sem.run_pure, Result.andThen_ok, run_under hu, hf, hq]
        cases hg : aggT P fl.type with
        | none => simp [hg] at h
        | some b =>
          cases b with
          | true =>
            cases hs : sizeT P fl.type with
            | none => simp [hg, hs] at h
            | some s =>
              simp only [hg, hs] at h
              cases h
              exact OpSim.mk (v' := .agg (cs'.extract fl.offset (fl.offset + s))) (.agg (hl.extract _ _)) (run0 _ (run_part_agg hg hs _))
          | false =>
            simp only [hg] at h
            cases hv : cs[fl.offset]? with
            | none => simp [hv] at h
            | some q =>
              simp [hv] at h; subst h
              obtain ⟨q', h1, h2⟩ := hl.aget hv
              exact OpSim.mk h2 (run0 _ (run_part_one hg _ h1))

theorem sim_index {t : TypeId} {x ix : Operand} (ho : o.op = .index t x ix) (h : indexR P rs t x ix = some res) : OpSim P r m w (execOp a.eval o) A res := by
  have hx := ev x
  have hi := ev ix
  unfold indexR at h
  simp only at h
  generalize hcv : a.eval x = vc at hx
  generalize hci : a.eval ix = ic at hi
  generalize eval P rs x = v at h hx
  generalize eval P rs ix = iv at h hi
  cases hu : under P t with
  | none => simp [hu] at h
  | some d =>
    cases d <;> try (simp [hu] at h; done)
    case string =>
      cases hx <;> try (simp [hu] at h; done)
      case string s =>
        cases hi <;> try (simp [hu] at h; done)
        rename_i k n
        simp only [hu] at h
        split at h
        · rename_i hn
          cases hb : s.data.toList[n.toNat]? with
          | none => simp only [hb] at h; cases h
          | some b =>
            simp only [hb] at h; cases h
            refine OpSim.mk (.int _ _) ?_
            have hlt : n.toNat < s.data.toList.length := (List.getElem?_eq_some_iff.1 hb).1
            have hb' : s[n.toNat]? = some b := by
              have h1 : n.toNat < s.size := by simpa using hlt
              rw [getElem?_pos s n.toNat h1]
              have := (List.getElem?_eq_some_iff.1 hb).2
              rw [← this]; rfl
            simp only [execOp, ho, hcv, hci, Instr.index, asIntOf, Sem.run_bind, Sem.run_pure, Result.andThen_ok, run_under hu, if_pos hn, hb']
        · cases h
    case array len el =>
      cases hx <;> try (simp [hu] at h; done)
      case agg cs cs' hl =>
        cases hi <;> try (simp [hu] at h; done)
        rename_i k n
        simp only [hu] at h
        split at h
        · rename_i hb
          cases hs : sizeT P el with
          | none => cases hg : aggT P el <;> simp [hg, hs] at h
          | some s =>
            have run0 : ∀ q : Value, (part el cs' (n.toNat * s)).run P w = .ok q w → (execOp a.eval o).run P w = .ok (.value q) w := fun q hq => by
              simp only [execOp, ho, hcv, hci, Instr.index, asIntOf, Sem.run_bind, Sem.run_pure, Result.andThen_ok, run_under hu, if_pos hb, run_sizeT hs, hq]
            cases hg : aggT P el with
            | none => simp [hg] at h
            | some b =>
              cases b with
              | true =>
                simp only [hg, hs] at h; cases h
                exact OpSim.mk (v' := .agg (cs'.extract (n.toNat * s) (n.toNat * s + s))) (.agg (hl.extract _ _)) (run0 _ (run_part_agg hg hs _))
              | false =>
                simp only [hg, hs] at h
                cases hv : cs[n.toNat * s]? with
                | none => simp only [hv] at h; cases h
                | some q =>
                  simp only [hv] at h; cases h
                  obtain ⟨q', h1, h2⟩ := hl.aget hv
                  exact OpSim.mk h2 (run0 _ (run_part_one hg _ h1))
        · cases h
end

/-! building -/

theorem splice_length {cs vs : List Value} {off : Nat} (h : off + vs.length ≤ cs.length) : (splice cs off vs).length = cs.length := by
  simp [splice]; omega

theorem VRelL.splice {r : Ren} {cs cs' vs vs' : List Value} (h : VRelL r cs cs') (k : VRelL r vs vs') (off : Nat) : VRelL r (Am.splice cs off vs) (Am.splice cs' off vs') := by
  unfold Am.splice
  rw [k.length]
  exact ((h.take off).append k).append (h.drop _)

theorem foldl_set (off : Nat) : ∀ (l : List Value) (k : Nat) (cs : Array Value), off + k + l.length ≤ cs.size →
    ((l.zipIdx k).foldl (fun cs (c, j) => cs.setIfInBounds (off + j) c) cs).toList = splice cs.toList (off + k) l
  | [], k, cs, _ => by simp [splice]
  | v :: l, k, cs, h => by
    simp only [List.zipIdx_cons, List.foldl_cons, List.length_cons] at h ⊢
    rw [foldl_set off l (k + 1) _ (by simp; omega)]
    simp only [splice, Array.toList_setIfInBounds, List.length_cons]
    have hlen : cs.toList.length = cs.size := by simp
    apply List.ext_getElem?
    intro i
    by_cases h1 : i < off + k
    · rw [List.append_assoc, List.append_assoc, List.getElem?_append_left (by simp; omega), List.getElem?_append_left (by simp; omega),
        List.getElem?_take_of_lt (by omega), List.getElem?_take_of_lt (by omega), List.getElem?_set_ne (by omega)]
    · by_cases h2 : i = off + k
      · subst h2
        rw [List.append_assoc, List.getElem?_append_left (by simp; omega), List.getElem?_take_of_lt (by omega), List.getElem?_set_self (by omega)]
        rw [List.append_assoc, List.getElem?_append_right (by simp only [List.length_take]; omega)]
        simp only [List.length_take]
        rw [Nat.min_eq_left (by omega), Nat.sub_self]
        rfl
      · by_cases h3 : i < off + k + (l.length + 1)
        · rw [List.append_assoc, List.getElem?_append_right (by simp; omega), List.getElem?_append_left (by simp; omega)]
          rw [List.append_assoc, List.getElem?_append_right (by simp; omega), List.getElem?_append_left (by simp; omega)]
          simp only [List.length_take, List.length_set]
          rw [Nat.min_eq_left (by omega), Nat.min_eq_left (by omega)]
          obtain ⟨j, rfl⟩ : ∃ j, i = off + k + 1 + j := ⟨i - (off + k + 1), by omega⟩
          rw [show off + k + 1 + j - (off + (k + 1)) = j from by omega, show off + k + 1 + j - (off + k) = j + 1 from by omega]
          simp
        · rw [List.getElem?_append_right (by simp; omega), List.getElem?_append_right (by simp; omega)]
          simp only [List.length_append, List.length_take, List.length_set, List.length_cons, List.getElem?_drop]
          rw [List.getElem?_set_ne (by omega)]
          congr 1
          rw [Nat.min_eq_left (by omega), Nat.min_eq_left (by omega)]
          omega

theorem fill_rel {r : Ren} {pl pl' : Nat → Option (Nat × Nat)} (hpl : ∀ i x, pl i = some x → pl' i = some x) : ∀ (parts parts' : List (Nat × Value)) (cs : List Value) (cs' : Array Value) (out : List Value),
    parts.map (·.1) = parts'.map (·.1) → VRelL r (parts.map (·.2)) (parts'.map (·.2)) → VRelL r cs cs'.toList → fillL pl cs parts = some out →
    ∃ out' : Array Value, Instr.fill pl' cs' parts' = some out' ∧ VRelL r out out'.toList ∧ out.length = cs.length
  | [], [], cs, cs', out, _, _, hc, h => by
    cases h; exact ⟨cs', rfl, hc, rfl⟩
  | (i, v) :: parts, (j, v') :: parts', cs, cs', out, hi, hv, hc, h => by
    simp only [List.map_cons, List.cons.injEq] at hi
    obtain ⟨rfl, hi⟩ := hi
    cases hv with
    | cons hv ht =>
      simp only [fillL] at h
      cases hp : pl i with
      | none => simp [hp] at h
      | some x =>
        obtain ⟨off, size⟩ := x
        simp only [hp] at h
        split at h
        · cases h
        · rename_i hb
          simp only [ne_eq, Bool.or_eq_true, decide_eq_true_eq, not_or, Decidable.not_not] at hb
          obtain ⟨⟨hb0, hb1⟩, hb2⟩ := hb
          have hj : isJunk v = false := by cases hq : isJunk v with | false => rfl | true => exact absurd hq hb0
          have hvc := hv.cells hj
          have hlen := hvc.length
          have hcl := hc.length
          simp only [Array.length_toList] at hlen hcl
          have hsz : v'.cells.size = size := by simp at hb1; omega
          have hle : off + v'.cells.size ≤ cs'.size := by simp at hb1; omega
          have hset := foldl_set off v'.cells.toList 0 cs' (by simp; omega)
          have hz : (v'.cells.zipIdx.foldl (fun cs (c, j) => cs.setIfInBounds (off + j) c) cs').toList = splice cs'.toList off v'.cells.toList := by
            rw [← Array.foldl_toList]
            simpa using hset
          obtain ⟨out', h1, h2, h3⟩ := fill_rel hpl parts parts' (splice cs off v.cells.toList) (v'.cells.zipIdx.foldl (fun cs (c, j) => cs.setIfInBounds (off + j) c) cs') out hi ht
            (by rw [hz]; exact hc.splice hvc off) h
          refine ⟨out', ?_, h2, ?_⟩
          · simp only [Instr.fill, hpl _ _ hp]
            rw [if_neg (by simp [hsz]; omega)]
            exact h1
          · rw [h3]; apply splice_length; simp at hb1 ⊢; omega
  | [], _ :: _, _, _, _, hi, _, _, _ => by simp at hi
  | _ :: _, [], _, _, _, hi, _, _, _ => by simp at hi

end Go.Am
/-
  THE ABSTRACT MACHINE, 8: building, slicing, conversions, maps read.
-/
namespace Go.Am

section
variable {P : Program} {r : Ren} {m : Mem} {w : World} {rs : Rs} {a : Act} {o : Oper} {A : Prop} {res : OpR}

theorem run_mapM_list {α β : Type} (f : α → Sem β) (g : α → β) : ∀ (l : List α), (∀ x ∈ l, (f x).run P w = .ok (g x) w) → (l.mapM f).run P w = .ok (l.map g) w
  | [], _ => by simp
  | x :: l, h => by
    simp only [List.mapM_cons, Sem.run_bind, h x (by simp), Result.andThen_ok, run_mapM_list f g l (fun y hy => h y (by simp [hy])), Sem.run_pure, List.map_cons]

theorem run_mapM_array {α β : Type} (f : α → Sem β) (g : α → β) (xs : Array α) (h : ∀ x ∈ xs.toList, (f x).run P w = .ok (g x) w) : (xs.mapM f).run P w = .ok (xs.map g) w := by
  rw [Array.mapM_eq_mapM_toList, Sem.run_map, run_mapM_list (P := P) (w := w) f g xs.toList h]
  simp only [Result.andThen_ok]
  congr 1
  cases xs; simp

variable (ev : ∀ x, VRel r (eval P rs x) (a.eval x))

include ev in
theorem parts_rel (ps : List (Nat × Operand)) : VRelL r ((ps.map fun (i, x) => (i, eval P rs x)).map (·.2)) ((ps.map fun (i, x) => (i, a.eval x)).map (·.2)) := by
  induction ps with
  | nil => exact .nil
  | cons p ps ih => exact .cons (ev p.2) ih

theorem parts_fst {f g : Operand → Value} (ps : List (Nat × Operand)) : (ps.map fun (i, x) => (i, f x)).map (·.1) = (ps.map fun (i, x) => (i, g x)).map (·.1) := by
  induction ps with
  | nil => rfl
  | cons p ps ih => simp only [List.map_cons, List.cons.injEq, true_and] at ih ⊢; exact ih

include ev in
theorem sim_build (hP : PGood P) {t : TypeId} {parts : Array (Nat × Operand)} (ho : o.op = .build t parts) (h : buildR P rs t parts = some res) : OpSim P r m w (execOp a.eval o) A res := by
  unfold buildR at h
  simp only at h
  cases hz : zeroT P t with
  | none => simp [hz] at h
  | some z =>
    have hzr : VRelL r z.cells.toList z.cells.toList := by
      have := hP.zero t z hz
      exact VRel.cells (goodZ_rel this) (goodZ_junk this)
    have hpl : (parts.map fun (i, x) => (i, a.eval x)).toList = parts.toList.map fun (i, x) => (i, a.eval x) := by simp
    cases hu : under P t with
    | none => simp [hz, hu] at h
    | some d =>
      cases d <;> try (simp [hz, hu] at h; done)
      case struct fields =>
        simp only [hz, hu] at h
        cases hf : fillL (fun i => (fields[i]?).bind fun f => (sizeT P f.type).map fun s => (f.offset, s)) z.cells.toList (parts.toList.map fun (i, x) => (i, eval P rs x)) with
        | none => rw [hf] at h; cases h
        | some l =>
          rw [hf] at h; cases h
          have hpl' : ∀ (i : Nat) (x : Nat × Nat), (((fields[i]? : Option Field)).bind fun (f : Field) => (sizeT P f.type).map fun s => (f.offset, s)) = some x → ((fields.map fun (f : Field) => (f.offset, (sizeT P f.type).getD 0))[i]?) = some x := by
            intro i x hx
            cases hfi : fields[i]? with
            | none => simp [hfi] at hx
            | some f =>
              simp only [hfi, Option.bind_some] at hx
              cases hs : sizeT P f.type with
              | none => simp [hs] at hx
              | some s => simp [hs] at hx; simp [hfi, hs, hx]
          obtain ⟨out, h1, h2, _⟩ := fill_rel hpl' _ (parts.toList.map fun (i, x) => (i, a.eval x)) _ z.cells _ (parts_fst _) (parts_rel ev _) hzr hf
          refine OpSim.mk (v' := .agg out) (.agg h2) ?_
          have hm : (fields.mapM (fun (f : Field) => (do pure (f.offset, ← sizeOf f.type) : Sem (Nat × Nat)))).run P w = .ok (fields.map fun (f : Field) => (f.offset, (sizeT P f.type).getD 0)) w := by
            apply run_mapM_array
            intro f hf
            have := hP.fsize t fields z hz hu f hf
            cases hs : sizeT P f.type with
            | none => simp [hs] at this
            | some s => simp [run_sizeT hs]
          simp only [execOp, ho, Instr.build, Sem.run_bind, run_zeroT hz, Result.andThen_ok, run_under hu, hm, hpl, h1, Sem.run_pure]
      case array len el =>
        simp only [hz, hu] at h
        cases hs : sizeT P el with
        | none => simp [hs] at h
        | some s =>
          simp only [hs] at h
          cases hf : fillL (fun i => some (i * s, s)) z.cells.toList (parts.toList.map fun (i, x) => (i, eval P rs x)) with
          | none => rw [hf] at h; cases h
          | some l =>
            rw [hf] at h; cases h
            obtain ⟨out, h1, h2, _⟩ := fill_rel (pl' := fun i => some (i * s, s)) (fun _ _ hx => hx) _ (parts.toList.map fun (i, x) => (i, a.eval x)) _ z.cells _ (parts_fst _) (parts_rel ev _) hzr hf
            refine OpSim.mk (v' := .agg out) (.agg h2) ?_
            simp only [execOp, ho, Instr.build, Sem.run_bind, run_zeroT hz, Result.andThen_ok, run_under hu, run_sizeT hs, hpl, h1, Sem.run_pure]

inductive OptR (r : Ren) : Option Value → Option Value → Prop where
  | none : OptR r none none
  | some {v v' : Value} (h : VRel r v v') : OptR r (some v) (some v')

theorem run_bound {v v' : Value} {top n : Nat} {code : BoundsCode} (h : boundOf v top = some n) (hv : VRel r v v') {top' : Nat} (ht : top ≤ top') : (Instr.sliceBound v' top' code).run P w = .ok n w ∧ n ≤ top := by
  cases hv <;> simp [boundOf] at h
  obtain ⟨hb, rfl⟩ := h
  refine ⟨?_, by omega⟩
  simp only [Instr.sliceBound, asIntOf, Sem.run_bind, Sem.run_pure, Result.andThen_ok, Sem.run_ite]
  rw [if_pos ⟨hb.1, by omega⟩]

/-- The bounds of a slice expression: the same in the world, where the capacity may be greater. -/
theorem run_bounds {b : Bool} {len cap cap' l h' m' : Nat} {lo hi mx lo' hi' mx' : Option Value} (h : bounds len cap lo hi mx = some (l, h', m')) (hc : cap ≤ cap') (hlc : len ≤ cap)
    (hlo : OptR r lo lo')
    (hhi : OptR r hi hi')
    (hmx : OptR r mx mx') :
    ∃ m'', (Instr.sliceBounds b len cap' lo' hi' mx').run P w = .ok (l, h', m'') w ∧ m' ≤ m'' ∧ (mx.isSome = true → m'' = m') ∧ (mx.isSome = false → m'' = cap' ∧ m' = cap) ∧ l ≤ h' ∧ h' ≤ m' ∧ m'' ≤ cap' ∧ m' ≤ cap := by
  unfold bounds at h
  cases mx with
  | none =>
    cases mx' with
    | some _ => cases hmx
    | none =>
      simp only at h
      have hhh : ∃ q, (match hi with | some v => boundOf v cap | none => some len) = some q ∧ (match lo with | some v => boundOf v q | none => some 0) = some l ∧ q = h' ∧ m' = cap := by
        cases hi with
        | none =>
          simp only at h
          cases lo with
          | none => simp at h; obtain ⟨rfl, rfl, rfl⟩ := h; exact ⟨_, rfl, rfl, rfl, rfl⟩
          | some v =>
            simp only at h
            cases hb : boundOf v len with
            | none => simp [hb] at h
            | some k => simp [hb] at h; obtain ⟨rfl, rfl, rfl⟩ := h; exact ⟨_, rfl, hb, rfl, rfl⟩
        | some u =>
          simp only at h
          cases hq : boundOf u cap with
          | none => simp [hq] at h
          | some q =>
            simp only [hq] at h
            cases lo with
            | none => simp at h; obtain ⟨rfl, rfl, rfl⟩ := h; exact ⟨_, hq, rfl, rfl, rfl⟩
            | some v =>
              simp only at h
              cases hb : boundOf v q with
              | none => simp [hb] at h
              | some k => simp [hb] at h; obtain ⟨rfl, rfl, rfl⟩ := h; exact ⟨_, hq, hb, rfl, rfl⟩
      obtain ⟨q, h1, h2, rfl, rfl⟩ := hhh
      have hrun1 : ∀ code, (match hi' with | some v => Instr.sliceBound v cap' code | none => pure len : Sem Nat).run P w = .ok q w ∧ q ≤ m' := by
        intro code
        cases hi with
        | none => cases hi' with
          | none => cases h1; exact ⟨rfl, hlc⟩
          | some _ => cases hhi
        | some u => cases hi' with
          | none => cases hhi
          | some u' => cases hhi with | some hh => exact run_bound h1 hh hc
      have hrun2 : ∀ code, (match lo' with | some v => Instr.sliceBound v q code | none => pure 0 : Sem Nat).run P w = .ok l w ∧ l ≤ q := by
        intro code
        cases lo with
        | none => cases lo' with
          | none => cases h2; exact ⟨rfl, Nat.zero_le _⟩
          | some _ => cases hlo
        | some u => cases lo' with
          | none => cases hlo
          | some u' => cases hlo with | some hh => exact run_bound h2 hh (Nat.le_refl _)
      refine ⟨cap', ?_, hc, by simp, by simp, (hrun2 .sliceB).2, (hrun1 .sliceB).2, Nat.le_refl _, Nat.le_refl _⟩
      have e1 := fun code => (hrun1 code).1
      have e2 := fun code => (hrun2 code).1
      clear hrun1 hrun2 hlo hhi hmx h1 h2 h
      cases hi' with
      | none =>
        have := e1 .sliceB
        simp only [Sem.run_pure, Result.ok.injEq, and_true] at this
        subst this
        cases lo' with
        | none =>
          have := e2 .sliceB
          simp only [Sem.run_pure, Result.ok.injEq, and_true] at this
          subst this
          simp [Instr.sliceBounds]
        | some v => simp [Instr.sliceBounds, e2]
      | some u =>
        cases lo' with
        | none =>
          have := e2 .sliceB
          simp only [Sem.run_pure, Result.ok.injEq, and_true] at this
          subst this
          simp [Instr.sliceBounds, e1]
        | some v => simp [Instr.sliceBounds, e1, e2]
  | some x =>
    cases mx' with
    | none => cases hmx
    | some x' =>
      simp only at h
      cases hmm : boundOf x cap with
      | none => simp [hmm] at h
      | some k =>
        simp only [hmm] at h
        cases hi with
        | none => simp at h
        | some u =>
          cases hi' with
          | none => cases hhi
          | some u' =>
            simp only at h
            cases hq : boundOf u k with
            | none => simp [hq] at h
            | some q =>
              simp only [hq] at h
              have hh : (match lo with | some v => boundOf v q | none => some 0) = some l ∧ q = h' ∧ k = m' := by
                cases lo with
                | none => simp at h; obtain ⟨rfl, rfl, rfl⟩ := h; exact ⟨rfl, rfl, rfl⟩
                | some v =>
                  simp only at h
                  cases hb : boundOf v q with
                  | none => simp [hb] at h
                  | some kk => simp [hb] at h; obtain ⟨rfl, rfl, rfl⟩ := h; exact ⟨hb, rfl, rfl⟩
              obtain ⟨h2, rfl, rfl⟩ := hh
              have hmx' : VRel r x x' := by cases hmx with | some hh => exact hh
              have hhi' : VRel r u u' := by cases hhi with | some hh => exact hh
              have hx := fun code => run_bound (P := P) (w := w) (code := code) hmm hmx' hc
              have hy := fun code => run_bound (P := P) (w := w) (code := code) hq hhi' (Nat.le_refl _)
              have hrun2 : ∀ code, (match lo' with | some v => Instr.sliceBound v q code | none => pure 0 : Sem Nat).run P w = .ok l w ∧ l ≤ q := by
                intro code
                cases lo with
                | none => cases lo' with
                  | none => cases h2; exact ⟨rfl, Nat.zero_le _⟩
                  | some _ => cases hlo
                | some u => cases lo' with
                  | none => cases hlo
                  | some u' => cases hlo with | some hh => exact run_bound h2 hh (Nat.le_refl _)
              refine ⟨k, ?_, Nat.le_refl _, fun _ => rfl, by simp, (hrun2 .sliceB).2, (hy .sliceB).2, Nat.le_trans (hx .sliceB).2 hc, (hx .sliceB).2⟩
              have e2 := fun code => (hrun2 code).1
              have e3 := fun code => (hx code).1
              have e4 := fun code => (hy code).1
              clear hrun2 hlo hhi hmx hmx' hhi' h2 h hx hy
              cases lo' with
              | none =>
                have := e2 .sliceB
                simp only [Sem.run_pure, Result.ok.injEq, and_true] at this
                subst this
                simp [Instr.sliceBounds, e3, e4]
              | some v => simp [Instr.sliceBounds, e2, e3, e4]

end
end Go.Am
/-
  THE ABSTRACT MACHINE, 9: slicing, conversions, maps read, len and its kin.
-/
namespace Go.Am

section
variable {P : Program} {r : Ren} {m : Mem} {w : World} {rs : Rs} {a : Act} {o : Oper} {A : Prop} {res : OpR}

theorem optRel {f g : Operand → Value} (h : ∀ x, VRel r (f x) (g x)) (x : Option Operand) : OptR r (x.map f) (x.map g) := by
  cases x with
  | none => exact .none
  | some x => exact .some (h x)

theorem bytes_extract (s : ByteArray) (l h : Nat) : s.extract l h = ⟨⟨(s.data.toList.drop l).take (h - l)⟩⟩ := by
  apply ByteArray.ext
  apply Array.ext'
  simp [ByteArray.data_extract, List.extract_eq_take_drop]

variable (ev : ∀ x, VRel r (eval P rs x) (a.eval x))
include ev

theorem sim_slice (hm : HRel P r m w) {t : TypeId} {x : Operand} {lo hi mx : Option Operand} (ho : o.op = .slice t x lo hi mx) (h : sliceR P m.t rs t x lo hi mx = some res) : OpSim P r m w (execOp a.eval o) A res := by
  have hx := ev x
  unfold sliceR at h
  simp only at h
  generalize hcv : a.eval x = vc at hx
  generalize eval P rs x = v at h hx
  cases hu : under P t with
  | none => cases hx <;> simp [hu] at h
  | some d =>
    cases hx <;> try (cases h; done)
    case string s =>
      simp only [hu] at h
      cases d <;> try (simp at h; done)
      simp only [if_true] at h
      cases hb : bounds s.size s.size (lo.map (eval P rs)) (hi.map (eval P rs)) none with
      | none => simp [hb] at h
      | some q =>
        obtain ⟨l, h', m'⟩ := q
        simp only [hb] at h
        cases mx with
        | some _ => cases h
        | none =>
          cases h
          obtain ⟨m'', h1, _⟩ := run_bounds (P := P) (w := w) (b := false) hb (Nat.le_refl _) (Nat.le_refl _) (optRel ev lo) (optRel ev hi) (mx' := none) .none
          refine OpSim.mk (.string _) ?_
          simp only [execOp, ho, hcv, Instr.sliceAt, Sem.run_bind, run_under hu, Result.andThen_ok, Instr.slice]
          simp [h1, bytes_extract]
    case snil =>
      simp only [hu] at h
      cases d <;> try (simp at h; done)
      rename_i el
      simp only at h
      cases hs : sizeT P el with
      | none => simp [hs] at h
      | some s =>
        cases hb : bounds 0 0 (lo.map (eval P rs)) (hi.map (eval P rs)) (mx.map (eval P rs)) with
        | none => simp [hs, hb] at h
        | some q =>
          obtain ⟨l, h', m'⟩ := q
          simp [hs, hb] at h
          subst h
          obtain ⟨m'', h1, h2, _, _, h3, h4, h5, h6⟩ := run_bounds (P := P) (w := w) (b := true) hb (Nat.le_refl _) (Nat.le_refl _) (optRel ev lo) (optRel ev hi) (optRel ev mx)
          have e1 : m'' = 0 := by omega
          have e2 : m' = 0 := by omega
          have e3 : h' = 0 := by omega
          have e4 : l = 0 := by omega
          subst e1 e2 e3 e4
          refine OpSim.mk (v' := .slice none 0 0) .snil ?_
          simp only [execOp, ho, hcv, Instr.sliceAt, Sem.run_bind, run_under hu, Result.andThen_ok, Instr.slice, h1, run_sizeT hs]
          simp
    case slice id off off' len cap cap' sp e hr hoff hc hl hsx hrm hb47 ha =>
      simp only [hu] at h
      cases d <;> try (simp at h; done)
      rename_i el
      simp only at h
      cases hs : sizeT P el with
      | none => simp [hs] at h
      | some s =>
        cases hb : bounds len cap (lo.map (eval P rs)) (hi.map (eval P rs)) (mx.map (eval P rs)) with
        | none => simp [hs, hb] at h
        | some q =>
          obtain ⟨l, h', m'⟩ := q
          simp only [hs, hb] at h
          cases hrow : rowFits P m.t id s with
          | false => simp [hrow] at h
          | true =>
            simp only [hrow, Bool.true_eq_false, if_false] at h
            cases h
            unfold rowFits at hrow
            have hes : e.es = s := by
              cases hra : rowAt m.t id with
              | none => simp [hra] at hrow
              | some x =>
                obtain ⟨cs, t', fz⟩ := x
                simp only [hra] at hrow
                obtain ⟨c, lo', hi', _, _, _, _, _, h6, _⟩ := row_of hm hr hra
                rw [h6] at hrow
                simpa using hrow
            obtain ⟨m'', h1, h2, hmx1, hmx2, h3, h4, h5, h6⟩ := run_bounds (P := P) (w := w) (b := true) hb hc hl (optRel ev lo) (optRel ev hi) (optRel ev mx)
            refine OpSim.mk (v' := .slice (some ⟨e.b, if m'' = l then off' else off' + l * s, none⟩) (h' - l) (m'' - l)) ?_ ?_
            · have hcap0 : 0 < m' - l → off' = e.d + off := fun hh => hoff (by
                rcases Nat.eq_zero_or_pos cap with hz | hz
                · subst hz; 
                  cases hmxx : (mx.map (eval P rs)).isSome with
                  | true => have := hmx1 hmxx; omega
                  | false => have := (hmx2 hmxx).2; omega
                · exact hz)
              have := VRel.slice (r := r) (id := id) (off := if m' = l then off else off + l * s) (off' := if m'' = l then off' else off' + l * s) (len := h' - l) (cap := m' - l) (cap' := m'' - l)
                (sp := if (mx.isSome || (some (Addr.mk id off sp)).all fun a => a.spot == some 1) = true then some 1 else none) hr ?_ (by omega) (by omega) ?_ ?_ ?_ ?_
              · exact this
              · intro hh
                rw [if_neg (by omega), if_neg (by omega), hcap0 hh, Nat.add_assoc]
              · intro hh
                by_cases hmxs : mx.isSome = true
                · have := hmx1 (by simpa using hmxs); omega
                · have hsp : sp = some 1 := by
                    simp only [hmxs, Bool.false_or, Option.all_some, beq_iff_eq] at hh
                    by_cases hh2 : sp = some 1
                    · exact hh2
                    · simp [hh2] at hh
                  have h7 := hmx2 (by simpa using hmxs)
                  have h8 := hsx hsp
                  omega
              · rw [hes]
                rw [hes] at hrm
                by_cases hml : m'' = l
                · rw [if_pos hml, hml, Nat.sub_self]; have : off' ≤ off' + cap' * s := Nat.le_add_right _ _; omega
                · rw [if_neg hml]
                  have hle : l * s + (m'' - l) * s ≤ cap' * s := by
                    rw [← Nat.add_mul]; exact Nat.mul_le_mul_right _ (by omega)
                  omega
              · trivial
              · by_cases hml : m'' = l
                · rw [if_pos hml]; exact ha
                · rw [if_neg hml, hes, Nat.add_mul_mod_self_right, ← hes]; exact ha
            · simp only [execOp, ho, hcv, Instr.sliceAt, Sem.run_bind, run_under hu, Result.andThen_ok, Instr.slice, h1, run_sizeT hs]
              simp only [Sem.run_pure, Option.map_some, add_none, Result.andThen_ok]
              by_cases hml : m'' = l
              · simp [hml]
              · simp [hml]

end
end Go.Am
/-
  THE ABSTRACT MACHINE, 10: conversions that make nothing, maps read, len and its kin.
-/
namespace Go.Am

section
variable {P : Program} {r : Ren} {m : Mem} {w : World} {rs : Rs} {a : Act} {o : Oper} {A : Prop} {res : OpR}

theorem bytesOfCells_ints : ∀ {l : List Value} {bs : List UInt8}, bytesOfCells l = some bs → ∃ ns : List Int, l = ns.map (Value.int .u8) ∧ bs = ns.map fun n => UInt8.ofNat n.toNat
  | [], bs, h => by cases h; exact ⟨[], rfl, rfl⟩
  | v :: l, bs, h => by
    cases v <;> try (cases h; done)
    rename_i k n
    cases k <;> try (cases h; done)
    replace h : (bytesOfCells l).map (fun r => UInt8.ofNat n.toNat :: r) = some bs := h
    cases hb : bytesOfCells l with
    | none => simp [hb] at h
    | some bs' =>
      simp [hb] at h; subst h
      obtain ⟨ns, h1, h2⟩ := bytesOfCells_ints hb
      exact ⟨n :: ns, by simp [h1], by simp [h2]⟩

theorem ints_same {ns : List Int} {l' : List Value} (h : VRelL r (ns.map (Value.int .u8)) l') : l' = ns.map (Value.int .u8) := by
  induction ns generalizing l' with
  | nil => cases h; rfl
  | cons n ns ih => cases h with | cons h t => cases h; rw [ih t]; rfl

theorem foldl_push (ns : List Int) (s : ByteArray) : ns.foldl (fun r n => r.push (UInt8.ofNat n.toNat)) s = ⟨⟨s.data.toList ++ ns.map fun n => UInt8.ofNat n.toNat⟩⟩ := by
  induction ns generalizing s with
  | nil => cases s; simp
  | cons n ns ih =>
    rw [List.foldl_cons, ih]
    apply ByteArray.ext
    simp [ByteArray.push]

theorem run_seenAt {b off : Nat} {t : TypeId} {n : Nat} (h : w.shape? b = some (t, n)) : (Conv.seenAt ⟨b, off, none⟩).run P w = .ok ⟨b, off, none⟩ w := by
  simp [Conv.seenAt, viewAt, h]

theorem shape_of (hm : HRel P r m w) {id : Nat} {e : Ent} {cs : List Value} {t : TypeId} {fz : Nat} (hr : r id = some e) (hg : rowAt m.t id = some (cs, t, fz)) :
    w.shape? e.b = some (t, e.size) ∧ e.d + cs.length ≤ e.size := by
  obtain ⟨c, lo, hi, h1, h2, h3, _⟩ := row_of hm hr hg
  simp [World.shape?, h1, h2]; omega

theorem fits_same {t : TypeId} {n off s : Nat} (hs : sizeT P t = some (s + 1)) (ho : off % (s + 1) = 0) (hn : off + (s + 1) ≤ n) : liesAt P P.depth t (n / P.cellsOf t) off t 1 = true := by
  have hc : P.cellsOf t = s + 1 := by
    unfold sizeT at hs
    unfold Program.cellsOf
    rw [hs]; rfl
  obtain ⟨d, hd⟩ : ∃ d, P.depth = d + 1 := ⟨_, rfl⟩
  have hsl : sameLayout P P.depth t t = true := by
    rw [hd]
    unfold sameLayout
    simp
  have hq : off / (s + 1) + 1 ≤ n / (s + 1) := by
    rw [← Nat.add_div_right _ (Nat.succ_pos s)]
    exact Nat.div_le_div_right hn
  unfold liesAt
  rw [hd]
  simp only []
  rw [← hd]
  have : Go.rowAt P (sameLayout P P.depth · t) P.depth t (n / P.cellsOf t) off 1 = true := by
    rw [hd]
    unfold Go.rowAt
    rw [← hd]
    simp only [hc]
    rw [if_neg (by omega)]
    simp only [hsl, ho, beq_self_eq_true, Bool.true_and, Bool.and_true, Bool.or_eq_true, decide_eq_true_eq]
    exact .inl hq
  simp only [this, Bool.true_or]

variable (ev : ∀ x, VRel r (eval P rs x) (a.eval x))
include ev

theorem sim_convert_val (hm : HRel P r m w) {src dst : TypeId} {x : Operand} {v : Value} (ho : o.op = .convert src dst x) (h : convertR P m.t rs src dst x = some (.val v)) : OpSim P r m w (execOp a.eval o) A (.val v) := by
  have hx := ev x
  unfold convertR at h
  simp only at h
  generalize hcv : a.eval x = vc at hx
  generalize eval P rs x = u at h hx
  cases hs : under P src with
  | none => simp [hs] at h
  | some ds =>
    cases hd : under P dst with
    | none => simp [hs, hd] at h
    | some dd =>
      simp only [hs, hd] at h
      cases ds <;> try (cases dd <;> cases hx <;> cases h; done)
      case int k =>
        cases dd <;> try (cases hx <;> cases h; done)
        case int k' =>
          cases hx <;> try (cases h; done)
          cases h
          exact OpSim.mk (.int _ _) (by simp [execOp, ho, hcv, convert, run_under hs, run_under hd, Conv.intToInt])
      case string =>
        cases dd <;> try (cases hx <;> cases h; done)
        case string =>
          cases hx <;> try (cases h; done)
          cases h
          exact OpSim.mk (.string _) (by simp [execOp, ho, hcv, convert, run_under hs, run_under hd])
        case slice el =>
          cases hx <;> try (cases h; done)
          simp only at h
          split at h
          · split at h <;> simp at h
          · cases h
      case slice el =>
        cases dd <;> try (cases hx <;> cases h; done)
        case string =>
          cases hx <;> try (cases h; done)
          case snil =>
            simp only at h
            split at h
            · rename_i he
              cases h
              have heu : P.underlying el = some (.int .u8) := by
                cases hue : under P el with
                | none => simp [hue] at he
                | some q => cases q <;> simp [hue] at he; subst he; exact hue
              refine OpSim.mk (.string _) ?_
              simp only [execOp, ho, hcv, Sem.run_bind, Go.run_convert_bytes_string (P := P) w src dst el _ _ _ hs heu hd]
              rfl
            · cases h
          case slice id off off' len cap cap' sp e hr hoff hc hl hsx hrm hb47 ha =>
            simp only at h
            split at h
            · rename_i he
              cases hcells : cellsAt m.t id off len with
              | none => simp [hcells] at h
              | some l =>
                cases hb : bytesOfCells l with
                | none => simp [hcells, hb] at h
                | some bs =>
                  simp [hcells, hb] at h
                  subst h
                  obtain ⟨ns, h1, h2⟩ := bytesOfCells_ints hb
                  obtain ⟨l', h3, h4, h5⟩ := cells_of hm hr hcells
                  rw [h1] at h4
                  have h6 := ints_same h4
                  refine OpSim.mk (.string _) ?_
                  have heu : P.underlying el = some (.int .u8) := by
                    cases hue : under P el with
                    | none => simp [hue] at he
                    | some q => cases q <;> simp [hue] at he; subst he; exact hue
                  have hload : (loadCells ⟨e.b, off', none⟩ len).run P w = .ok (ns.map (Value.int .u8)).toArray w := by
                    rcases Nat.eq_zero_or_pos cap with hz | hz
                    · have : len = 0 := by omega
                      subst this
                      have : l' = [] := List.eq_nil_of_length_eq_zero h3
                      rw [this] at h6
                      rw [← h6]
                      rfl
                    · rw [hoff hz]
                      have := run_loadCells (P := P) h5
                      rw [h3] at this
                      rw [this, h6]
                  have hrun := run_bytesToString (P := P) w ⟨e.b, off', none⟩ len cap' ns hload
                  simp only [execOp, ho, hcv, Sem.run_bind, Go.run_convert_bytes_string (P := P) w src dst el _ _ _ hs heu hd, hrun, Result.andThen_ok, Sem.run_pure, foldl_push, h2]
                  simp
            · cases h
      case pointer u' =>
        cases dd <;> try (cases hx <;> cases h; done)
        case unsafePointer =>
          cases hx <;> try (cases h; done)
          case pnil =>
            cases h
            exact OpSim.mk .pnil (by simp [execOp, ho, hcv, convert, run_under hs, run_under hd, Conv.unsafePointer])
          case ptr id off e hr =>
            simp only at h
            cases hg : rowAt m.t id with
            | none => simp [hg] at h
            | some q =>
              obtain ⟨cs, t, fz⟩ := q
              cases hz : sizeT P u' with
              | none => simp [hg, hz] at h
              | some s =>
                cases s with
                | zero => simp [hg, hz] at h
                | succ s =>
                  simp only [hg, hz] at h
                  split at h <;> cases h
                  rename_i hlt
                  obtain ⟨h1, h2⟩ := shape_of hm hr hg
                  refine OpSim.mk (.ptr hr) ?_
                  have h3 : ¬ (e.size ≤ e.d + off) := by omega
                  simp [execOp, ho, hcv, convert, run_under hs, run_under hd, Conv.unsafePointer, run_seenAt h1, cellsIn, h1, run_sizeT hz, h3]
      case unsafePointer =>
        cases dd <;> try (cases hx <;> cases h; done)
        case pointer u' =>
          cases hx <;> try (cases h; done)
          case pnil =>
            cases h
            exact OpSim.mk .pnil (by simp [execOp, ho, hcv, convert, run_under hs, run_under hd, Conv.unsafePointer])
          case ptr id off e hr =>
            simp only at h
            cases hg : rowAt m.t id with
            | none => simp [hg] at h
            | some q =>
              obtain ⟨cs, t, fz⟩ := q
              cases hz : sizeT P u' with
              | none => simp [hg, hz] at h
              | some s =>
                cases s with
                | zero => simp [hg, hz] at h
                | succ s =>
                  simp only [hg, hz] at h
                  split at h <;> cases h
                  rename_i hlt
                  obtain ⟨rfl, rfl, hlt⟩ := hlt
                  obtain ⟨h1, h2⟩ := shape_of hm hr hg
                  refine OpSim.mk (.ptr hr) ?_
                  obtain ⟨c, lo, hi, _, _, _, _, _, h6, _, h7⟩ := row_of hm hr hg
                  rw [hz] at h6
                  have h8 : e.es = s + 1 := by simpa using h6.symm
                  rw [h8] at h7
                  have hlies := fits_same (P := P) (n := e.size) hz h7 (by omega)
                  simp [execOp, ho, hcv, convert, run_under hs, run_under hd, Conv.unsafePointer, run_seenAt h1, run_sizeT hz, variablesAt, h1, hlies]

omit ev in
theorem keySame_eq {k k' x x' : Value} {q : Bool} (h : keySame k x = some q) (hk : VRel r k k') (hx : VRel r x x') : k' = k ∧ x' = x := by
  cases hk <;> first | (simp [keySame] at h; done) | (cases hx <;> first | (simp [keySame] at h; done) | exact ⟨rfl, rfl⟩)

omit ev in
theorem plainKey_spec {t : TypeId} {k : Value} (h : plainKey P t k = true) : (∃ j n, under P t = some (.int j) ∧ k = .int j n) ∨ (∃ s, under P t = some .string ∧ k = .string s) ∨ (∃ b, under P t = some .bool ∧ k = .bool b) := by
  unfold plainKey at h
  split at h
  · rename_i j i n hu
    have : j = i := by simpa using h
    subst this; exact .inl ⟨_, _, hu, rfl⟩
  · rename_i s hu; exact .inr (.inl ⟨_, hu, rfl⟩)
  · rename_i b hu; exact .inr (.inr ⟨_, hu, rfl⟩)
  · cases h

omit ev in
theorem run_checkKey {t : TypeId} {k : Value} (b : Bool) (h : plainKey P t k = true) : (Instr.checkKey b 10000 t k).run P w = .ok () w := by
  obtain ⟨D, hD⟩ : ∃ D, (10000 : Nat) = D + 1 := ⟨9999, rfl⟩
  rw [hD]
  rcases plainKey_spec h with ⟨j, n, hu, rfl⟩ | ⟨s, hu, rfl⟩ | ⟨q, hu, rfl⟩ <;> simp [Instr.checkKey, run_under hu]

omit ev in
theorem findNow_rel {t : TypeId} {d : TypeDesc} {k : Value} (hu : under P t = some d) (hp : plainKey P t k = true) : ∀ {es es' : List MapEntry} {i : Nat} {q : Option (Nat × Value)}, ERelL r es es' → findKey k es i = some q →
    ∃ q', Instr.findNow d k es' i = some q' ∧ (q = none ∧ q' = none ∨ ∃ j v v' e, q = some (j, v) ∧ q' = some (j, v') ∧ VRel r v v' ∧ i ≤ j ∧ es[j - i]? = some e ∧ e.val = v ∧ keySame k e.key = some true)
  | [], _, i, q, .nil, h => by cases h; exact ⟨none, rfl, .inl ⟨rfl, rfl⟩⟩
  | e :: es, _, i, q, .cons he ht, h => by
    rename_i e' es'
    simp only [findKey] at h
    have hsn : ∀ b, keySame k e.key = some b → Instr.sameNow d k e'.key = some b := by
      intro b hb
      obtain ⟨_, e2⟩ := keySame_eq (r := r) hb (k' := k) (x' := e'.key) (by
        rcases plainKey_spec hp with ⟨j, n, _, rfl⟩ | ⟨s, _, rfl⟩ | ⟨q, _, rfl⟩ <;> constructor) he.key
      rw [e2]
      rcases plainKey_spec hp with ⟨j, n, hu', rfl⟩ | ⟨s, hu', rfl⟩ | ⟨q, hu', rfl⟩
      · rw [hu] at hu'; cases hu'
        cases hk : e.key <;> simp [hk, keySame] at hb
        simp [Instr.sameNow, hb]
      · rw [hu] at hu'; cases hu'
        cases hk : e.key <;> simp [hk, keySame] at hb
        rename_i s'
        simp only [Instr.sameNow]
        congr 1
      · rw [hu] at hu'; cases hu'
        cases hk : e.key <;> simp [hk, keySame] at hb
        simp [Instr.sameNow, hb]
    cases hb : keySame k e.key with
    | none => simp [hb] at h
    | some b =>
      simp only [hb] at h
      cases b with
      | true =>
        simp at h; subst h
        exact ⟨some (i, e'.val), by simp [Instr.findNow, hsn _ hb], .inr ⟨i, e.val, e'.val, e, rfl, rfl, he.val, Nat.le_refl _, by simp, rfl, hb⟩⟩
      | false =>
        simp only at h
        obtain ⟨q', h1, h2⟩ := findNow_rel hu hp ht h
        refine ⟨q', by simp [Instr.findNow, hsn _ hb, h1], ?_⟩
        rcases h2 with h2 | ⟨j, v, v', e0, h3, h4, h5, h6, h7, h8, h9⟩
        · exact .inl h2
        · refine .inr ⟨j, v, v', e0, h3, h4, h5, by omega, ?_, h8, h9⟩
          rw [show j - i = (j - (i + 1)) + 1 from by omega]; simpa using h7

omit ev in
theorem run_findKey {t : TypeId} {k : Value} (hp : plainKey P t k = true) {es es' : List MapEntry} {q : Option (Nat × Value)} (he : ERelL r es es') (h : findKey k es 0 = some q) :
    ∃ q', (Instr.findKey t k es').run P w = .ok q' w ∧ (q = none ∧ q' = none ∨ ∃ j v v' e, q = some (j, v) ∧ q' = some (j, v') ∧ VRel r v v' ∧ es[j]? = some e ∧ e.val = v ∧ keySame k e.key = some true) := by
  cases hu : under P t with
  | none => unfold plainKey at hp; rw [hu] at hp; simp at hp
  | some d =>
    obtain ⟨q', h1, h2⟩ := findNow_rel (r := r) hu hp he h
    refine ⟨q', by simp [Instr.findKey, run_under hu, h1], ?_⟩
    rcases h2 with h2 | ⟨j, v, v', e0, h3, h4, h5, h6, h7, h8⟩
    · exact .inl h2
    · exact .inr ⟨j, v, v', e0, h3, h4, h5, by simpa using h7, h8⟩

omit ev in
theorem map_of (hm : HRel P r m w) {id : Nat} {e : Ent} {es : List MapEntry} {c : Nat} (hr : r id = some e) (hg : mapAt m.t id = some (es, c)) :
    ∃ es' : Array MapEntry, w.heap[e.b]? = some (.map es' c) ∧ ERelL r es es'.toList := hm.obj _ _ _ hr (mapAt_get hg)

omit ev in
theorem run_getObj_map {b c : Nat} {es : Array MapEntry} (h : w.heap[b]? = some (.map es c)) : (getObj b).run P w = .ok (.map es c) w := by
  simp [getObj, Sem.run, h]

theorem sim_lookup (hP : PGood P) (hm : HRel P r m w) {t : TypeId} {mp k : Operand} {ok : Bool} (ho : o.op = .lookup t mp k ok) (h : lookupR P m.t rs t mp k ok = some res) : OpSim P r m w (execOp a.eval o) A res := by
  have hx := ev mp
  have hk := ev k
  unfold lookupR at h
  simp only at h
  generalize hcv : a.eval mp = vc at hx
  generalize hck : a.eval k = kc at hk
  generalize eval P rs mp = v at h hx
  generalize eval P rs k = kv at h hk
  cases hu : under P t with
  | none => simp [hu] at h
  | some d =>
    cases d <;> try (simp [hu] at h; done)
    rename_i kt el
    have go : ∀ (es : List MapEntry) (es' : Array MapEntry), ERelL r es es'.toList → plainKey P kt kv = true →
        (∀ q', (Instr.findKey kt kv es'.toList).run P w = .ok q' w → ∀ z, (q' = none → zeroT P el = some z) →
          (Instr.lookup t vc kv ok).run P w = .ok (match q' with | some (_, v) => if ok then .tuple #[v, .bool true] else v | none => if ok then .tuple #[z, .bool false] else z) w) →
        (match findKey kv es 0, zeroT P el with
          | some (some (_, v)), _ => some (OpR.val (if ok then .tuple #[v, .bool true] else v))
          | some none, some z => some (.val (if ok then .tuple #[z, .bool false] else z))
          | _, _ => none) = some res → OpSim P r m w (execOp a.eval o) A res := by
      intro es es' her hp hrun hres
      have hkk : kc = kv := by
        rcases plainKey_spec hp with ⟨j, n, _, rfl⟩ | ⟨s, _, rfl⟩ | ⟨q, _, rfl⟩ <;> cases hk <;> rfl
      cases hf : findKey kv es 0 with
      | none => simp [hf] at hres
      | some q =>
        obtain ⟨q', h1, h2⟩ := run_findKey (P := P) (w := w) hp her hf
        rcases h2 with ⟨rfl, rfl⟩ | ⟨j, v1, v2, e0, rfl, rfl, h5, _⟩
        · cases hz : zeroT P el with
          | none => simp [hf, hz] at hres
          | some z =>
            simp only [hf, hz] at hres
            cases hres
            have hzr : VRel r z z := goodZ_rel (hP.zero _ _ hz)
            refine OpSim.mk (v' := if ok then .tuple #[z, .bool false] else z) ?_ ?_
            · cases ok
              · exact hzr
              · exact .tuple (.cons hzr (.cons (.bool _) .nil))
            · have := hrun none h1 z (fun _ => hz)
              simp only [execOp, ho, hcv, hck, hkk, Sem.run_bind, this, Result.andThen_ok, Sem.run_pure]
        · simp only [hf] at hres
          cases hres
          refine OpSim.mk (v' := if ok then .tuple #[v2, .bool true] else v2) ?_ ?_
          · cases ok
            · exact h5
            · exact .tuple (.cons h5 (.cons (.bool _) .nil))
          · have := hrun (some (j, v2)) h1 undef (fun hh => by cases hh)
            simp only [execOp, ho, hcv, hck, hkk, Sem.run_bind, this, Result.andThen_ok, Sem.run_pure]
    cases hx <;> try (simp [hu] at h; done)
    case mnil =>
      simp only [hu] at h
      split at h
      · rename_i hp
        refine go [] #[] .nil hp ?_ h
        intro q' hq z hz
        simp only [Instr.lookup, Sem.run_bind, run_under hu, Result.andThen_ok, Sem.run_pure, run_checkKey _ hp, hq]
        cases q' with
        | none => simp [run_zeroT (hz rfl)]
        | some x => simp
      · cases h
    case map id e hr =>
      simp only [hu] at h
      split at h
      · rename_i hp
        cases hmap : mapAt m.t id with
        | none => simp [hmap] at h
        | some q =>
          obtain ⟨es, c⟩ := q
          simp only [hmap] at h
          obtain ⟨es', h1, h2⟩ := map_of hm hr hmap
          refine go es es' h2 hp ?_ h
          intro q' hq z hz
          simp only [Instr.lookup, Sem.run_bind, run_under hu, Result.andThen_ok, Sem.run_pure, run_getObj_map h1, run_checkKey _ hp, hq]
          cases q' with
          | none => simp [run_zeroT (hz rfl)]
          | some x => simp
      · cases h

end
end Go.Am
/-
  THE ABSTRACT MACHINE, 11: what makes memory.
-/
namespace Go.Am

section
variable {P : Program} {r : Ren} {m : Mem} {w : World} {rs : Rs} {a : Act} {o : Oper} {A : Prop} {res : OpR}

theorem bytes_of_size {t : TypeId} {s : Nat} (h : sizeT P t = some s) : ∃ b, bytesT P t = some b := by
  unfold sizeT at h
  cases hi : P.info? t with
  | none => simp [hi] at h
  | some i => exact ⟨i.bytes, by simp [bytesT, hi]⟩

theorem size_of_zero {t : TypeId} {z : Value} (h : zeroT P t = some z) : ∃ s, sizeT P t = some s := by
  replace h := (zeroT_info h).2
  cases hi : P.info? t with
  | none => simp [hi] at h
  | some i => exact ⟨i.size, by simp [sizeT, hi]⟩

theorem run_bytesT {t : TypeId} {b : Nat} (h : bytesT P t = some b) : ∃ i, P.info? t = some i ∧ i.bytes = b := by
  unfold bytesT at h
  cases hi : P.info? t with
  | none => simp [hi] at h
  | some i => simp [hi] at h; exact ⟨i, rfl, h⟩

theorem HRel.newRow (hm : HRel P r m w) {t : TypeId} {es bs : Nat} (hs : sizeT P t = some es) (hb : bytesT P t = some bs) {cs cs' : List Value} (hrel : VRelL r cs (cs'.take cs.length)) (hlen : cs.length ≤ cs'.length)
    {lo hi : Nat} (hfz : lo = hi) (d : Nat) :
    HRel P (r.with m.n ⟨w.heap.size, 0, cs'.length, es, bs⟩) ⟨m.t.set m.n (some (.row cs t 0)), m.n + 1⟩ { w with heap := w.heap.push (.cells ⟨cs'⟩ t (lo, hi)), drawn := d } ∧
    Evo r m w (r.with m.n ⟨w.heap.size, 0, cs'.length, es, bs⟩) ⟨m.t.set m.n (some (.row cs t 0)), m.n + 1⟩ { w with heap := w.heap.push (.cells ⟨cs'⟩ t (lo, hi)), drawn := d } := by
  refine hm.alloc d rfl ⟨⟨cs'⟩, lo, hi, rfl, by simp, by simpa using hlen, ?_, ⟨fun x _ _ => by omega, fun _ => .inl hfz⟩, hs, hb, by simp⟩
  have := hrel.mono (Ext.with (r := r) ⟨w.heap.size, 0, cs'.length, es, bs⟩ (hm.fresh _ (Nat.le_refl _)))
  simpa using this

theorem OpSim.mkAlloc {s : Sem Next} {x : AObj} {v v' : Value} {w' : World} {e : Ent} (h : s.run P w = .ok (.value v') w') (hh : HRel P (r.with m.n e) ⟨m.t.set m.n (some x), m.n + 1⟩ w' ∧ Evo r m w (r.with m.n e) ⟨m.t.set m.n (some x), m.n + 1⟩ w')
    (hv : VRel (r.with m.n e) (numbered m.n v) v') : OpSim P r m w s A (.alloc x v) :=
  .inr ⟨.value v', w', e, h, hh.1, hh.2, hv⟩

theorem ptr_new {n : Nat} {b size es bs : Nat} : VRel (r.with n ⟨b, 0, size, es, bs⟩) (numbered n (.pointer (some ⟨0, 0, none⟩))) (.pointer (some ⟨b, 0, none⟩)) := by
  exact VRel.ptr (r := r.with n ⟨b, 0, size, es, bs⟩) (id := n) (off := 0) (Ren.with_same _ _ _)

theorem slice_new {n : Nat} {b size es bs len cap cap' : Nat} {sp : Option Nat} (hc : cap ≤ cap') (hl : len ≤ cap) (hx : sp = some 1 → cap' = cap) (hr : cap' * es ≤ size) (_hb : True) :
    VRel (r.with n ⟨b, 0, size, es, bs⟩) (numbered n (.slice (some ⟨0, 0, sp⟩) len cap)) (.slice (some ⟨b, 0, none⟩) len cap') := by
  exact VRel.slice (r := r.with n ⟨b, 0, size, es, bs⟩) (id := n) (off := 0) (off' := 0) (Ren.with_same _ _ _) (fun _ => rfl) hc hl hx (by simpa using hr) trivial (by simp)

theorem zero_cells (hP : PGood P) {t : TypeId} {z : Value} (h : zeroT P t = some z) : VRelL r z.cells.toList z.cells.toList := by
  have := hP.zero t z h
  exact VRel.cells (goodZ_rel this) (goodZ_junk this)

/-- What an operation does that makes one object, whatever number it is to bear. -/
def AllocSim (P : Program) (r : Ren) (w : World) (s : Sem Next) (x : AObj) (v : Value) : Prop :=
  ∃ v' ob e d, s.run P w = .ok (.value v') { w with heap := w.heap.push ob, drawn := d } ∧ e.b = w.heap.size ∧ ∀ n, r n = none → ORel P (r.with n e) e (some ob) x ∧ VRel (r.with n e) (numbered n v) v'

theorem AllocSim.op {s : Sem Next} {x : AObj} {v : Value} (h : AllocSim P r w s x v) (hm : HRel P r m w) : OpSim P r m w s A (.alloc x v) := by
  obtain ⟨v', ob, e, d, h1, h2, h3⟩ := h
  obtain ⟨h4, h5⟩ := h3 m.n (hm.fresh _ (Nat.le_refl _))
  exact OpSim.mkAlloc h1 (hm.alloc d h2 h4) h5

theorem AllocSim.row {s : Sem Next} {t : TypeId} {es bs : Nat} (hs : sizeT P t = some es) (hb : bytesT P t = some bs) {cs cs' : List Value} (hrel : VRelL r cs (cs'.take cs.length)) (hlen : cs.length ≤ cs'.length) {v v' : Value} {d : Nat}
    (hrun : s.run P w = .ok (.value v') { w with heap := w.heap.push (.cells ⟨cs'⟩ t (0, 0)), drawn := d }) (hv : ∀ n, VRel (r.with n ⟨w.heap.size, 0, cs'.length, es, bs⟩) (numbered n v) v') : AllocSim P r w s (.row cs t 0) v := by
  refine ⟨v', _, ⟨w.heap.size, 0, cs'.length, es, bs⟩, d, hrun, rfl, fun n hn => ⟨⟨⟨cs'⟩, 0, 0, rfl, by simp, by simpa using hlen, ?_, ⟨fun x _ _ => by omega, fun _ => .inl rfl⟩, hs, hb, by simp⟩, hv n⟩⟩
  have := hrel.mono (Ext.with (r := r) ⟨w.heap.size, 0, cs'.length, es, bs⟩ hn)
  simpa using this

theorem asim_alloc (hP : PGood P) {e : TypeId} (ho : o.op = .alloc e) (h : allocR P e = some res) : ∃ x v, res = .alloc x v ∧ AllocSim P r w (execOp a.eval o) x v := by
  unfold allocR at h
  cases hz : zeroT P e with
  | none => simp [hz] at h
  | some z =>
    simp [hz] at h; subst h
    obtain ⟨s, hs⟩ := size_of_zero hz
    obtain ⟨b, hb⟩ := bytes_of_size hs
    refine ⟨_, _, rfl, AllocSim.row hs hb (cs := z.cells.toList) (cs' := z.cells.toList) (v' := .pointer (some ⟨w.heap.size, 0, none⟩)) (d := w.drawn) (by rw [List.take_length]; exact zero_cells hP hz) (Nat.le_refl _) ?_ fun n => ptr_new⟩
    simp only [execOp, ho, Instr.alloc, Sem.run_bind, run_zeroT hz, Result.andThen_ok, newVar, newRow, run_newObj, Sem.run_pure]

variable (ev : ∀ x, VRel r (eval P rs x) (a.eval x))
include ev

theorem asim_box {e : TypeId} {x : Operand} (ho : o.op = .box e x) (h : boxR P rs e x = some res) : ∃ x v, res = .alloc x v ∧ AllocSim P r w (execOp a.eval o) x v := by
  have hx := ev x
  unfold boxR at h
  simp only at h
  split at h
  · cases h
  · rename_i hj
    split at h <;> cases h
    rename_i hs
    obtain ⟨b, hb⟩ := bytes_of_size hs
    have hc := hx.cells (by simpa using hj)
    have hl := hc.length
    refine ⟨_, _, rfl, AllocSim.row hs hb (cs := (eval P rs x).cells.toList) (cs' := (a.eval x).cells.toList) (v' := .pointer (some ⟨w.heap.size, 0, none⟩)) (d := w.drawn) (by rw [hl, List.take_length]; exact hc) (by omega) ?_ fun n => ptr_new⟩
    simp only [execOp, ho, Instr.box, Sem.run_bind, Result.andThen_ok, newVar, newRow, run_newObj, Sem.run_pure]

omit ev in
theorem rep_rel {z : List Value} (h : VRelL r z z) (n : Nat) : VRelL r (repCells z n) (repCells z n) := by
  unfold repCells
  apply VRelL.of_get rfl
  intro i v v' h1 h2
  rw [h1] at h2; cases h2
  rw [List.getElem?_map] at h1
  cases hr : (List.range (n * z.length))[i]? with
  | none => rw [hr] at h1; cases h1
  | some k =>
    rw [hr] at h1
    simp only [Option.map_some, Option.some.injEq] at h1
    have hk : k < n * z.length := by
      have := List.mem_of_getElem? hr
      simpa using this
    have hz : 0 < z.length := by
      rcases Nat.eq_zero_or_pos z.length with e | e
      · rw [e] at hk; simp at hk
      · exact e
    have hlt : k % z.length < z.length := Nat.mod_lt _ hz
    have hget : z[k % z.length]? = some v := by
      rw [← h1, getElem!_pos z _ hlt, List.getElem?_eq_getElem hlt]
    obtain ⟨v2, h3, h4⟩ := h.get hget
    rw [hget] at h3; cases h3; exact h4

omit ev in
theorem rep_array (z : Array Value) (n : Nat) : ((Array.range (n * z.size)).map fun i => z[i % z.size]!).toList = repCells z.toList n := by
  unfold repCells
  simp only [Array.toList_map, Array.toList_range, Array.length_toList]
  apply List.map_congr_left
  intro i _
  cases z; simp

omit ev in
theorem rep_length (z : List Value) (n : Nat) : (repCells z n).length = n * z.length := by simp [repCells]

theorem asim_buildSlice (hP : PGood P) {t : TypeId} {len : Nat} {parts : Array (Nat × Operand)} (ho : o.op = .buildSlice t len parts) (h : buildSliceR P rs t len parts = some res) : ∃ x v, res = .alloc x v ∧ AllocSim P r w (execOp a.eval o) x v := by
  unfold buildSliceR at h
  simp only at h
  cases hu : under P t with
  | none => simp [hu] at h
  | some d =>
    cases d <;> try (simp [hu] at h; done)
    rename_i el
    simp only [hu] at h
    cases hs : sizeT P el with
    | none => simp [hs] at h
    | some s =>
      cases hz : zeroT P el with
      | none => simp [hs, hz] at h
      | some z =>
        simp only [hs, hz] at h
        split at h
        · cases h
        · rename_i hbig
          obtain ⟨b, hb⟩ := bytes_of_size hs
          rw [hb] at h
          simp only [Option.getD_some] at h
          split at h
          · cases h
          rename_i hroom
          have hbs : len * b ≤ 140737488355328 := by
            have : roomy (len * b) = true := by simpa using hroom
            simpa [roomy] using this
          have hzs := hP.zsize el z s hz hs
          cases hf : fillL (fun i => some (i * s, s)) (repCells z.cells.toList len) (parts.toList.map fun (i, x) => (i, eval P rs x)) with
          | none => rw [hf] at h; cases h
          | some l =>
            rw [hf] at h; cases h
            have hzr := zero_cells (r := r) hP hz
            have hpl : (parts.map fun (i, x) => (i, a.eval x)).toList = parts.toList.map fun (i, x) => (i, a.eval x) := by simp
            obtain ⟨out, h1, h2, h3⟩ := fill_rel (pl' := fun i => some (i * s, s)) (fun _ _ hx => hx) _ (parts.toList.map fun (i, x) => (i, a.eval x)) _ ((Array.range (len * z.cells.size)).map fun i => z.cells[i % z.cells.size]!) _ (parts_fst _) (parts_rel ev _)
              (by rw [rep_array]; exact rep_rel hzr len) hf
            have hlen : out.toList.length = l.length := h2.length.symm
            have hll : l.length = len * s := by rw [h3, rep_length]; simp [hzs]
            have hrun : (execOp a.eval o).run P w = .ok (.value (.slice (some ⟨w.heap.size, 0, none⟩) len len)) { w with heap := w.heap.push (.cells ⟨out.toList⟩ el (0, 0)), drawn := w.drawn } := by
              have hfill : Instr.fill (fun i => some (i * s, s)) ((Array.range (len * s)).map ((if len * s = 0 then #[] else z.cells)[· % (if len * s = 0 then #[] else z.cells).size]!)) (parts.toList.map fun (i, x) => (i, a.eval x)) = some out := by
                rw [← h1]
                congr 1
                by_cases h0 : len * s = 0
                · rw [hzs, h0]; simp
                · rw [if_neg h0, hzs]
              have hbig' : ¬ (len * s > 2 ^ 24) := hbig
              simp only [execOp, ho, Instr.buildSlice, Sem.run_bind, run_under hu, Result.andThen_ok, run_sizeT hs, Sem.run_ite, if_neg hbig']
              by_cases h0 : len * s = 0
              · rw [if_pos h0] at hfill
                simp only [if_pos h0, Sem.run_pure, Result.andThen_ok, hpl, hfill, Sem.run_bind, newRow, run_newObj]
              · rw [if_neg h0] at hfill
                simp only [if_neg h0, run_zeroT hz, Sem.run_pure, Result.andThen_ok, hpl, hfill, Sem.run_bind, newRow, run_newObj]
            exact ⟨_, _, rfl, AllocSim.row hs hb (cs := l) (cs' := out.toList) (by rw [← hlen, List.take_length]; exact h2) (by omega) hrun fun n => slice_new (Nat.le_refl _) (Nat.le_refl _) (fun _ => rfl) (by omega) trivial⟩

theorem asim_makeSlice (hP : PGood P) {t : TypeId} {l c : Operand} (ho : o.op = .makeSlice t l c) (h : makeSliceR P rs t l c = some res) : ∃ x v, res = .alloc x v ∧ AllocSim P r w (execOp a.eval o) x v := by
  have hl := ev l
  have hc := ev c
  unfold makeSliceR at h
  simp only at h
  generalize hlv : a.eval l = lv at hl
  generalize hcv : a.eval c = cv at hc
  generalize eval P rs l = lu at h hl
  generalize eval P rs c = cu at h hc
  cases hu : under P t with
  | none => simp [hu] at h
  | some d =>
    cases d <;> try (simp [hu] at h; done)
    rename_i el
    cases hl <;> try (simp [hu] at h; done)
    rename_i k1 n1
    cases hc <;> try (simp [hu] at h; done)
    rename_i k2 n2
    simp only [hu] at h
    cases hb : bytesT P el with
    | none => simp [hb] at h
    | some b =>
      cases hz : zeroT P el with
      | none => simp [hb, hz] at h
      | some z =>
        simp only [hb, hz] at h
        split at h <;> cases h
        rename_i hcond
        obtain ⟨h1, h2, h3, h4⟩ := hcond
        obtain ⟨s, hs⟩ := size_of_zero hz
        have hzs := hP.zsize el z s hz hs
        have hroom : n2.toNat * b ≤ 140737488355328 := by simpa [roomy] using h4
        have hw1 : IntKind.i64.wrap n1 = n1 := IntWalk.i64_in _ (by omega)
        have hw2 : IntKind.i64.wrap n2 = n2 := IntWalk.i64_in _ (by omega)
        have hrl := rep_length z.cells.toList n2.toNat
        refine ⟨_, _, rfl, AllocSim.row hs hb (cs := repCells z.cells.toList n2.toNat) (cs' := repCells z.cells.toList n2.toNat) (v' := .slice (some ⟨w.heap.size, 0, none⟩) n1.toNat n2.toNat) (d := w.drawn) (by rw [List.take_length]; exact rep_rel (zero_cells hP hz) _) (Nat.le_refl _) ?_
          fun n => slice_new (Nat.le_refl _) (by omega) (fun _ => rfl) (by rw [hrl, Array.length_toList, hzs]; omega) trivial⟩
        obtain ⟨i, hi, hib⟩ := run_bytesT hb
        have hbig : ¬ ((b : Int) * n2 > 281474976710656) := by
          have e1 : (n2.toNat : Int) = n2 := Int.toNat_of_nonneg (by omega)
          have e2 : (b : Int) * n2 = ((n2.toNat * b : Nat) : Int) := by rw [Int.natCast_mul, e1, Int.mul_comm]
          rw [e2]
          generalize n2.toNat * b = q at hroom
          omega
        have hcells : ∀ (q : Array Value), (q = if n2.toNat * s = 0 then #[] else z.cells) → ((Array.range (n2.toNat * s)).map (q[· % q.size]!)) = ⟨repCells z.cells.toList n2.toNat⟩ := by
          rintro q rfl
          apply Array.ext'
          rw [← rep_array, hzs]
          by_cases h0 : n2.toNat * s = 0
          · rw [h0]; simp
          · rw [if_neg h0, hzs]
        have hbig' : ¬ ((b : Int) * n2 > 2 ^ 48) := hbig
        have htl : (decide (n2 < 0) || decide ((b : Int) * n2 > 2 ^ 48) || decide (n1 < 0) || decide (n1 > n2)) = false := by
          simp only [Bool.or_eq_false_iff, decide_eq_false_iff_not]
          exact ⟨⟨⟨by omega, hbig'⟩, by omega⟩, by omega⟩
        simp only [execOp, ho, hlv, hcv, Instr.makeSlice, asInt, asIntOf, typeInfo, Sem.run_bind, Sem.run_pure, run_under hu, Result.andThen_ok, run_program, hi, hw1, hw2, hib]
        rw [if_neg (by rw [htl]; simp)]
        simp only [Sem.run_bind, Go.run_askRoom, Result.andThen_ok, run_sizeT hs]
        by_cases h0 : n2.toNat * s = 0
        · have := hcells #[] (by rw [if_pos h0])
          simp only [if_pos h0, Sem.run_pure, Result.andThen_ok, Sem.run_bind, newRow, run_newObj, this]
        · have := hcells z.cells (by rw [if_neg h0])
          simp only [if_neg h0, run_zeroT hz, Sem.run_pure, Result.andThen_ok, Sem.run_bind, newRow, run_newObj, this]

omit ev in
theorem HRel.newObj (hm : HRel P r m w) {x : AObj} {ob : Obj} (hr : ∀ e : Ent, e.d = 0 → ORel P (r.with m.n e) e (some ob) x) (d : Nat) :
    HRel P (r.with m.n ⟨w.heap.size, 0, 0, 0, 0⟩) ⟨m.t.set m.n (some x), m.n + 1⟩ { w with heap := w.heap.push ob, drawn := d } ∧
    Evo r m w (r.with m.n ⟨w.heap.size, 0, 0, 0, 0⟩) ⟨m.t.set m.n (some x), m.n + 1⟩ { w with heap := w.heap.push ob, drawn := d } :=
  hm.alloc d rfl (hr _ rfl)

omit ev in
theorem sim_makeMap (hm : HRel P r m w) {t : TypeId} (ho : o.op = .makeMap t none) : OpSim P r m w (execOp a.eval o) A (.alloc (.map [] 0) (.map (some 0))) := by
  have hh := hm.newObj (x := .map [] 0) (ob := .map #[] 0) (fun e _ => ⟨#[], rfl, .nil⟩) w.drawn
  refine OpSim.mkAlloc (v' := .map (some w.heap.size)) ?_ hh (VRel.map (r := r.with m.n ⟨w.heap.size, 0, 0, 0, 0⟩) (id := m.n) (Ren.with_same _ _ _))
  simp only [execOp, ho, Instr.makeMap, Option.map_none, Sem.run_bind, run_newObj, Result.andThen_ok, Sem.run_pure]

theorem sim_range_alloc (hm : HRel P r m w) {t : TypeId} {x : Operand} (ho : o.op = .range t x) (h : rangeR P m.t rs t x = some res) : OpSim P r m w (execOp a.eval o) A res := by
  have hx := ev x
  unfold rangeR at h
  simp only at h
  generalize hcv : a.eval x = vc at hx
  generalize eval P rs x = v at h hx
  cases hu : under P t with
  | none => simp [hu] at h
  | some d =>
    cases d <;> try (simp [hu] at h; done)
    case string =>
      cases hx <;> try (simp [hu] at h; done)
      simp only [hu] at h
      cases h
      rename_i s
      have hh := hm.newObj (x := .siter s 0) (ob := .stringIter s 0) (fun e he => ⟨rfl, he⟩) w.drawn
      refine OpSim.mkAlloc (v' := .pointer (some ⟨w.heap.size, 0, none⟩)) ?_ hh ptr_new
      simp only [execOp, ho, hcv, Instr.range, Sem.run_bind, run_under hu, Result.andThen_ok, run_newObj, Sem.run_pure]
    case map k el =>
      cases hx <;> try (simp [hu] at h; done)
      case mnil =>
        simp only [hu] at h
        cases h
        have hh := hm.newObj (x := .miter none 0 [] 0) (ob := .mapIter none 0 #[] 0) (fun e he => ⟨he, none, rfl, .mnil⟩) w.drawn
        refine OpSim.mkAlloc (v' := .pointer (some ⟨w.heap.size, 0, none⟩)) ?_ hh ptr_new
        simp only [execOp, ho, hcv, Instr.range, Sem.run_bind, run_under hu, Result.andThen_ok, run_newObj, Sem.run_pure]
      case map id e hr =>
        simp only [hu] at h
        cases hmap : mapAt m.t id with
        | none => simp [hmap] at h
        | some q =>
          obtain ⟨es, c⟩ := q
          simp [hmap] at h
          subst h
          obtain ⟨es', h1, h2⟩ := map_of hm hr hmap
          have hh := hm.newObj (x := .miter (some id) c [] c) (ob := .mapIter (some e.b) c #[] c) (fun e' he => ⟨he, some e.b, rfl, VRel.map (by
            rw [Ren.with_ne]
            · exact hr
            · intro hid; subst hid; rw [hm.fresh _ (Nat.le_refl _)] at hr; cases hr)⟩) w.drawn
          refine .inr ⟨.value (.pointer (some ⟨w.heap.size, 0, none⟩)), _, _, ?_, hh.1, hh.2, ptr_new⟩
          simp only [execOp, ho, hcv, Instr.range, Sem.run_bind, run_under hu, Result.andThen_ok, run_getObj_map h1, run_newObj, Sem.run_pure]

end
end Go.Am
/-
  THE ABSTRACT MACHINE, 12: what writes memory.
-/
namespace Go.Am

section
variable {P : Program} {r : Ren} {m : Mem} {w : World} {rs : Rs} {a : Act} {o : Oper} {A : Prop} {res : OpR}

theorem oneC_rel {v v' : Value} (h : oneC v = true) (hv : VRel r v v') : v'.oneCell' = true := by
  cases hv <;> first | rfl | assumption | (simp [oneC] at h)

theorem oneC_relL : ∀ {l l' : List Value}, allL oneC l = true → VRelL r l l' → ∀ v ∈ l', v.oneCell' = true
  | [], _, _, .nil, v, hv => by simp at hv
  | x :: l, _, h, .cons hx ht, v, hv => by
    simp only [allL, Bool.and_eq_true] at h
    rcases List.mem_cons.1 hv with rfl | hv
    · exact oneC_rel h.1 hx
    · exact oneC_relL h.2 ht v hv

/-- What a world is behind some stores into one block. -/
structure Wrote (w w' : World) (b : Nat) : Prop where
  os : w'.os = w.os
  tape : w'.tape = w.tape
  output : w'.output = w.output
  size : w'.heap.size = w.heap.size
  other : ∀ b', b' ≠ b → w'.heap[b']? = w.heap[b']?

theorem Wrote.refl (w : World) (b : Nat) : Wrote w w b := ⟨rfl, rfl, rfl, rfl, fun _ _ => rfl⟩
theorem Wrote.trans {w w1 w2 : World} {b : Nat} (h : Wrote w w1 b) (k : Wrote w1 w2 b) : Wrote w w2 b :=
  ⟨k.os.trans h.os, k.tape.trans h.tape, k.output.trans h.output, k.size.trans h.size, fun b' hb => (k.other b' hb).trans (h.other b' hb)⟩

theorem Wrote.setCell (w : World) (a : Addr) (v : Value) : Wrote w (w.setCell a v) a.block := by
  refine ⟨rfl, rfl, rfl, by simp [World.setCell], fun b' hb => ?_⟩
  simp only [World.setCell, Array.getElem?_modify]
  rw [if_neg (Ne.symm hb)]

theorem heap_setCell {b off : Nat} {c : Array Value} {t : TypeId} {fz : Nat × Nat} (h : w.heap[b]? = some (.cells c t fz)) (v : Value) :
    (w.setCell ⟨b, off, none⟩ v).heap[b]? = some (.cells (c.setIfInBounds off v) t fz) := by
  simp [World.setCell, Array.getElem?_modify, h]

theorem splice_cons {cs : List Value} {off : Nat} (v : Value) (l : List Value) (h : off < cs.length) : splice (cs.set off v) (off + 1) l = splice cs off (v :: l) := by
  have := foldl_set off [v] 0 ⟨cs⟩
  simp only [splice, List.length_cons]
  rw [List.take_add_one, List.getElem?_set_self (by omega), List.take_set_of_le (Nat.le_refl _), List.drop_set_of_lt (by omega)]
  simp only [Option.toList_some, List.append_assoc, List.singleton_append]
  rw [show off + 1 + l.length = off + (l.length + 1) from by omega]

theorem run_storeCells (b off : Nat) {t : TypeId} {lo hi : Nat} : ∀ (l : List Value) (i : Nat) (w : World) (c : Array Value), w.heap[b]? = some (.cells c t (lo, hi)) → off + i + l.length ≤ c.size →
    (∀ x, off + i ≤ x → x < c.size → ¬ (lo ≤ x ∧ x < hi)) → (∀ v ∈ l, v.oneCell' = true) →
    ∃ (w' : World) (c' : Array Value), (storeCells ⟨b, off, none⟩ l i).run P w = .ok () w' ∧ w'.heap[b]? = some (.cells c' t (lo, hi)) ∧ c'.toList = splice c.toList (off + i) l ∧ Wrote w w' b
  | [], i, w, c, h, _, _, _ => ⟨w, c, by simp [storeCells], h, by simp [splice], Wrote.refl w b⟩
  | v :: l, i, w, c, h, hl, hf, h1 => by
    simp only [List.length_cons] at hl
    have hcell : w.cell? ⟨b, off + i, none⟩ = some (c[off + i]'(by omega)) := by
      simp only [World.cell?, h]
      simp
    have hfz : w.frozen? ⟨b, off + i, none⟩ = false := by
      simp only [World.frozen?, h]
      have := hf (off + i) (Nat.le_refl _) (by omega)
      simpa using this
    obtain ⟨w', c', h2, h3, h4, h5⟩ := run_storeCells b off l (i + 1) (w.setCell ⟨b, off + i, none⟩ v) (c.setIfInBounds (off + i) v) (heap_setCell h v) (by simp; omega)
      (fun x hx hx2 => hf x (by omega) (by simpa using hx2)) (fun u hu => h1 u (by simp [hu]))
    refine ⟨w', c', ?_, h3, ?_, (Wrote.setCell w ⟨b, off + i, none⟩ v).trans h5⟩
    · simp only [storeCells, Sem.run_bind, add_none, run_store P w _ v .plain (h1 v (by simp)), hcell, hfz, Bool.false_eq_true, if_false, Result.andThen_ok, h2]
    · rw [h4, Array.toList_setIfInBounds, ← Nat.add_assoc, splice_cons v l (by simp; omega)]

theorem splice_get {cs vs : List Value} {o : Nat} (h : o + vs.length ≤ cs.length) (i : Nat) : (splice cs o vs)[i]? = if i < o then cs[i]? else if i < o + vs.length then vs[i - o]? else cs[i]? := by
  unfold splice
  by_cases h1 : i < o
  · rw [if_pos h1, List.append_assoc, List.getElem?_append_left (by simp; omega), List.getElem?_take_of_lt h1]
  · rw [if_neg h1]
    by_cases h2 : i < o + vs.length
    · rw [if_pos h2, List.getElem?_append_left (by simp; omega), List.getElem?_append_right (by simp; omega)]
      simp only [List.length_take]
      rw [Nat.min_eq_left (by omega)]
    · rw [if_neg h2, List.getElem?_append_right (by simp; omega)]
      simp only [List.length_append, List.length_take, List.getElem?_drop]
      rw [Nat.min_eq_left (by omega)]
      congr 1; omega

theorem splice_window {c vs : List Value} {d n off : Nat} (h : off + vs.length ≤ n) (h2 : d + n ≤ c.length) : ((splice c (d + off) vs).drop d).take n = splice ((c.drop d).take n) off vs := by
  apply List.ext_getElem?
  intro i
  rw [splice_get (by simp; omega)]
  rw [List.getElem?_take, List.getElem?_drop, splice_get (by omega)]
  rw [List.getElem?_take, List.getElem?_drop]
  by_cases h1 : i < n
  · simp only [if_pos h1]
    by_cases h3 : i < off
    · rw [if_pos (by omega), if_pos h3]
    · rw [if_neg (by omega), if_neg h3]
      by_cases h4 : i < off + vs.length
      · rw [if_pos (by omega), if_pos h4]; congr 1; omega
      · rw [if_neg (by omega), if_neg h4]
  · simp only [if_neg h1]
    rw [if_neg (by omega), if_neg (by omega)]

/-- A row written, there and in the world. -/
theorem store_row (hm : HRel P r m w) {id off : Nat} {e : Ent} {vs vs' : List Value} {t' : Tr} (hr : r id = some e) (h : storeAt m.t id off vs = some t') (hv : VRelL r vs vs') {off' : Nat} (ho : vs ≠ [] → off' = e.d + off) :
    ∃ w', (storeCells ⟨e.b, off', none⟩ vs').run P w = .ok () w' ∧ HRel P r ⟨t', m.n⟩ w' ∧ Evo r m w r ⟨t', m.n⟩ w' := by
  unfold storeAt at h
  split at h
  · rename_i cs t fz hrow
    split at h <;> cases h
    rename_i hc
    obtain ⟨hc1, hc2, hc3⟩ := hc
    have hget := rowAt_get hrow
    obtain ⟨c, lo, hi, h1, h2, h3, h4, h5, h6⟩ := hm.obj _ _ _ hr hget
    by_cases hne : vs = []
    · subst hne
      cases hv
      have hsp : splice cs off [] = cs := by simp [splice]
      rw [hsp]
      refine ⟨w, by simp [storeCells], ?_⟩
      refine hm.write hr hget (by simp only [ro]; cases hb : Nat.blt cs.length (fz / 2) with | false => rfl | true => (have := Nat.le_of_ble_eq_true hb; simp at hc1; omega)) rfl rfl rfl rfl (fun _ _ => rfl) ⟨c, lo, hi, h1, h2, h3, h4, h5, h6⟩
    · have hoff := ho hne
      subst hoff
      have hvl := hv.length
      obtain ⟨w', c', h7, h8, h9, h10⟩ := run_storeCells (P := P) e.b (e.d + off) vs' 0 w c h1 (by omega) (fun x hx hx2 => h5.free x (by omega) (by omega)) (oneC_relL hc3 hv)
      refine ⟨w', h7, ?_⟩
      have hvpos : 0 < vs.length := by cases vs with | nil => exact absurd rfl hne | cons _ _ => simp
      refine hm.write hr hget (by simp only [ro]; cases hb : Nat.blt cs.length (fz / 2) with | false => rfl | true => (have := Nat.le_of_ble_eq_true hb; omega)) h10.os h10.tape h10.output h10.size h10.other ⟨c', lo, hi, h8, ?_, ?_, ?_, h5, h6⟩
      · have : c'.toList.length = c.toList.length := by rw [h9]; apply splice_length; simp; omega
        simpa [h2] using this
      · have : c'.toList.length = c.toList.length := by rw [h9]; apply splice_length; simp; omega
        simp only [Array.length_toList] at this
        rw [splice_length (by omega), this]; exact h3
      · rw [splice_length (by omega), h9]
        have := h4.splice hv off
        rw [Nat.add_zero, splice_window (by omega) (by simp; omega)]
        exact this
  · cases h

theorem OpSim.mkStep {s : Sem Next} {t : Tr} {v : Value} {nx : Next} {w' : World} (h : s.run P w = .ok nx w') (hh : HRel P r ⟨t, m.n⟩ w' ∧ Evo r m w r ⟨t, m.n⟩ w') (hv : NRel r v nx) : OpSim P r m w s A (.step v t) :=
  ⟨nx, w', h, hh.1, hh.2, hv⟩

variable (ev : ∀ x, VRel r (eval P rs x) (a.eval x))
include ev

theorem sim_store (hm : HRel P r m w) {t : TypeId} {p x : Operand} (ho : o.op = .store t p x) (h : storeR P m.t rs t p x = some res) : OpSim P r m w (execOp a.eval o) A res := by
  have hp := ev p
  have hx := ev x
  unfold storeR at h
  simp only at h
  generalize hcv : a.eval p = vc at hp
  generalize eval P rs p = v at h hp
  cases hp <;> try (cases h; done)
  case ptr id off e hr =>
    simp only at h
    split at h
    · rename_i hc
      cases hs : storeAt m.t id off (eval P rs x).cells.toList with
      | none => simp [hs] at h
      | some t' =>
        simp [hs] at h; subst h
        have hcl := hx.cells hc.1
        obtain ⟨w', h1, h2⟩ := store_row (P := P) hm hr hs hcl (off' := e.d + off) (fun _ => rfl)
        refine OpSim.mkStep (nx := .skip) ?_ h2 (VRel.undef r)
        have hsz : (a.eval x).cells.size = (eval P rs x).cells.size := by have := hcl.length; simpa using this.symm
        simp only [execOp, ho, hcv, Instr.storeAt, Instr.sureAddr, storeVar, Sem.run_bind, Sem.run_pure, Result.andThen_ok, run_sizeT hc.2]
        rw [if_neg (by rw [hsz]; simp)]
        rw [h1]; rfl
    · cases h

end
end Go.Am
/-
  THE ABSTRACT MACHINE, 13: maps written, iterators.
-/
namespace Go.Am

theorem ERelL.get {r : Ren} {l l' : List MapEntry} (h : ERelL r l l') {i : Nat} {e : MapEntry} (he : l[i]? = some e) : ∃ e', l'[i]? = some e' ∧ ERel r e e' := by
  induction h generalizing i with
  | nil => simp at he
  | cons h _ ih =>
    cases i with
    | zero => simp at he; subst he; exact ⟨_, rfl, h⟩
    | succ i => simp at he; simpa using ih he

theorem ERelL.length {r : Ren} {l l' : List MapEntry} (h : ERelL r l l') : l.length = l'.length := by
  induction h with
  | nil => rfl
  | cons _ _ ih => simp [ih]

theorem ERelL.snoc {r : Ren} {l l' : List MapEntry} (h : ERelL r l l') {e e' : MapEntry} (he : ERel r e e') : ERelL r (l ++ [e]) (l' ++ [e']) := by
  induction h with
  | nil => exact .cons he .nil
  | cons h _ ih => exact .cons h ih

theorem ERelL.modify {r : Ren} {f f' : MapEntry → MapEntry} (hf : ∀ e e', ERel r e e' → ERel r (f e) (f' e')) {l l' : List MapEntry} (h : ERelL r l l') (i : Nat) : ERelL r (l.modify i f) (l'.modify i f') := by
  induction h generalizing i with
  | nil => cases i <;> exact .nil
  | cons h t ih =>
    cases i with
    | zero => exact .cons (hf _ _ h) t
    | succ i => simp only [List.modify_succ_cons]; exact .cons h (ih i)

theorem ERelL.eraseIdx {r : Ren} {l l' : List MapEntry} (h : ERelL r l l') (i : Nat) : ERelL r (l.eraseIdx i) (l'.eraseIdx i) := by
  induction h generalizing i with
  | nil => exact .nil
  | cons h t ih =>
    cases i with
    | zero => exact t
    | succ i => exact .cons h (ih i)

theorem ERelL.filter {r : Ren} {p : Nat → Bool} {l l' : List MapEntry} (h : ERelL r l l') : ERelL r (l.filter fun e => p e.born) (l'.filter fun e => p e.born) := by
  induction h with
  | nil => exact .nil
  | cons h _ ih =>
    simp only [List.filter_cons, h.born]
    split
    · exact .cons h ih
    · exact ih

theorem ERelL.all {r : Ren} {p : Nat → Bool} {l l' : List MapEntry} (h : ERelL r l l') : (l'.all fun e => p e.born) = l.all fun e => p e.born := by
  induction h with
  | nil => rfl
  | cons h _ ih => simp only [List.all_cons, h.born, ih]

theorem ERelL.find {r : Ren} {p : Nat → Bool} {l l' : List MapEntry} (h : ERelL r l l') {e : MapEntry} (he : (l.find? fun e => p e.born) = some e) : ∃ e', (l'.find? fun e => p e.born) = some e' ∧ ERel r e e' := by
  induction h with
  | nil => simp at he
  | cons h _ ih =>
    simp only [List.find?_cons, h.born] at he ⊢
    split at he
    · cases he; exact ⟨_, rfl, h⟩
    · exact ih he

section
variable {P : Program} {r : Ren} {m : Mem} {w : World} {rs : Rs} {a : Act} {o : Oper} {A : Prop} {res : OpR}

theorem Wrote.setObj (w : World) (b : Nat) (x : Obj) : Wrote w { w with heap := w.heap.setIfInBounds b x } b :=
  ⟨rfl, rfl, rfl, by simp, fun b' hb => by simp [Array.getElem?_setIfInBounds_ne (Ne.symm hb)]⟩

theorem run_setObj_map {b c : Nat} {es : Array MapEntry} (x : Obj) (h : w.heap[b]? = some (.map es c)) : (setObj b x).run P w = .ok () { w with heap := w.heap.setIfInBounds b x } := by
  simp [setObj, Sem.run, h]

theorem heap_setObj {b : Nat} {x y : Obj} (h : w.heap[b]? = some y) : (w.heap.setIfInBounds b x)[b]? = some x := by
  have := (Array.getElem?_eq_some_iff.1 h).1
  simp [this]

/-- A map written anew. -/
theorem map_write (hm : HRel P r m w) {id c c' : Nat} {e : Ent} {es out : List MapEntry} {es' out' : Array MapEntry} (hr : r id = some e) (hg : mapAt m.t id = some (es, c)) (hh : w.heap[e.b]? = some (.map es' c)) (ho : ERelL r out out'.toList) :
    HRel P r ⟨m.t.set id (some (.map out c')), m.n⟩ { w with heap := w.heap.setIfInBounds e.b (.map out' c') } ∧
    Evo r m w r ⟨m.t.set id (some (.map out c')), m.n⟩ { w with heap := w.heap.setIfInBounds e.b (.map out' c') } := by
  have hw := Wrote.setObj w e.b (.map out' c')
  exact hm.write hr (mapAt_get hg) rfl hw.os hw.tape hw.output hw.size hw.other ⟨out', heap_setObj hh, ho⟩

theorem keyStays {k old : Value} (hk : keySame k old = some true) : Instr.keyThatStays old k = Sem.pure k := by
  have : Instr.sameBits 10000 old k = true := by
    obtain ⟨D, hD⟩ : ∃ D, (10000 : Nat) = D + 1 := ⟨9999, rfl⟩
    rw [hD]
    cases k <;> cases old <;> simp [keySame] at hk
    · simp [Instr.sameBits, hk]
    · simp [Instr.sameBits, hk]
    · rename_i s s'
      have : s' = s := by apply ByteArray.ext; exact hk.symm
      subst this
      show ByteArray.beq s' s' = true
      unfold ByteArray.beq
      simp
  unfold Instr.keyThatStays
  rw [if_pos this]; rfl

variable (ev : ∀ x, VRel r (eval P rs x) (a.eval x))
include ev

theorem sim_mapUpdate (hm : HRel P r m w) {t : TypeId} {mp k x : Operand} (ho : o.op = .mapUpdate t mp k x ∨ o.op = .insert t mp k x) (h : mapUpdateR P m.t rs t mp k x = some res) : OpSim P r m w (execOp a.eval o) A res := by
  have hx := ev mp
  have hk := ev k
  have hv := ev x
  unfold mapUpdateR at h
  simp only at h
  generalize hcv : a.eval mp = vc at hx
  generalize hck : a.eval k = kc at hk
  generalize eval P rs mp = v at h hx
  generalize eval P rs k = kv at h hk
  cases hu : under P t with
  | none => simp [hu] at h
  | some d =>
    cases d <;> try (simp [hu] at h; done)
    rename_i kt el
    cases hx <;> try (simp [hu] at h; done)
    case map id e hr =>
      simp only [hu] at h
      split at h
      · rename_i hp
        have hkk : kc = kv := by
          rcases plainKey_spec hp with ⟨j, n, _, rfl⟩ | ⟨s, _, rfl⟩ | ⟨q, _, rfl⟩ <;> cases hk <;> rfl
        have hkr : VRel r kv kv := by
          rcases plainKey_spec hp with ⟨j, n, _, rfl⟩ | ⟨s, _, rfl⟩ | ⟨q, _, rfl⟩ <;> constructor
        cases hmap : mapAt m.t id with
        | none => simp [hmap] at h
        | some q =>
          obtain ⟨es, c⟩ := q
          simp only [hmap] at h
          obtain ⟨es', h1, h2⟩ := map_of hm hr hmap
          cases hf : findKey kv es 0 with
          | none => simp [hf] at h
          | some q =>
            obtain ⟨q', h3, h4⟩ := run_findKey (P := P) (w := w) hp h2 hf
            rcases h4 with ⟨rfl, rfl⟩ | ⟨j, v1, v2, e0, rfl, rfl, h5, h6, h7, h8⟩
            · simp only [hf] at h
              cases h
              have hw := map_write (c' := c + 1) hm hr hmap h1 (out := es ++ [{ key := kv, val := eval P rs x, born := c }]) (out' := es'.push { key := kv, val := a.eval x, born := c }) (by
                rw [Array.toList_push]; exact h2.snoc ⟨hkr, hv, rfl⟩)
              refine OpSim.mkStep (nx := .skip) ?_ hw (VRel.undef r)
              rcases ho with ho | ho <;>
              simp only [execOp, ho, hcv, hck, hkk, Instr.mapUpdate, Sem.run_bind, run_under hu, Result.andThen_ok, run_getObj_map h1, run_checkKey _ hp, h3, run_setObj_map _ h1, Sem.run_pure]
            · simp only [hf] at h
              cases h
              obtain ⟨e0', h9, h10⟩ := h2.get h6
              have hw := map_write (c' := c) hm hr hmap h1 (out := es.modify j fun e => { e with key := kv, val := eval P rs x }) (out' := es'.modify j fun e => { e with key := kv, val := a.eval x }) (by
                rw [Array.toList_modify]; exact h2.modify (f := fun e => { e with key := kv, val := eval P rs x }) (f' := fun e => { e with key := kv, val := a.eval x }) (fun _ _ he => ERel.mk hkr hv he.born) j)
              have hkey : ((es'[j]?).map (·.key)).getD kv = e0'.key := by
                have : es'[j]? = some e0' := by simpa using h9
                simp [this]
              have hst : Instr.keyThatStays (((es'[j]?).map (·.key)).getD kv) kv = Sem.pure kv := by
                rw [hkey]
                obtain ⟨_, e2⟩ := keySame_eq (r := r) h8 hkr h10.key
                rw [e2]
                exact keyStays h8
              refine OpSim.mkStep (nx := .skip) ?_ hw (VRel.undef r)
              rcases ho with ho | ho <;>
              simp only [execOp, ho, hcv, hck, hkk, Instr.mapUpdate, Sem.run_bind, run_under hu, Result.andThen_ok, run_getObj_map h1, run_checkKey _ hp, h3, hst, Sem.run_pure', run_setObj_map _ h1, Sem.run_pure]
      · cases h

omit ev in
theorem run_getObj_iter {b : Nat} {x : Obj} (hx : ∀ c t f, x ≠ .cells c t f) (h : w.heap[b]? = some x) : (getObj b).run P w = .ok x w := by
  cases x <;> first | (exact absurd rfl (hx _ _ _)) | simp [getObj, Sem.run, h]

omit ev in
theorem run_setObj_iter {b : Nat} {x y : Obj} (hx : ∀ c t f, x ≠ .cells c t f) (h : w.heap[b]? = some x) : (setObj b y).run P w = .ok () { w with heap := w.heap.setIfInBounds b y } := by
  cases x <;> first | (exact absurd rfl (hx _ _ _)) | simp [setObj, Sem.run, h]

theorem sim_entry (hm : HRel P r m w) {it : Operand} (ho : o.op = .entry it) (h : entryR P m.t rs it = some res) : OpSim P r m w (execOp a.eval o) A res := by
  have hx := ev it
  unfold entryR at h
  simp only at h
  generalize hcv : a.eval it = vc at hx
  generalize eval P rs it = v at h hx
  cases hx <;> try (cases h; done)
  case ptr id off e hr =>
    cases off with
    | succ off => cases h
    | zero =>
      simp only at h
      cases hg : m.t.get id with
      | none => simp [hg] at h
      | some ob =>
        cases ob <;> try (simp [hg] at h; done)
        rename_i mm since seen stepped
        cases mm with
        | none => simp [hg] at h
        | some mid =>
          simp only [hg] at h
          cases hs : seen.getLast? with
          | none => simp [hs] at h
          | some stamp =>
            cases hmap : mapAt m.t mid with
            | none => simp [hs, hmap] at h
            | some q =>
              obtain ⟨es, clock⟩ := q
              simp only [hs, hmap] at h
              split at h
              · rename_i hck
                obtain ⟨hd, m', h1, h2⟩ := hm.obj _ _ _ hr hg
                cases h2 with
                | map hr2 =>
                  rename_i e2
                  obtain ⟨es', h3, h4⟩ := map_of hm hr2 hmap
                  cases hfd : es.find? (fun e => e.born == stamp) with
                  | none => rw [hfd] at h; cases h
                  | some e0 =>
                    rw [hfd] at h; cases h
                    obtain ⟨e0', h5, h6⟩ := ERelL.find (p := fun b => b == stamp) h4 hfd
                    refine OpSim.mk (v' := .tuple #[e0'.key, e0'.val]) (.tuple (.cons h6.key (.cons h6.val .nil))) ?_
                    have hgi := run_getObj_iter (P := P) (w := w) (by intro _ _ _ hh; cases hh) h1
                    have hgm := run_getObj_map (P := P) (w := w) h3
                    have hsb : seen.toArray.back? = some stamp := by simpa using hs
                    have hfd' : es'.find? (fun e => e.born == stamp) = some e0' := by rw [← Array.find?_toList]; exact h5
                    simp only [execOp, ho, hcv, Instr.entry, hd, Nat.add_zero, Sem.run_bind, hgi, Result.andThen_ok, hsb, hgm, hck]
                    simp [hfd']
              · cases h

theorem sim_next (hm : HRel P r m w) {it : Operand} {isString : Bool} (ho : o.op = .next it isString) (h : nextR P m.t rs it isString = some res) : OpSim P r m w (execOp a.eval o) A res := by
  have hx := ev it
  unfold nextR at h
  simp only at h
  generalize hcv : a.eval it = vc at hx
  generalize eval P rs it = v at h hx
  cases hx <;> try (cases h; done)
  case ptr id off e hr =>
    cases off with
    | succ off => cases h
    | zero =>
      simp only at h
      cases hg : m.t.get id with
      | none => simp [hg] at h
      | some ob =>
        cases ob <;> try (simp [hg] at h; done)
        case siter s pos =>
          cases isString with
          | false => simp [hg] at h
          | true =>
            simp only [hg] at h
            obtain ⟨h1, hd⟩ := hm.obj _ _ _ hr hg
            have hgi := run_getObj_iter (P := P) (w := w) (by intro _ _ _ hh; cases hh) h1
            split at h
            · rename_i hlt
              cases h
              have hw := Wrote.setObj w e.b (.stringIter s (pos + (Utf8.decode s pos).2))
              have hh := hm.write hr hg rfl hw.os hw.tape hw.output hw.size hw.other (x := .siter s (pos + (Utf8.decode s pos).2)) ⟨heap_setObj h1, hd⟩
              refine OpSim.mkStep (nx := .value (.tuple #[.bool true, .int .i64 pos, .int .i32 (Utf8.decode s pos).1])) ?_ hh (VRel.tuple (.cons (.bool _) (.cons (.int _ _) (.cons (.int _ _) .nil))))
              simp only [execOp, ho, hcv, Instr.next, hd, Nat.add_zero, Sem.run_bind, hgi, Result.andThen_ok, if_pos hlt, run_setObj_iter (P := P) (w := w) (y := .stringIter s (pos + (Utf8.decode s pos).2)) (by intro _ _ _ hh; cases hh) h1, Sem.run_pure]
              rfl
            · rename_i hlt
              cases h
              refine OpSim.mk (.tuple (.cons (.bool _) .nil)) ?_
              simp only [execOp, ho, hcv, Instr.next, hd, Nat.add_zero, Sem.run_bind, hgi, Result.andThen_ok, if_neg hlt, Sem.run_pure]
        case miter mm since seen stepped =>
          cases isString with
          | true => cases mm <;> simp [hg] at h
          | false =>
            obtain ⟨hd, m', h1, h2⟩ := hm.obj _ _ _ hr hg
            have hgi := run_getObj_iter (P := P) (w := w) (by intro _ _ _ hh; cases hh) h1
            cases mm with
            | none =>
              simp only [hg] at h
              cases h
              cases h2
              refine OpSim.mk (.tuple (.cons (.bool _) .nil)) ?_
              simp only [execOp, ho, hcv, Instr.next, hd, Nat.add_zero, Sem.run_bind, hgi, Result.andThen_ok, Sem.run_pure]
            | some mid =>
              simp only [hg] at h
              cases h2 with
              | map hr2 =>
                rename_i e2
                cases hmap : mapAt m.t mid with
                | none => simp [hmap] at h
                | some q =>
                  obtain ⟨es, clock⟩ := q
                  simp only [hmap] at h
                  split at h
                  · cases h
                  · rename_i hcl
                    have hcl : clock = since := by simpa using hcl
                    obtain ⟨es', h3, h4⟩ := map_of hm hr2 hmap
                    have hgm := run_getObj_map (P := P) (w := w) h3
                    split at h
                    · cases h
                    · rename_i hsup
                      have hsup' : (!seen.toArray.isEmpty && !es'.isEmpty && es'.all fun e => decide (e.born ≥ stepped)) = false := by
                        have e1 : es'.isEmpty = es.isEmpty := by
                          have := h4.length
                          cases es' with | mk l => cases l <;> cases es <;> simp at this ⊢
                        have e2 : (es'.all fun e => decide (e.born ≥ stepped)) = es.all fun e => decide (e.born ≥ stepped) := by
                          rw [← Array.all_toList]; exact h4.all (p := fun b => decide (b ≥ stepped))
                        have e3 : seen.toArray.isEmpty = seen.isEmpty := by cases seen <;> rfl
                        rw [e1, e2, e3]
                        simpa using hsup
                      have hleft := ERelL.filter (p := fun b => !seen.contains b) h4
                      have hla : (es'.filter fun e => !seen.toArray.contains e.born).toList = es'.toList.filter fun e => !seen.contains e.born := by
                        rw [Array.toList_filter]
                        congr 1; funext e; simp
                      have hchoose : ∀ n, n ≤ 1 → (choose (.mapNext n)).run P w = .ok 0 w := by
                        intro n hn
                        simp [Question.forced, hn]
                      split at h
                      · rename_i hfl
                        cases h
                        rw [hfl] at hleft
                        have hnil : (es'.filter fun e => !seen.toArray.contains e.born) = #[] := by
                          apply Array.ext'; rw [hla]; exact List.eq_nil_of_length_eq_zero (by rw [← hleft.length]; rfl)
                        refine OpSim.mk (.tuple (.cons (.bool _) .nil)) ?_
                        simp only [execOp, ho, hcv, Instr.next, hd, Nat.add_zero, Sem.run_bind, hgi, hgm, Result.andThen_ok, hsup', Bool.false_eq_true, if_false, hnil]
                        simp [hchoose]
                      · rename_i e0 hfl
                        split at h
                        · rename_i hb
                          cases h
                          rw [hfl] at hleft
                          obtain ⟨e0', hone, hrel⟩ : ∃ e0', (es'.filter fun e => !seen.toArray.contains e.born) = #[e0'] ∧ ERel r e0 e0' := by
                            cases hq : es'.toList.filter (fun e => !seen.contains e.born) with
                            | nil => rw [hq] at hleft; cases hleft
                            | cons x l =>
                              rw [hq] at hleft
                              cases hleft with
                              | cons hx ht => cases ht; exact ⟨x, by apply Array.ext'; rw [hla, hq], hx⟩
                          have hb' : e0'.born < since := by rw [hrel.born]; exact hb
                          have hnb : ¬ (e0'.born ≥ since) := by omega
                          have hw := Wrote.setObj w e.b (.mapIter (some e2.b) since (seen.toArray.push e0'.born) clock)
                          have hh := hm.write hr hg rfl hw.os hw.tape hw.output hw.size hw.other (x := .miter (some mid) since (seen ++ [e0.born]) clock) ⟨hd, some e2.b, by rw [heap_setObj h1, hrel.born]; simp, .map hr2⟩
                          refine OpSim.mkStep (nx := .value (.tuple #[.bool true, e0'.key, e0'.val])) ?_ hh (VRel.tuple (.cons (.bool _) (.cons hrel.key (.cons hrel.val .nil))))
                          simp only [execOp, ho, hcv, Instr.next, hd, Nat.add_zero, Sem.run_bind, hgi, hgm, Result.andThen_ok, hsup', Bool.false_eq_true, if_false, hone]
                          simp [hb', hnb, hchoose, run_setObj_iter (P := P) (w := w) (y := .mapIter (some e2.b) since (seen ++ [e0'.born]).toArray clock) (by intro _ _ _ hh; cases hh) h1]
                        · cases h
                      · cases h

end
end Go.Am
/-
  THE ABSTRACT MACHINE, 14: the language's own functions but append.
-/
namespace Go.Am

section
variable {P : Program} {r : Ren} {m : Mem} {w : World} {rs : Rs} {a : Act} {o : Oper} {A : Prop} {res : OpR}

theorem exec_builtin {c : Call} {b : Builtin} (ho : o.op = .call c) (hc : c.callee = .builtin b) :
    ∃ consts, execOp a.eval o = builtin b c.argTypes o.type consts ⟨c.args.toList.map a.eval⟩ := by
  refine ⟨c.args.map fun | .const _ => true | _ => false, ?_⟩
  simp only [execOp, ho, resolve, hc]
  have : c.args.map a.eval = ⟨c.args.toList.map a.eval⟩ := by apply Array.ext'; simp
  rw [this]
  rfl

theorem arg0 {l l' : List Value} (h : VRelL r l l') {v : Value} (hv : (l[0]? : Option Value) = some v) : ∃ v', ((⟨l'⟩ : Array Value)[0]? : Option Value) = some v' ∧ VRel r v v' := by
  obtain ⟨v', h1, h2⟩ := h.get hv
  exact ⟨v', by simpa using h1, h2⟩

theorem arg1 {l l' : List Value} (h : VRelL r l l') {v : Value} (hv : (l[1]? : Option Value) = some v) : ∃ v', ((⟨l'⟩ : Array Value)[1]? : Option Value) = some v' ∧ VRel r v v' := by
  obtain ⟨v', h1, h2⟩ := h.get hv
  exact ⟨v', by simpa using h1, h2⟩

/-- One of the language's functions that answers a value. -/
def BSim (P : Program) (r : Ren) (m : Mem) (w : World) (s : Sem Value) (A : Prop) : OpR → Prop := OpSim P r m w (do pure (.value (← s))) A

theorem BSim.val {s : Sem Value} {v v' : Value} (hv : VRel r v v') (h : s.run P w = .ok v' w) : BSim P r m w s A (.val v) :=
  OpSim.mk hv (by simp only [Sem.run_bind, h, Result.andThen_ok, Sem.run_pure])

theorem BSim.step {s : Sem Value} {t : Tr} {v v' : Value} {w' : World} (h : s.run P w = .ok v' w') (hh : HRel P r ⟨t, m.n⟩ w' ∧ Evo r m w r ⟨t, m.n⟩ w') (hv : VRel r v v') : BSim P r m w s A (.step v t) :=
  OpSim.mkStep (nx := .value v') (by simp only [Sem.run_bind, h, Result.andThen_ok, Sem.run_pure]) hh hv

theorem under_of_arg {ts : Array TypeId} {d : TypeDesc} (h : (ts[0]?).bind (under P) = some d) : ∃ t, ts[0]? = some t ∧ under P t = some d := by
  cases ht : ts[0]? with
  | none => simp [ht] at h
  | some t => rw [ht] at h; exact ⟨t, rfl, h⟩

theorem sim_len (hm : HRel P r m w) {ts : Array TypeId} {ty : TypeId} {l l' : List Value} (hl : VRelL r l l') (h : builtinR P m.t .len ts ty l = some res) : BSim P r m w (Builtin.len_ ts ty ⟨l'⟩) A res := by
  simp only [builtinR] at h
  cases hu : (ts[0]?).bind (under P) with
  | none => simp [hu] at h
  | some d =>
    obtain ⟨t, ht, hut⟩ := under_of_arg hu
    cases hx : (l[0]? : Option Value) with
    | none => rw [hu, hx] at h; cases d <;> cases h
    | some v =>
      obtain ⟨v', h1, h2⟩ := arg0 hl hx
      rw [hu, hx] at h
      cases d <;> try (cases h; done)
      case string =>
        cases h2 <;> try (cases h; done)
        cases h
        exact BSim.val (.int _ _) (by simp only [Builtin.len_, ht, h1, Sem.run_bind, run_under hut, Result.andThen_ok]; rfl)
      case slice el =>
        cases h2 <;> try (cases h; done)
        all_goals cases h; exact BSim.val (.int _ _) (by simp only [Builtin.len_, ht, h1, Sem.run_bind, run_under hut, Result.andThen_ok]; rfl)
      case map k el =>
        cases h2 <;> try (cases h; done)
        case mnil => cases h; exact BSim.val (.int _ _) (by simp only [Builtin.len_, ht, h1, Sem.run_bind, run_under hut, Result.andThen_ok]; rfl)
        case map id e hr =>
          replace h : (mapAt m.t id).map (fun q => OpR.val (.int .i64 q.1.length)) = some res := h
          cases hmap : mapAt m.t id with
          | none => simp [hmap] at h
          | some q =>
            obtain ⟨es, c⟩ := q
            simp [hmap] at h; subst h
            obtain ⟨es', h3, h4⟩ := map_of hm hr hmap
            have hle := h4.length
            simp only [Array.length_toList] at hle
            refine BSim.val (.int _ _) ?_
            simp only [Builtin.len_, ht, h1, Sem.run_bind, run_under hut, Result.andThen_ok, run_getObj_map h3, Sem.run_pure, goInt, hle]

theorem sim_cap {ts : Array TypeId} {ty : TypeId} {l l' : List Value} (hl : VRelL r l l') (h : builtinR P m.t .cap ts ty l = some res) : BSim P r m w (Builtin.cap_ ts ty ⟨l'⟩) A res := by
  simp only [builtinR] at h
  cases hu : (ts[0]?).bind (under P) with
  | none => simp [hu] at h
  | some d =>
    obtain ⟨t, ht, hut⟩ := under_of_arg hu
    cases hx : (l[0]? : Option Value) with
    | none => rw [hu, hx] at h; cases d <;> cases h
    | some v =>
      obtain ⟨v', h1, h2⟩ := arg0 hl hx
      rw [hu, hx] at h
      cases d <;> try (cases h; done)
      case slice el =>
        cases h2 <;> try (cases h; done)
        case snil => cases h; exact BSim.val (.int _ _) (by simp only [Builtin.cap_, ht, h1, Sem.run_bind, run_under hut, Result.andThen_ok]; rfl)
        case slice id off off' len cap cap' sp e hr hoff hc hle hsx hrm hb47 ha =>
          replace h : (if sp = some 1 then some (OpR.val (.int .i64 cap)) else none) = some res := h
          split at h <;> cases h
          rename_i hsp
          have := hsx hsp
          subst this
          exact BSim.val (.int _ _) (by simp only [Builtin.cap_, ht, h1, Sem.run_bind, run_under hut, Result.andThen_ok]; rfl)

theorem run_minL {k : IntKind} : ∀ {l l' : List Value} {x : Int} {v : Value}, VRelL r l l' → minL true k x l = some v → (l'.foldlM Builtin.min2 (.int k x)).run P w = .ok v w ∧ VRel r v v
  | [], _, x, v, .nil, h => by cases h; exact ⟨rfl, .int _ _⟩
  | u :: l, _, x, v, .cons hu ht, h => by
    cases hu <;> try (cases h; done)
    rename_i j y
    simp only [minL] at h
    split at h
    · rename_i hk
      subst hk
      simp only [if_true] at h
      obtain ⟨h1, h2⟩ := run_minL ht h
      exact ⟨by simp only [List.foldlM_cons, Builtin.min2, Sem.run_bind, Sem.run_pure, Result.andThen_ok, h1], h2⟩
    · cases h

theorem run_maxL {k : IntKind} : ∀ {l l' : List Value} {x : Int} {v : Value}, VRelL r l l' → minL false k x l = some v → (l'.foldlM Builtin.max2 (.int k x)).run P w = .ok v w ∧ VRel r v v
  | [], _, x, v, .nil, h => by cases h; exact ⟨rfl, .int _ _⟩
  | u :: l, _, x, v, .cons hu ht, h => by
    cases hu <;> try (cases h; done)
    rename_i j y
    simp only [minL] at h
    split at h
    · rename_i hk
      subst hk
      simp only [Bool.false_eq_true, if_false] at h
      obtain ⟨h1, h2⟩ := run_maxL ht h
      exact ⟨by simp only [List.foldlM_cons, Builtin.max2, Sem.run_bind, Sem.run_pure, Result.andThen_ok]; exact h1, h2⟩
    · cases h

theorem sim_min {ts : Array TypeId} {ty : TypeId} {l l' : List Value} (hl : VRelL r l l') (h : builtinR P m.t .min ts ty l = some res) : BSim P r m w (Builtin.min_ ts ty ⟨l'⟩) A res := by
  simp only [builtinR] at h
  cases hv : minR true l with
  | none => simp [hv] at h
  | some v =>
    simp [hv] at h; subst h
    cases hl with
    | nil => cases hv
    | cons hx ht =>
      cases hx <;> try (cases hv; done)
      obtain ⟨h1, h2⟩ := run_minL (P := P) (w := w) ht hv
      exact BSim.val h2 (by simpa [Builtin.min_] using h1)

theorem sim_max {ts : Array TypeId} {ty : TypeId} {l l' : List Value} (hl : VRelL r l l') (h : builtinR P m.t .max ts ty l = some res) : BSim P r m w (Builtin.max_ ts ty ⟨l'⟩) A res := by
  simp only [builtinR] at h
  cases hv : minR false l with
  | none => simp [hv] at h
  | some v =>
    simp [hv] at h; subst h
    cases hl with
    | nil => cases hv
    | cons hx ht =>
      cases hx <;> try (cases hv; done)
      obtain ⟨h1, h2⟩ := run_maxL (P := P) (w := w) ht hv
      exact BSim.val h2 (by simpa [Builtin.max_] using h1)

theorem sim_delete (hm : HRel P r m w) {ts : Array TypeId} {ty : TypeId} {l l' : List Value} (hl : VRelL r l l') (h : builtinR P m.t .delete ts ty l = some res) : BSim P r m w (Builtin.delete_ ts ty ⟨l'⟩) A res := by
  simp only [builtinR] at h
  cases hu : (ts[0]?).bind (under P) with
  | none => simp [hu] at h
  | some d =>
    obtain ⟨t, ht, hut⟩ := under_of_arg hu
    cases hx : (l[0]? : Option Value) with
    | none => rw [hu, hx] at h; cases d <;> cases h
    | some v =>
      obtain ⟨v', h1, h2⟩ := arg0 hl hx
      cases hy : (l[1]? : Option Value) with
      | none => rw [hu, hx, hy] at h; cases d <;> cases h
      | some kv =>
        obtain ⟨kc, h3, h4⟩ := arg1 hl hy
        rw [hu, hx, hy] at h
        cases d <;> try (cases h; done)
        rename_i kt el
        simp only at h
        split at h
        · rename_i hp
          have hkk : kc = kv := by
            rcases plainKey_spec hp with ⟨j, n, _, rfl⟩ | ⟨s, _, rfl⟩ | ⟨q, _, rfl⟩ <;> cases h4 <;> rfl
          subst hkk
          cases h2 <;> try (cases h; done)
          case mnil =>
            cases h
            exact BSim.val (.tuple .nil) (by simp [Builtin.delete_, ht, h1, h3, run_under hut, run_checkKey _ hp])
          case map id e hr =>
            simp only at h
            cases hmap : mapAt m.t id with
            | none => simp [hmap] at h
            | some q =>
              obtain ⟨es, c⟩ := q
              simp only [hmap] at h
              obtain ⟨es', h5, h6⟩ := map_of hm hr hmap
              cases hf : findKey kc es 0 with
              | none => simp [hf] at h
              | some q =>
                obtain ⟨q', h7, h8⟩ := run_findKey (P := P) (w := w) hp h6 hf
                rcases h8 with ⟨rfl, rfl⟩ | ⟨j, v1, v2, e0, rfl, rfl, _, h10, _⟩
                · simp only [hf] at h
                  cases h
                  have hw := map_write (c' := c) hm hr hmap h5 (out := es) (out' := es') h6
                  refine BSim.step (v' := .tuple #[]) ?_ hw (.tuple .nil)
                  simp [Builtin.delete_, ht, h1, h3, run_under hut, run_checkKey _ hp, run_getObj_map h5, h7, run_setObj_map _ h5]
                · simp only [hf] at h
                  cases h
                  have hj : j < es'.size := by
                    have := (List.getElem?_eq_some_iff.1 h10).1
                    have := h6.length
                    simp at this; omega
                  have hw := map_write (c' := c) hm hr hmap h5 (out := es.eraseIdx j) (out' := es'.eraseIdxIfInBounds j) (by
                    rw [Array.toList_eraseIdxIfInBounds]; exact h6.eraseIdx j)
                  refine BSim.step (v' := .tuple #[]) ?_ hw (.tuple .nil)
                  simp [Builtin.delete_, ht, h1, h3, run_under hut, run_checkKey _ hp, run_getObj_map h5, h7, run_setObj_map _ h5]
        · cases h

/-- What is read at the head of a slice, or of a string. -/
theorem head_cells (hm : HRel P r m w) {size k : Nat} {x x' : Value} {new : List Value} (hx : VRel r x x') (hk : ∀ n, lenOfV x = some n → k ≤ n) (h : headCells m.t size k x = some new) :
    ∃ new', (Builtin.firstCells size k x').run P w = .ok ⟨new'⟩ w ∧ VRelL r new new' := by
  unfold headCells at h
  cases hx <;> try (cases h; done)
  case snil =>
    simp only at h
    split at h <;> cases h
    exact ⟨[], rfl, .nil⟩
  case string s =>
    cases h
    refine ⟨cellsOfBytes (s.data.toList.take k), ?_, ?_⟩
    · simp only [Builtin.firstCells, Sem.run_pure, bytes_extract]
      congr 1
      apply Array.ext'
      simp [cellsOfBytes]
    · exact VRelL.map _ _ (fun _ => .int _ _) _
  case slice id off off' len cap cap' sp e hr hoff hc hle hsx hrm hb47 ha =>
    simp only at h
    obtain ⟨l', h1, h2, h3⟩ := cells_of hm hr h
    refine ⟨l', ?_, h2⟩
    simp only [Builtin.firstCells]
    have hkl : k ≤ len := hk len rfl
    rcases Nat.eq_zero_or_pos cap with hz | hz
    · have : k = 0 := by omega
      subst this
      have : l' = [] := List.eq_nil_of_length_eq_zero (by rw [h1]; simp)
      subst this
      rw [Nat.zero_mul]; rfl
    · rw [hoff hz, ← h1]
      exact run_loadCells (P := P) h3

theorem lenOf_rel {x x' : Value} {n : Nat} (hx : VRel r x x') (h : lenOfV x = some n) : Builtin.lenOf x' = Sem.pure n := by
  unfold lenOfV at h
  cases hx <;> first | (cases h; done) | (cases h; rfl)

theorem sim_copy (hm : HRel P r m w) {ts : Array TypeId} {ty : TypeId} {l l' : List Value} (hl : VRelL r l l') (h : builtinR P m.t .copy ts ty l = some res) : BSim P r m w (Builtin.copy_ ts ty ⟨l'⟩) A res := by
  simp only [builtinR] at h
  cases hu : (ts[0]?).bind (under P) with
  | none => simp [hu] at h
  | some d =>
    obtain ⟨t, ht, hut⟩ := under_of_arg hu
    cases hx : (l[0]? : Option Value) with
    | none => rw [hu, hx] at h; cases d <;> cases h
    | some v =>
      obtain ⟨v', h1, h2⟩ := arg0 hl hx
      cases hy : (l[1]? : Option Value) with
      | none => rw [hu, hx, hy] at h; cases d <;> cases v <;> cases h
      | some x =>
        obtain ⟨x', h3, h4⟩ := arg1 hl hy
        rw [hu, hx, hy] at h
        cases d <;> try (cases h; done)
        rename_i el
        have hmin : ∀ k dLen n, lenOfV x = some k → n = Nat.min k dLen → ∀ q, lenOfV x = some q → n ≤ q := by
          intro k dLen n hk hn q hq
          rw [hk] at hq; cases hq
          rw [hn]; exact Nat.min_le_left _ _
        cases h2 <;> try (cases h; done)
        case snil =>
          simp only at h
          cases hs : sizeT P el with
          | none => simp [hs] at h
          | some s =>
            cases hk : lenOfV x with
            | none => simp [hs, hk] at h
            | some k =>
              simp only [hs, hk] at h
              cases hh : headCells m.t s (Nat.min k 0) x with
              | none => rw [hh] at h; cases h
              | some cs =>
                rw [hh] at h; cases h
                obtain ⟨new', h5, h6⟩ := head_cells (P := P) hm h4 (hmin k 0 _ hk rfl) hh
                refine BSim.val (.int _ _) ?_
                simp only [Builtin.copy_, ht, h1, h3, Sem.run_bind, run_under hut, Result.andThen_ok, lenOf_rel h4 hk, Sem.run_pure', run_sizeT hs, h5]
                rfl
        case slice id off off' len cap cap' sp e hr hoff hc hle hsx hrm hb47 ha =>
          simp only at h
          cases hs : sizeT P el with
          | none => simp [hs] at h
          | some s =>
            cases hk : lenOfV x with
            | none => simp [hs, hk] at h
            | some k =>
              simp only [hs, hk] at h
              cases hh : headCells m.t s (Nat.min k len) x with
              | none => rw [hh] at h; cases h
              | some cs =>
                rw [hh] at h
                simp only at h
                cases hst : storeAt m.t id off cs with
                | none => simp [hst] at h
                | some t' =>
                  simp [hst] at h; subst h
                  obtain ⟨new', h5, h6⟩ := head_cells (P := P) hm h4 (hmin k len _ hk rfl) hh
                  obtain ⟨w', h7, h8⟩ := store_row (P := P) hm hr hst h6 (off' := off') (fun hne => by
                    rcases Nat.eq_zero_or_pos cap with hz | hz
                    · exfalso
                      have hl0 : len = 0 := by omega
                      subst hl0
                      have hcs : cs = [] := by
                        unfold headCells at hh
                        cases x <;> simp at hh
                        · rw [← hh]; rfl
                        · rename_i ao ln cp
                          cases ao with
                          | none => simp at hh; exact hh
                          | some ad => simp at hh; exact List.eq_nil_of_length_eq_zero (cellsAt_length hh)
                      exact hne hcs
                    · exact hoff hz)
                  refine BSim.step (v' := .int .i64 (Nat.min k len)) ?_ h8 (.int _ _)
                  simp only [Builtin.copy_, ht, h1, h3, Sem.run_bind, run_under hut, Result.andThen_ok, lenOf_rel h4 hk, Sem.run_pure', run_sizeT hs, h5, h7]
                  rfl

theorem sim_clear (hP : PGood P) (hm : HRel P r m w) {ts : Array TypeId} {ty : TypeId} {l l' : List Value} (hl : VRelL r l l') (h : builtinR P m.t .clear ts ty l = some res) : BSim P r m w (Builtin.clear_ ts ty ⟨l'⟩) A res := by
  simp only [builtinR] at h
  cases hu : (ts[0]?).bind (under P) with
  | none => simp [hu] at h
  | some d =>
    obtain ⟨t, ht, hut⟩ := under_of_arg hu
    cases hx : (l[0]? : Option Value) with
    | none => rw [hu, hx] at h; cases d <;> cases h
    | some v =>
      obtain ⟨v', h1, h2⟩ := arg0 hl hx
      rw [hu, hx] at h
      cases d <;> try (cases h; done)
      rename_i el
      cases h2 <;> try (cases h; done)
      case snil =>
        cases h
        exact BSim.val (.tuple .nil) (by simp [Builtin.clear_, ht, h1, run_under hut])
      case slice id off off' len cap cap' sp e hr hoff hc hle hsx hrm hb47 ha =>
        simp only at h
        split at h
        · rename_i h0
          cases h
          subst h0
          exact BSim.val (.tuple .nil) (by simp [Builtin.clear_, ht, h1, run_under hut])
        · rename_i hn0
          cases hz : zeroT P el with
          | none => simp [hz] at h
          | some z =>
            simp only [hz] at h
            cases hst : storeAt m.t id off (repCells z.cells.toList len) with
            | none => simp [hst] at h
            | some t' =>
              simp [hst] at h; subst h
              obtain ⟨w', h7, h8⟩ := store_row (P := P) hm hr hst (rep_rel (zero_cells hP hz) len) (off' := off') (fun _ => hoff (by omega))
              obtain ⟨q, rfl⟩ : ∃ q, len = q + 1 := ⟨len - 1, by omega⟩
              refine BSim.step (v' := .tuple #[]) ?_ h8 (.tuple .nil)
              have hzc : (Builtin.zeroCells z.cells (q + 1)).toList = repCells z.cells.toList (q + 1) := by
                rw [← rep_array]; rfl
              simp only [Builtin.clear_, ht, h1, Sem.run_bind, run_under hut, Result.andThen_ok, run_zeroT hz, hzc, h7, Sem.run_pure]

end
end Go.Am
