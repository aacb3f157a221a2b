import Derived.Test.YthnjfgjbgblciaaGreatDoorAm6
/-
  THE ABSTRACT MACHINE, 7: parts of values, slices, conversions, look-ups.
-/
namespace Go.Am

section
variable {P : Program} {r : Ren} {m : Mem} {w : World} {rs : Rs} {a : Act} {o : Oper} {A : Prop} {res : OpR}

theorem run_part_agg {t : TypeId} {s off : Nat} (hg : aggT P t = some true) (hs : sizeT P t = some s) (cs : Array Value) :
    (part t cs off).run P w = .ok (.agg (cs.extract off (off + s))) w := by
  simp only [part, Sem.run_bind, run_aggT hg, Result.andThen_ok, if_true, run_sizeT hs, Sem.run_pure]

theorem run_part_one {t : TypeId} {off : Nat} {v : Value} (hg : aggT P t = some false) (cs : Array Value) (hv : cs[off]? = some v) :
    (part t cs off).run P w = .ok v w := by
  simp only [part, Sem.run_bind, run_aggT hg, Result.andThen_ok, Bool.false_eq_true, if_false, hv, Sem.run_pure]

theorem extract_toList (cs : Array Value) (off s : Nat) : (cs.extract off (off + s)).toList = (cs.toList.drop off).take s := by
  rw [Array.toList_extract]
  simp [List.extract_eq_take_drop]

theorem VRelL.extract {l : List Value} {cs : Array Value} (h : VRelL r l cs.toList) (off s : Nat) : VRelL r ((l.drop off).take s) (cs.extract off (off + s)).toList := by
  rw [extract_toList]; exact (h.drop off).take s

theorem VRelL.aget {l cs : Array Value} (h : VRelL r l.toList cs.toList) {i : Nat} {v : Value} (hv : l[i]? = some v) : ∃ v', cs[i]? = some v' ∧ VRel r v v' := by
  obtain ⟨v', h1, h2⟩ := h.get (i := i) (v := v) (by simpa using hv)
  exact ⟨v', by simpa using h1, h2⟩

variable (ev : ∀ x, VRel r (eval P rs x) (a.eval x))
include ev

theorem sim_field {t : TypeId} {x : Operand} {f : Nat} (ho : o.op = .field t x f) (h : fieldR P rs t x f = some res) : OpSim P r m w (execOp a.eval o) A res := by
  have hx := ev x
  unfold fieldR at h
  simp only at h
  generalize hcv : a.eval x = vc at hx
  generalize eval P rs x = v at h hx
  cases hu : under P t with
  | none => simp [hu] at h
  | some d =>
    cases d <;> try (simp [hu] at h; done)
    rename_i fields
    cases hx <;> try (simp [hu] at h; done)
    case agg cs cs' hl =>
      simp only [hu] at h
      cases hf : fields[f]? with
      | none => simp [hf] at h
      | some fl =>
        simp only [hf] at h
        have run0 : ∀ q : Value, (part fl.type cs' fl.offset).run P w = .ok q w → (execOp a.eval o).run P w = .ok (.value q) w := fun q hq => by
          simp only [execOp, ho, hcv, Instr.field, asAgg, Sem.run_bind, Sem.run_pure, Result.andThen_ok, run_under hu, hf, hq]
        cases hg : aggT P fl.type with
        | none => simp [hg] at h
        | some b =>
          cases b with
          | true =>
            cases hs : sizeT P fl.type with
            | none => simp [hg, hs] at h
            | some s =>
              simp only [hg, hs] at h
              cases h
              exact OpSim.mk (v' := .agg (cs'.extract fl.offset (fl.offset + s))) (.agg (hl.extract _ _)) (run0 _ (run_part_agg hg hs _))
          | false =>
            simp only [hg] at h
            cases hv : cs[fl.offset]? with
            | none => simp [hv] at h
            | some q =>
              simp [hv] at h; subst h
              obtain ⟨q', h1, h2⟩ := hl.aget hv
              exact OpSim.mk h2 (run0 _ (run_part_one hg _ h1))

theorem sim_index {t : TypeId} {x ix : Operand} (ho : o.op = .index t x ix) (h : indexR P rs t x ix = some res) : OpSim P r m w (execOp a.eval o) A res := by
  have hx := ev x
  have hi := ev ix
  unfold indexR at h
  simp only at h
  generalize hcv : a.eval x = vc at hx
  generalize hci : a.eval ix = ic at hi
  generalize eval P rs x = v at h hx
  generalize eval P rs ix = iv at h hi
  cases hu : under P t with
  | none => simp [hu] at h
  | some d =>
    cases d <;> try (simp [hu] at h; done)
    case string =>
      cases hx <;> try (simp [hu] at h; done)
      case string s =>
        cases hi <;> try (simp [hu] at h; done)
        rename_i k n
        simp only [hu] at h
        split at h
        · rename_i hn
          cases hb : s.data.toList[n.toNat]? with
          | none => simp only [hb] at h; cases h
          | some b =>
            simp only [hb] at h; cases h
            refine OpSim.mk (.int _ _) ?_
            have hlt : n.toNat < s.data.toList.length := (List.getElem?_eq_some_iff.1 hb).1
            have hb' : s[n.toNat]? = some b := by
              have h1 : n.toNat < s.size := by simpa using hlt
              rw [getElem?_pos s n.toNat h1]
              have := (List.getElem?_eq_some_iff.1 hb).2
              rw [← this]; rfl
            simp only [execOp, ho, hcv, hci, Instr.index, asIntOf, Sem.run_bind, Sem.run_pure, Result.andThen_ok, run_under hu, if_pos hn, hb']
        · cases h
    case array len el =>
      cases hx <;> try (simp [hu] at h; done)
      case agg cs cs' hl =>
        cases hi <;> try (simp [hu] at h; done)
        rename_i k n
        simp only [hu] at h
        split at h
        · rename_i hb
          cases hs : sizeT P el with
          | none => cases hg : aggT P el <;> simp [hg, hs] at h
          | some s =>
            have run0 : ∀ q : Value, (part el cs' (n.toNat * s)).run P w = .ok q w → (execOp a.eval o).run P w = .ok (.value q) w := fun q hq => by
              simp only [execOp, ho, hcv, hci, Instr.index, asIntOf, Sem.run_bind, Sem.run_pure, Result.andThen_ok, run_under hu, if_pos hb, run_sizeT hs, hq]
            cases hg : aggT P el with
            | none => simp [hg] at h
            | some b =>
              cases b with
              | true =>
                simp only [hg, hs] at h; cases h
                exact OpSim.mk (v' := .agg (cs'.extract (n.toNat * s) (n.toNat * s + s))) (.agg (hl.extract _ _)) (run0 _ (run_part_agg hg hs _))
              | false =>
                simp only [hg, hs] at h
                cases hv : cs[n.toNat * s]? with
                | none => simp only [hv] at h; cases h
                | some q =>
                  simp only [hv] at h; cases h
                  obtain ⟨q', h1, h2⟩ := hl.aget hv
                  exact OpSim.mk h2 (run0 _ (run_part_one hg _ h1))
        · cases h
end

/-! building -/

theorem splice_length {cs vs : List Value} {off : Nat} (h : off + vs.length ≤ cs.length) : (splice cs off vs).length = cs.length := by
  simp [splice]; omega

theorem VRelL.splice {r : Ren} {cs cs' vs vs' : List Value} (h : VRelL r cs cs') (k : VRelL r vs vs') (off : Nat) : VRelL r (Am.splice cs off vs) (Am.splice cs' off vs') := by
  unfold Am.splice
  rw [k.length]
  exact ((h.take off).append k).append (h.drop _)

theorem foldl_set (off : Nat) : ∀ (l : List Value) (k : Nat) (cs : Array Value), off + k + l.length ≤ cs.size →
    ((l.zipIdx k).foldl (fun cs (c, j) => cs.setIfInBounds (off + j) c) cs).toList = splice cs.toList (off + k) l
  | [], k, cs, _ => by simp [splice]
  | v :: l, k, cs, h => by
    simp only [List.zipIdx_cons, List.foldl_cons, List.length_cons] at h ⊢
    rw [foldl_set off l (k + 1) _ (by simp; omega)]
    simp only [splice, Array.toList_setIfInBounds, List.length_cons]
    have hlen : cs.toList.length = cs.size := by simp
    apply List.ext_getElem?
    intro i
    by_cases h1 : i < off + k
    · rw [List.append_assoc, List.append_assoc, List.getElem?_append_left (by simp; omega), List.getElem?_append_left (by simp; omega),
        List.getElem?_take_of_lt (by omega), List.getElem?_take_of_lt (by omega), List.getElem?_set_ne (by omega)]
    · by_cases h2 : i = off + k
      · subst h2
        rw [List.append_assoc, List.getElem?_append_left (by simp; omega), List.getElem?_take_of_lt (by omega), List.getElem?_set_self (by omega)]
        rw [List.append_assoc, List.getElem?_append_right (by simp only [List.length_take]; omega)]
        simp only [List.length_take]
        rw [Nat.min_eq_left (by omega), Nat.sub_self]
        rfl
      · by_cases h3 : i < off + k + (l.length + 1)
        · rw [List.append_assoc, List.getElem?_append_right (by simp; omega), List.getElem?_append_left (by simp; omega)]
          rw [List.append_assoc, List.getElem?_append_right (by simp; omega), List.getElem?_append_left (by simp; omega)]
          simp only [List.length_take, List.length_set]
          rw [Nat.min_eq_left (by omega), Nat.min_eq_left (by omega)]
          obtain ⟨j, rfl⟩ : ∃ j, i = off + k + 1 + j := ⟨i - (off + k + 1), by omega⟩
          rw [show off + k + 1 + j - (off + (k + 1)) = j from by omega, show off + k + 1 + j - (off + k) = j + 1 from by omega]
          simp
        · rw [List.getElem?_append_right (by simp; omega), List.getElem?_append_right (by simp; omega)]
          simp only [List.length_append, List.length_take, List.length_set, List.length_cons, List.getElem?_drop]
          rw [List.getElem?_set_ne (by omega)]
          congr 1
          rw [Nat.min_eq_left (by omega), Nat.min_eq_left (by omega)]
          omega

theorem fill_rel {r : Ren} {pl pl' : Nat → Option (Nat × Nat)} (hpl : ∀ i x, pl i = some x → pl' i = some x) : ∀ (parts parts' : List (Nat × Value)) (cs : List Value) (cs' : Array Value) (out : List Value),
    parts.map (·.1) = parts'.map (·.1) → VRelL r (parts.map (·.2)) (parts'.map (·.2)) → VRelL r cs cs'.toList → fillL pl cs parts = some out →
    ∃ out' : Array Value, Instr.fill pl' cs' parts' = some out' ∧ VRelL r out out'.toList ∧ out.length = cs.length
  | [], [], cs, cs', out, _, _, hc, h => by
    cases h; exact ⟨cs', rfl, hc, rfl⟩
  | (i, v) :: parts, (j, v') :: parts', cs, cs', out, hi, hv, hc, h => by
    simp only [List.map_cons, List.cons.injEq] at hi
    obtain ⟨rfl, hi⟩ := hi
    cases hv with
    | cons hv ht =>
      simp only [fillL] at h
      cases hp : pl i with
      | none => simp [hp] at h
      | some x =>
        obtain ⟨off, size⟩ := x
        simp only [hp] at h
        split at h
        · cases h
        · rename_i hb
          simp only [ne_eq, Bool.or_eq_true, decide_eq_true_eq, not_or, Decidable.not_not] at hb
          obtain ⟨⟨hb0, hb1⟩, hb2⟩ := hb
          have hj : isJunk v = false := by cases hq : isJunk v with | false => rfl | true => exact absurd hq hb0
          have hvc := hv.cells hj
          have hlen := hvc.length
          have hcl := hc.length
          simp only [Array.length_toList] at hlen hcl
          have hsz : v'.cells.size = size := by simp at hb1; omega
          have hle : off + v'.cells.size ≤ cs'.size := by simp at hb1; omega
          have hset := foldl_set off v'.cells.toList 0 cs' (by simp; omega)
          have hz : (v'.cells.zipIdx.foldl (fun cs (c, j) => cs.setIfInBounds (off + j) c) cs').toList = splice cs'.toList off v'.cells.toList := by
            rw [← Array.foldl_toList]
            simpa using hset
          obtain ⟨out', h1, h2, h3⟩ := fill_rel hpl parts parts' (splice cs off v.cells.toList) (v'.cells.zipIdx.foldl (fun cs (c, j) => cs.setIfInBounds (off + j) c) cs') out hi ht
            (by rw [hz]; exact hc.splice hvc off) h
          refine ⟨out', ?_, h2, ?_⟩
          · simp only [Instr.fill, hpl _ _ hp]
            rw [if_neg (by simp [hsz]; omega)]
            exact h1
          · rw [h3]; apply splice_length; simp at hb1 ⊢; omega
  | [], _ :: _, _, _, _, hi, _, _, _ => by simp at hi
  | _ :: _, [], _, _, _, hi, _, _, _ => by simp at hi

end Go.Am
