import Derived.Test.YthnjfgjbgblciaaGreatDoorAm12
/-
  THE ABSTRACT MACHINE, 13: maps written, iterators.
-/
namespace Go.Am

theorem ERelL.get {r : Ren} {l l' : List MapEntry} (h : ERelL r l l') {i : Nat} {e : MapEntry} (he : l[i]? = some e) : ∃ e', l'[i]? = some e' ∧ ERel r e e' := by
  induction h generalizing i with
  | nil => simp at he
  | cons h _ ih =>
    cases i with
    | zero => simp at he; subst he; exact ⟨_, rfl, h⟩
    | succ i => simp at he; simpa using ih he

theorem ERelL.length {r : Ren} {l l' : List MapEntry} (h : ERelL r l l') : l.length = l'.length := by
  induction h with
  | nil => rfl
  | cons _ _ ih => simp [ih]

theorem ERelL.snoc {r : Ren} {l l' : List MapEntry} (h : ERelL r l l') {e e' : MapEntry} (he : ERel r e e') : ERelL r (l ++ [e]) (l' ++ [e']) := by
  induction h with
  | nil => exact .cons he .nil
  | cons h _ ih => exact .cons h ih

theorem ERelL.modify {r : Ren} {f f' : MapEntry → MapEntry} (hf : ∀ e e', ERel r e e' → ERel r (f e) (f' e')) {l l' : List MapEntry} (h : ERelL r l l') (i : Nat) : ERelL r (l.modify i f) (l'.modify i f') := by
  induction h generalizing i with
  | nil => cases i <;> exact .nil
  | cons h t ih =>
    cases i with
    | zero => exact .cons (hf _ _ h) t
    | succ i => simp only [List.modify_succ_cons]; exact .cons h (ih i)

theorem ERelL.eraseIdx {r : Ren} {l l' : List MapEntry} (h : ERelL r l l') (i : Nat) : ERelL r (l.eraseIdx i) (l'.eraseIdx i) := by
  induction h generalizing i with
  | nil => exact .nil
  | cons h t ih =>
    cases i with
    | zero => exact t
    | succ i => exact .cons h (ih i)

theorem ERelL.filter {r : Ren} {p : Nat → Bool} {l l' : List MapEntry} (h : ERelL r l l') : ERelL r (l.filter fun e => p e.born) (l'.filter fun e => p e.born) := by
  induction h with
  | nil => exact .nil
  | cons h _ ih =>
    simp only [List.filter_cons, h.born]
    split
    · exact .cons h ih
    · exact ih

theorem ERelL.all {r : Ren} {p : Nat → Bool} {l l' : List MapEntry} (h : ERelL r l l') : (l'.all fun e => p e.born) = l.all fun e => p e.born := by
  induction h with
  | nil => rfl
  | cons h _ ih => simp only [List.all_cons, h.born, ih]

theorem ERelL.find {r : Ren} {p : Nat → Bool} {l l' : List MapEntry} (h : ERelL r l l') {e : MapEntry} (he : (l.find? fun e => p e.born) = some e) : ∃ e', (l'.find? fun e => p e.born) = some e' ∧ ERel r e e' := by
  induction h with
  | nil => simp at he
  | cons h _ ih =>
    simp only [List.find?_cons, h.born] at he ⊢
    split at he
    · cases he; exact ⟨_, rfl, h⟩
    · exact ih he

section
variable {P : Program} {r : Ren} {m : Mem} {w : World} {rs : Rs} {a : Act} {o : Oper} {A : Prop} {res : OpR}

theorem Wrote.setObj (w : World) (b : Nat) (x : Obj) : Wrote w { w with heap := w.heap.setIfInBounds b x } b :=
  ⟨rfl, rfl, rfl, by simp, fun b' hb => by simp [Array.getElem?_setIfInBounds_ne (Ne.symm hb)]⟩

theorem run_setObj_map {b c : Nat} {es : Array MapEntry} (x : Obj) (h : w.heap[b]? = some (.map es c)) : (setObj b x).run P w = .ok () { w with heap := w.heap.setIfInBounds b x } := by
  simp [setObj, Sem.run, h]

theorem heap_setObj {b : Nat} {x y : Obj} (h : w.heap[b]? = some y) : (w.heap.setIfInBounds b x)[b]? = some x := by
  have := (Array.getElem?_eq_some_iff.1 h).1
  simp [this]

/-- A map written anew. -/
theorem map_write (hm : HRel P r m w) {id c c' : Nat} {e : Ent} {es out : List MapEntry} {es' out' : Array MapEntry} (hr : r id = some e) (hg : mapAt m.t id = some (es, c)) (hh : w.heap[e.b]? = some (.map es' c)) (ho : ERelL r out out'.toList) :
    HRel P r ⟨m.t.set id (some (.map out c')), m.n⟩ { w with heap := w.heap.setIfInBounds e.b (.map out' c') } ∧
    Evo r m w r ⟨m.t.set id (some (.map out c')), m.n⟩ { w with heap := w.heap.setIfInBounds e.b (.map out' c') } := by
  have hw := Wrote.setObj w e.b (.map out' c')
  exact hm.write hr (mapAt_get hg) rfl hw.os hw.tape hw.output hw.size hw.other ⟨out', heap_setObj hh, ho⟩

theorem keyStays {k old : Value} (hk : keySame k old = some true) : Instr.keyThatStays old k = Sem.pure k := by
  have : Instr.sameBits 10000 old k = true := by
    obtain ⟨D, hD⟩ : ∃ D, (10000 : Nat) = D + 1 := ⟨9999, rfl⟩
    rw [hD]
    cases k <;> cases old <;> simp [keySame] at hk
    · simp [Instr.sameBits, hk]
    · simp [Instr.sameBits, hk]
    · rename_i s s'
      have : s' = s := by apply ByteArray.ext; exact hk.symm
      subst this
      show ByteArray.beq s' s' = true
      unfold ByteArray.beq
      simp
  unfold Instr.keyThatStays
  rw [if_pos this]; rfl

variable (ev : ∀ x, VRel r (eval P rs x) (a.eval x))
include ev

theorem sim_mapUpdate (hm : HRel P r m w) {t : TypeId} {mp k x : Operand} (ho : o.op = .mapUpdate t mp k x ∨ o.op = .insert t mp k x) (h : mapUpdateR P m.t rs t mp k x = some res) : OpSim P r m w (execOp a.eval o) A res := by
  have hx := ev mp
  have hk := ev k
  have hv := ev x
  unfold mapUpdateR at h
  simp only at h
  generalize hcv : a.eval mp = vc at hx
  generalize hck : a.eval k = kc at hk
  generalize eval P rs mp = v at h hx
  generalize eval P rs k = kv at h hk
  cases hu : under P t with
  | none => simp [hu] at h
  | some d =>
    cases d <;> try (simp [hu] at h; done)
    rename_i kt el
    cases hx <;> try (simp [hu] at h; done)
    case map id e hr =>
      simp only [hu] at h
      split at h
      · rename_i hp
        have hkk : kc = kv := by
          rcases plainKey_spec hp with ⟨j, n, _, rfl⟩ | ⟨s, _, rfl⟩ | ⟨q, _, rfl⟩ <;> cases hk <;> rfl
        have hkr : VRel r kv kv := by
          rcases plainKey_spec hp with ⟨j, n, _, rfl⟩ | ⟨s, _, rfl⟩ | ⟨q, _, rfl⟩ <;> constructor
        cases hmap : mapAt m.t id with
        | none => simp [hmap] at h
        | some q =>
          obtain ⟨es, c⟩ := q
          simp only [hmap] at h
          obtain ⟨es', h1, h2⟩ := map_of hm hr hmap
          cases hf : findKey kv es 0 with
          | none => simp [hf] at h
          | some q =>
            obtain ⟨q', h3, h4⟩ := run_findKey (P := P) (w := w) hp h2 hf
            rcases h4 with ⟨rfl, rfl⟩ | ⟨j, v1, v2, e0, rfl, rfl, h5, h6, h7, h8⟩
            · simp only [hf] at h
              cases h
              have hw := map_write (c' := c + 1) hm hr hmap h1 (out := es ++ [{ key := kv, val := eval P rs x, born := c }]) (out' := es'.push { key := kv, val := a.eval x, born := c }) (by
                rw [Array.toList_push]; exact h2.snoc ⟨hkr, hv, rfl⟩)
              refine OpSim.mkStep (nx := .skip) ?_ hw (VRel.undef r)
              rcases ho with ho | ho <;>
              simp only [execOp, ho, hcv, hck, hkk, Instr.mapUpdate, Sem.run_bind, run_under hu, Result.andThen_ok, run_getObj_map h1, run_checkKey _ hp, h3, run_setObj_map _ h1, Sem.run_pure]
            · simp only [hf] at h
              cases h
              obtain ⟨e0', h9, h10⟩ := h2.get h6
              have hw := map_write (c' := c) hm hr hmap h1 (out := es.modify j fun e => { e with key := kv, val := eval P rs x }) (out' := es'.modify j fun e => { e with key := kv, val := a.eval x }) (by
                rw [Array.toList_modify]; exact h2.modify (f := fun e => { e with key := kv, val := eval P rs x }) (f' := fun e => { e with key := kv, val := a.eval x }) (fun _ _ he => ERel.mk hkr hv he.born) j)
              have hkey : ((es'[j]?).map (·.key)).getD kv = e0'.key := by
                have : es'[j]? = some e0' := by simpa using h9
                simp [this]
              have hst : Instr.keyThatStays (((es'[j]?).map (·.key)).getD kv) kv = Sem.pure kv := by
                rw [hkey]
                obtain ⟨_, e2⟩ := keySame_eq (r := r) h8 hkr h10.key
                rw [e2]
                exact keyStays h8
              refine OpSim.mkStep (nx := .skip) ?_ hw (VRel.undef r)
              rcases ho with ho | ho <;>
              simp only [execOp, ho, hcv, hck, hkk, Instr.mapUpdate, Sem.run_bind, run_under hu, Result.andThen_ok, run_getObj_map h1, run_checkKey _ hp, h3, hst, Sem.run_pure', run_setObj_map _ h1, Sem.run_pure]
      · cases h

omit ev in
theorem run_getObj_iter {b : Nat} {x : Obj} (hx : ∀ c t f, x ≠ .cells c t f) (h : w.heap[b]? = some x) : (getObj b).run P w = .ok x w := by
  cases x <;> first | (exact absurd rfl (hx _ _ _)) | simp [getObj, Sem.run, h]

omit ev in
theorem run_setObj_iter {b : Nat} {x y : Obj} (hx : ∀ c t f, x ≠ .cells c t f) (h : w.heap[b]? = some x) : (setObj b y).run P w = .ok () { w with heap := w.heap.setIfInBounds b y } := by
  cases x <;> first | (exact absurd rfl (hx _ _ _)) | simp [setObj, Sem.run, h]

theorem sim_entry (hm : HRel P r m w) {it : Operand} (ho : o.op = .entry it) (h : entryR P m.t rs it = some res) : OpSim P r m w (execOp a.eval o) A res := by
  have hx := ev it
  unfold entryR at h
  simp only at h
  generalize hcv : a.eval it = vc at hx
  generalize eval P rs it = v at h hx
  cases hx <;> try (cases h; done)
  case ptr id off e hr =>
    cases off with
    | succ off => cases h
    | zero =>
      simp only at h
      cases hg : m.t.get id with
      | none => simp [hg] at h
      | some ob =>
        cases ob <;> try (simp [hg] at h; done)
        rename_i mm since seen stepped
        cases mm with
        | none => simp [hg] at h
        | some mid =>
          simp only [hg] at h
          cases hs : seen.getLast? with
          | none => simp [hs] at h
          | some stamp =>
            cases hmap : mapAt m.t mid with
            | none => simp [hs, hmap] at h
            | some q =>
              obtain ⟨es, clock⟩ := q
              simp only [hs, hmap] at h
              split at h
              · rename_i hck
                obtain ⟨hd, m', h1, h2⟩ := hm.obj _ _ _ hr hg
                cases h2 with
                | map hr2 =>
                  rename_i e2
                  obtain ⟨es', h3, h4⟩ := map_of hm hr2 hmap
                  cases hfd : es.find? (fun e => e.born == stamp) with
                  | none => rw [hfd] at h; cases h
                  | some e0 =>
                    rw [hfd] at h; cases h
                    obtain ⟨e0', h5, h6⟩ := ERelL.find (p := fun b => b == stamp) h4 hfd
                    refine OpSim.mk (v' := .tuple #[e0'.key, e0'.val]) (.tuple (.cons h6.key (.cons h6.val .nil))) ?_
                    have hgi := run_getObj_iter (P := P) (w := w) (by intro _ _ _ hh; cases hh) h1
                    have hgm := run_getObj_map (P := P) (w := w) h3
                    have hsb : seen.toArray.back? = some stamp := by simpa using hs
                    have hfd' : es'.find? (fun e => e.born == stamp) = some e0' := by rw [← Array.find?_toList]; exact h5
                    simp only [execOp, ho, hcv, Instr.entry, hd, Nat.add_zero, Sem.run_bind, hgi, Result.andThen_ok, hsb, hgm, hck]
                    simp [hfd']
              · cases h

theorem sim_next (hm : HRel P r m w) {it : Operand} {isString : Bool} (ho : o.op = .next it isString) (h : nextR P m.t rs it isString = some res) : OpSim P r m w (execOp a.eval o) A res := by
  have hx := ev it
  unfold nextR at h
  simp only at h
  generalize hcv : a.eval it = vc at hx
  generalize eval P rs it = v at h hx
  cases hx <;> try (cases h; done)
  case ptr id off e hr =>
    cases off with
    | succ off => cases h
    | zero =>
      simp only at h
      cases hg : m.t.get id with
      | none => simp [hg] at h
      | some ob =>
        cases ob <;> try (simp [hg] at h; done)
        case siter s pos =>
          cases isString with
          | false => simp [hg] at h
          | true =>
            simp only [hg] at h
            obtain ⟨h1, hd⟩ := hm.obj _ _ _ hr hg
            have hgi := run_getObj_iter (P := P) (w := w) (by intro _ _ _ hh; cases hh) h1
            split at h
            · rename_i hlt
              cases h
              have hw := Wrote.setObj w e.b (.stringIter s (pos + (Utf8.decode s pos).2))
              have hh := hm.write hr hg rfl hw.os hw.tape hw.output hw.size hw.other (x := .siter s (pos + (Utf8.decode s pos).2)) ⟨heap_setObj h1, hd⟩
              refine OpSim.mkStep (nx := .value (.tuple #[.bool true, .int .i64 pos, .int .i32 (Utf8.decode s pos).1])) ?_ hh (VRel.tuple (.cons (.bool _) (.cons (.int _ _) (.cons (.int _ _) .nil))))
              simp only [execOp, ho, hcv, Instr.next, hd, Nat.add_zero, Sem.run_bind, hgi, Result.andThen_ok, if_pos hlt, run_setObj_iter (P := P) (w := w) (y := .stringIter s (pos + (Utf8.decode s pos).2)) (by intro _ _ _ hh; cases hh) h1, Sem.run_pure]
              rfl
            · rename_i hlt
              cases h
              refine OpSim.mk (.tuple (.cons (.bool _) .nil)) ?_
              simp only [execOp, ho, hcv, Instr.next, hd, Nat.add_zero, Sem.run_bind, hgi, Result.andThen_ok, if_neg hlt, Sem.run_pure]
        case miter mm since seen stepped =>
          cases isString with
          | true => cases mm <;> simp [hg] at h
          | false =>
            obtain ⟨hd, m', h1, h2⟩ := hm.obj _ _ _ hr hg
            have hgi := run_getObj_iter (P := P) (w := w) (by intro _ _ _ hh; cases hh) h1
            cases mm with
            | none =>
              simp only [hg] at h
              cases h
              cases h2
              refine OpSim.mk (.tuple (.cons (.bool _) .nil)) ?_
              simp only [execOp, ho, hcv, Instr.next, hd, Nat.add_zero, Sem.run_bind, hgi, Result.andThen_ok, Sem.run_pure]
            | some mid =>
              simp only [hg] at h
              cases h2 with
              | map hr2 =>
                rename_i e2
                cases hmap : mapAt m.t mid with
                | none => simp [hmap] at h
                | some q =>
                  obtain ⟨es, clock⟩ := q
                  simp only [hmap] at h
                  split at h
                  · cases h
                  · rename_i hcl
                    have hcl : clock = since := by simpa using hcl
                    obtain ⟨es', h3, h4⟩ := map_of hm hr2 hmap
                    have hgm := run_getObj_map (P := P) (w := w) h3
                    split at h
                    · cases h
                    · rename_i hsup
                      have hsup' : (!seen.toArray.isEmpty && !es'.isEmpty && es'.all fun e => decide (e.born ≥ stepped)) = false := by
                        have e1 : es'.isEmpty = es.isEmpty := by
                          have := h4.length
                          cases es' with | mk l => cases l <;> cases es <;> simp at this ⊢
                        have e2 : (es'.all fun e => decide (e.born ≥ stepped)) = es.all fun e => decide (e.born ≥ stepped) := by
                          rw [← Array.all_toList]; exact h4.all (p := fun b => decide (b ≥ stepped))
                        have e3 : seen.toArray.isEmpty = seen.isEmpty := by cases seen <;> rfl
                        rw [e1, e2, e3]
                        simpa using hsup
                      have hleft := ERelL.filter (p := fun b => !seen.contains b) h4
                      have hla : (es'.filter fun e => !seen.toArray.contains e.born).toList = es'.toList.filter fun e => !seen.contains e.born := by
                        rw [Array.toList_filter]
                        congr 1; funext e; simp
                      have hchoose : ∀ n, n ≤ 1 → (choose (.mapNext n)).run P w = .ok 0 w := by
                        intro n hn
                        simp [Question.forced, hn]
                      split at h
                      · rename_i hfl
                        cases h
                        rw [hfl] at hleft
                        have hnil : (es'.filter fun e => !seen.toArray.contains e.born) = #[] := by
                          apply Array.ext'; rw [hla]; exact List.eq_nil_of_length_eq_zero (by rw [← hleft.length]; rfl)
                        refine OpSim.mk (.tuple (.cons (.bool _) .nil)) ?_
                        simp only [execOp, ho, hcv, Instr.next, hd, Nat.add_zero, Sem.run_bind, hgi, hgm, Result.andThen_ok, hsup', Bool.false_eq_true, if_false, hnil]
                        simp [hchoose]
                      · rename_i e0 hfl
                        split at h
                        · rename_i hb
                          cases h
                          rw [hfl] at hleft
                          obtain ⟨e0', hone, hrel⟩ : ∃ e0', (es'.filter fun e => !seen.toArray.contains e.born) = #[e0'] ∧ ERel r e0 e0' := by
                            cases hq : es'.toList.filter (fun e => !seen.contains e.born) with
                            | nil => rw [hq] at hleft; cases hleft
                            | cons x l =>
                              rw [hq] at hleft
                              cases hleft with
                              | cons hx ht => cases ht; exact ⟨x, by apply Array.ext'; rw [hla, hq], hx⟩
                          have hb' : e0'.born < since := by rw [hrel.born]; exact hb
                          have hnb : ¬ (e0'.born ≥ since) := by omega
                          have hw := Wrote.setObj w e.b (.mapIter (some e2.b) since (seen.toArray.push e0'.born) clock)
                          have hh := hm.write hr hg rfl hw.os hw.tape hw.output hw.size hw.other (x := .miter (some mid) since (seen ++ [e0.born]) clock) ⟨hd, some e2.b, by rw [heap_setObj h1, hrel.born]; simp, .map hr2⟩
                          refine OpSim.mkStep (nx := .value (.tuple #[.bool true, e0'.key, e0'.val])) ?_ hh (VRel.tuple (.cons (.bool _) (.cons hrel.key (.cons hrel.val .nil))))
                          simp only [execOp, ho, hcv, Instr.next, hd, Nat.add_zero, Sem.run_bind, hgi, hgm, Result.andThen_ok, hsup', Bool.false_eq_true, if_false, hone]
                          simp [hb', hnb, hchoose, run_setObj_iter (P := P) (w := w) (y := .mapIter (some e2.b) since (seen ++ [e0'.born]).toArray clock) (by intro _ _ _ hh; cases hh) h1]
                        · cases h
                      · cases h

end
end Go.Am
