import Derived.Test.YthnjfgjbgblciaaGreatDoorAm9
import Derived.Laws.BytesString
/-
  THE ABSTRACT MACHINE, 10: conversions that make nothing, maps read, len and its kin.
-/
namespace Go.Am

section
variable {P : Program} {r : Ren} {m : Mem} {w : World} {rs : Rs} {a : Act} {o : Oper} {A : Prop} {res : OpR}

theorem bytesOfCells_ints : ∀ {l : List Value} {bs : List UInt8}, bytesOfCells l = some bs → ∃ ns : List Int, l = ns.map (Value.int .u8) ∧ bs = ns.map fun n => UInt8.ofNat n.toNat
  | [], bs, h => by cases h; exact ⟨[], rfl, rfl⟩
  | v :: l, bs, h => by
    cases v <;> try (cases h; done)
    rename_i k n
    cases k <;> try (cases h; done)
    replace h : (bytesOfCells l).map (fun r => UInt8.ofNat n.toNat :: r) = some bs := h
    cases hb : bytesOfCells l with
    | none => simp [hb] at h
    | some bs' =>
      simp [hb] at h; subst h
      obtain ⟨ns, h1, h2⟩ := bytesOfCells_ints hb
      exact ⟨n :: ns, by simp [h1], by simp [h2]⟩

theorem ints_same {ns : List Int} {l' : List Value} (h : VRelL r (ns.map (Value.int .u8)) l') : l' = ns.map (Value.int .u8) := by
  induction ns generalizing l' with
  | nil => cases h; rfl
  | cons n ns ih => cases h with | cons h t => cases h; rw [ih t]; rfl

theorem foldl_push (ns : List Int) (s : ByteArray) : ns.foldl (fun r n => r.push (UInt8.ofNat n.toNat)) s = ⟨⟨s.data.toList ++ ns.map fun n => UInt8.ofNat n.toNat⟩⟩ := by
  induction ns generalizing s with
  | nil => cases s; simp
  | cons n ns ih =>
    rw [List.foldl_cons, ih]
    apply ByteArray.ext
    simp [ByteArray.push]

theorem run_seenAt {b off : Nat} {t : TypeId} {n : Nat} (h : w.shape? b = some (t, n)) : (Conv.seenAt ⟨b, off, none⟩).run P w = .ok ⟨b, off, none⟩ w := by
  simp [Conv.seenAt, viewAt, h]

theorem shape_of (hm : HRel P r m w) {id : Nat} {e : Ent} {cs : List Value} {t : TypeId} {fz : Nat} (hr : r id = some e) (hg : rowAt m.t id = some (cs, t, fz)) :
    w.shape? e.b = some (t, e.size) ∧ e.d + cs.length ≤ e.size := by
  obtain ⟨c, lo, hi, h1, h2, h3, _⟩ := row_of hm hr hg
  simp [World.shape?, h1, h2]; omega

theorem fits_same {t : TypeId} {n off s : Nat} (hs : sizeT P t = some (s + 1)) (ho : off % (s + 1) = 0) (hn : off + (s + 1) ≤ n) : liesAt P P.depth t (n / P.cellsOf t) off t 1 = true := by
  have hc : P.cellsOf t = s + 1 := by
    unfold sizeT at hs
    unfold Program.cellsOf
    rw [hs]; rfl
  obtain ⟨d, hd⟩ : ∃ d, P.depth = d + 1 := ⟨_, rfl⟩
  have hsl : sameLayout P P.depth t t = true := by
    rw [hd]
    unfold sameLayout
    simp
  have hq : off / (s + 1) + 1 ≤ n / (s + 1) := by
    rw [← Nat.add_div_right _ (Nat.succ_pos s)]
    exact Nat.div_le_div_right hn
  unfold liesAt
  rw [hd]
  simp only []
  rw [← hd]
  have : Go.rowAt P (sameLayout P P.depth · t) P.depth t (n / P.cellsOf t) off 1 = true := by
    rw [hd]
    unfold Go.rowAt
    rw [← hd]
    simp only [hc]
    rw [if_neg (by omega)]
    simp only [hsl, ho, beq_self_eq_true, Bool.true_and, Bool.and_true, Bool.or_eq_true, decide_eq_true_eq]
    exact .inl hq
  simp only [this, Bool.true_or]

variable (ev : ∀ x, VRel r (eval P rs x) (a.eval x))
include ev

theorem sim_convert_val (hm : HRel P r m w) {src dst : TypeId} {x : Operand} {v : Value} (ho : o.op = .convert src dst x) (h : convertR P m.t rs src dst x = some (.val v)) : OpSim P r m w (execOp a.eval o) A (.val v) := by
  have hx := ev x
  unfold convertR at h
  simp only at h
  generalize hcv : a.eval x = vc at hx
  generalize eval P rs x = u at h hx
  cases hs : under P src with
  | none => simp [hs] at h
  | some ds =>
    cases hd : under P dst with
    | none => simp [hs, hd] at h
    | some dd =>
      simp only [hs, hd] at h
      cases ds <;> try (cases dd <;> cases hx <;> cases h; done)
      case int k =>
        cases dd <;> try (cases hx <;> cases h; done)
        case int k' =>
          cases hx <;> try (cases h; done)
          cases h
          exact OpSim.mk (.int _ _) (by simp [execOp, ho, hcv, convert, run_under hs, run_under hd, Conv.intToInt])
      case string =>
        cases dd <;> try (cases hx <;> cases h; done)
        case string =>
          cases hx <;> try (cases h; done)
          cases h
          exact OpSim.mk (.string _) (by simp [execOp, ho, hcv, convert, run_under hs, run_under hd])
        case slice el =>
          cases hx <;> try (cases h; done)
          simp only at h
          split at h
          · split at h <;> simp at h
          · cases h
      case slice el =>
        cases dd <;> try (cases hx <;> cases h; done)
        case string =>
          cases hx <;> try (cases h; done)
          case snil =>
            simp only at h
            split at h
            · rename_i he
              cases h
              have heu : P.underlying el = some (.int .u8) := by
                cases hue : under P el with
                | none => simp [hue] at he
                | some q => cases q <;> simp [hue] at he; subst he; exact hue
              refine OpSim.mk (.string _) ?_
              simp only [execOp, ho, hcv, Sem.run_bind, Go.run_convert_bytes_string (P := P) w src dst el _ _ _ hs heu hd]
              rfl
            · cases h
          case slice id off off' len cap cap' sp e hr hoff hc hl hsx hrm hb47 ha =>
            simp only at h
            split at h
            · rename_i he
              cases hcells : cellsAt m.t id off len with
              | none => simp [hcells] at h
              | some l =>
                cases hb : bytesOfCells l with
                | none => simp [hcells, hb] at h
                | some bs =>
                  simp [hcells, hb] at h
                  subst h
                  obtain ⟨ns, h1, h2⟩ := bytesOfCells_ints hb
                  obtain ⟨l', h3, h4, h5⟩ := cells_of hm hr hcells
                  rw [h1] at h4
                  have h6 := ints_same h4
                  refine OpSim.mk (.string _) ?_
                  have heu : P.underlying el = some (.int .u8) := by
                    cases hue : under P el with
                    | none => simp [hue] at he
                    | some q => cases q <;> simp [hue] at he; subst he; exact hue
                  have hload : (loadCells ⟨e.b, off', none⟩ len).run P w = .ok (ns.map (Value.int .u8)).toArray w := by
                    rcases Nat.eq_zero_or_pos cap with hz | hz
                    · have : len = 0 := by omega
                      subst this
                      have : l' = [] := List.eq_nil_of_length_eq_zero h3
                      rw [this] at h6
                      rw [← h6]
                      rfl
                    · rw [hoff hz]
                      have := run_loadCells (P := P) h5
                      rw [h3] at this
                      rw [this, h6]
                  have hrun := run_bytesToString (P := P) w ⟨e.b, off', none⟩ len cap' ns hload
                  simp only [execOp, ho, hcv, Sem.run_bind, Go.run_convert_bytes_string (P := P) w src dst el _ _ _ hs heu hd, hrun, Result.andThen_ok, Sem.run_pure, foldl_push, h2]
                  simp
            · cases h
      case pointer u' =>
        cases dd <;> try (cases hx <;> cases h; done)
        case unsafePointer =>
          cases hx <;> try (cases h; done)
          case pnil =>
            cases h
            exact OpSim.mk .pnil (by simp [execOp, ho, hcv, convert, run_under hs, run_under hd, Conv.unsafePointer])
          case ptr id off e hr =>
            simp only at h
            cases hg : rowAt m.t id with
            | none => simp [hg] at h
            | some q =>
              obtain ⟨cs, t, fz⟩ := q
              cases hz : sizeT P u' with
              | none => simp [hg, hz] at h
              | some s =>
                cases s with
                | zero => simp [hg, hz] at h
                | succ s =>
                  simp only [hg, hz] at h
                  split at h <;> cases h
                  rename_i hlt
                  obtain ⟨h1, h2⟩ := shape_of hm hr hg
                  refine OpSim.mk (.ptr hr) ?_
                  have h3 : ¬ (e.size ≤ e.d + off) := by omega
                  simp [execOp, ho, hcv, convert, run_under hs, run_under hd, Conv.unsafePointer, run_seenAt h1, cellsIn, h1, run_sizeT hz, h3]
      case unsafePointer =>
        cases dd <;> try (cases hx <;> cases h; done)
        case pointer u' =>
          cases hx <;> try (cases h; done)
          case pnil =>
            cases h
            exact OpSim.mk .pnil (by simp [execOp, ho, hcv, convert, run_under hs, run_under hd, Conv.unsafePointer])
          case ptr id off e hr =>
            simp only at h
            cases hg : rowAt m.t id with
            | none => simp [hg] at h
            | some q =>
              obtain ⟨cs, t, fz⟩ := q
              cases hz : sizeT P u' with
              | none => simp [hg, hz] at h
              | some s =>
                cases s with
                | zero => simp [hg, hz] at h
                | succ s =>
                  simp only [hg, hz] at h
                  split at h <;> cases h
                  rename_i hlt
                  obtain ⟨rfl, rfl, hlt⟩ := hlt
                  obtain ⟨h1, h2⟩ := shape_of hm hr hg
                  refine OpSim.mk (.ptr hr) ?_
                  obtain ⟨c, lo, hi, _, _, _, _, _, h6, _, h7⟩ := row_of hm hr hg
                  rw [hz] at h6
                  have h8 : e.es = s + 1 := by simpa using h6.symm
                  rw [h8] at h7
                  have hlies := fits_same (P := P) (n := e.size) hz h7 (by omega)
                  simp [execOp, ho, hcv, convert, run_under hs, run_under hd, Conv.unsafePointer, run_seenAt h1, run_sizeT hz, variablesAt, h1, hlies]

omit ev in
theorem keySame_eq {k k' x x' : Value} {q : Bool} (h : keySame k x = some q) (hk : VRel r k k') (hx : VRel r x x') : k' = k ∧ x' = x := by
  cases hk <;> first | (simp [keySame] at h; done) | (cases hx <;> first | (simp [keySame] at h; done) | exact ⟨rfl, rfl⟩)

omit ev in
theorem plainKey_spec {t : TypeId} {k : Value} (h : plainKey P t k = true) : (∃ j n, under P t = some (.int j) ∧ k = .int j n) ∨ (∃ s, under P t = some .string ∧ k = .string s) ∨ (∃ b, under P t = some .bool ∧ k = .bool b) := by
  unfold plainKey at h
  split at h
  · rename_i j i n hu
    have : j = i := by simpa using h
    subst this; exact .inl ⟨_, _, hu, rfl⟩
  · rename_i s hu; exact .inr (.inl ⟨_, hu, rfl⟩)
  · rename_i b hu; exact .inr (.inr ⟨_, hu, rfl⟩)
  · cases h

omit ev in
theorem run_checkKey {t : TypeId} {k : Value} (b : Bool) (h : plainKey P t k = true) : (Instr.checkKey b 10000 t k).run P w = .ok () w := by
  obtain ⟨D, hD⟩ : ∃ D, (10000 : Nat) = D + 1 := ⟨9999, rfl⟩
  rw [hD]
  rcases plainKey_spec h with ⟨j, n, hu, rfl⟩ | ⟨s, hu, rfl⟩ | ⟨q, hu, rfl⟩ <;> simp [Instr.checkKey, run_under hu]

omit ev in
theorem findNow_rel {t : TypeId} {d : TypeDesc} {k : Value} (hu : under P t = some d) (hp : plainKey P t k = true) : ∀ {es es' : List MapEntry} {i : Nat} {q : Option (Nat × Value)}, ERelL r es es' → findKey k es i = some q →
    ∃ q', Instr.findNow d k es' i = some q' ∧ (q = none ∧ q' = none ∨ ∃ j v v' e, q = some (j, v) ∧ q' = some (j, v') ∧ VRel r v v' ∧ i ≤ j ∧ es[j - i]? = some e ∧ e.val = v ∧ keySame k e.key = some true)
  | [], _, i, q, .nil, h => by cases h; exact ⟨none, rfl, .inl ⟨rfl, rfl⟩⟩
  | e :: es, _, i, q, .cons he ht, h => by
    rename_i e' es'
    simp only [findKey] at h
    have hsn : ∀ b, keySame k e.key = some b → Instr.sameNow d k e'.key = some b := by
      intro b hb
      obtain ⟨_, e2⟩ := keySame_eq (r := r) hb (k' := k) (x' := e'.key) (by
        rcases plainKey_spec hp with ⟨j, n, _, rfl⟩ | ⟨s, _, rfl⟩ | ⟨q, _, rfl⟩ <;> constructor) he.key
      rw [e2]
      rcases plainKey_spec hp with ⟨j, n, hu', rfl⟩ | ⟨s, hu', rfl⟩ | ⟨q, hu', rfl⟩
      · rw [hu] at hu'; cases hu'
        cases hk : e.key <;> simp [hk, keySame] at hb
        simp [Instr.sameNow, hb]
      · rw [hu] at hu'; cases hu'
        cases hk : e.key <;> simp [hk, keySame] at hb
        rename_i s'
        simp only [Instr.sameNow]
        congr 1
      · rw [hu] at hu'; cases hu'
        cases hk : e.key <;> simp [hk, keySame] at hb
        simp [Instr.sameNow, hb]
    cases hb : keySame k e.key with
    | none => simp [hb] at h
    | some b =>
      simp only [hb] at h
      cases b with
      | true =>
        simp at h; subst h
        exact ⟨some (i, e'.val), by simp [Instr.findNow, hsn _ hb], .inr ⟨i, e.val, e'.val, e, rfl, rfl, he.val, Nat.le_refl _, by simp, rfl, hb⟩⟩
      | false =>
        simp only at h
        obtain ⟨q', h1, h2⟩ := findNow_rel hu hp ht h
        refine ⟨q', by simp [Instr.findNow, hsn _ hb, h1], ?_⟩
        rcases h2 with h2 | ⟨j, v, v', e0, h3, h4, h5, h6, h7, h8, h9⟩
        · exact .inl h2
        · refine .inr ⟨j, v, v', e0, h3, h4, h5, by omega, ?_, h8, h9⟩
          rw [show j - i = (j - (i + 1)) + 1 from by omega]; simpa using h7

omit ev in
theorem run_findKey {t : TypeId} {k : Value} (hp : plainKey P t k = true) {es es' : List MapEntry} {q : Option (Nat × Value)} (he : ERelL r es es') (h : findKey k es 0 = some q) :
    ∃ q', (Instr.findKey t k es').run P w = .ok q' w ∧ (q = none ∧ q' = none ∨ ∃ j v v' e, q = some (j, v) ∧ q' = some (j, v') ∧ VRel r v v' ∧ es[j]? = some e ∧ e.val = v ∧ keySame k e.key = some true) := by
  cases hu : under P t with
  | none => unfold plainKey at hp; rw [hu] at hp; simp at hp
  | some d =>
    obtain ⟨q', h1, h2⟩ := findNow_rel (r := r) hu hp he h
    refine ⟨q', by simp [Instr.findKey, run_under hu, h1], ?_⟩
    rcases h2 with h2 | ⟨j, v, v', e0, h3, h4, h5, h6, h7, h8⟩
    · exact .inl h2
    · exact .inr ⟨j, v, v', e0, h3, h4, h5, by simpa using h7, h8⟩

omit ev in
theorem map_of (hm : HRel P r m w) {id : Nat} {e : Ent} {es : List MapEntry} {c : Nat} (hr : r id = some e) (hg : mapAt m.t id = some (es, c)) :
    ∃ es' : Array MapEntry, w.heap[e.b]? = some (.map es' c) ∧ ERelL r es es'.toList := hm.obj _ _ _ hr (mapAt_get hg)

omit ev in
theorem run_getObj_map {b c : Nat} {es : Array MapEntry} (h : w.heap[b]? = some (.map es c)) : (getObj b).run P w = .ok (.map es c) w := by
  simp [getObj, Sem.run, h]

theorem sim_lookup (hP : PGood P) (hm : HRel P r m w) {t : TypeId} {mp k : Operand} {ok : Bool} (ho : o.op = .lookup t mp k ok) (h : lookupR P m.t rs t mp k ok = some res) : OpSim P r m w (execOp a.eval o) A res := by
  have hx := ev mp
  have hk := ev k
  unfold lookupR at h
  simp only at h
  generalize hcv : a.eval mp = vc at hx
  generalize hck : a.eval k = kc at hk
  generalize eval P rs mp = v at h hx
  generalize eval P rs k = kv at h hk
  cases hu : under P t with
  | none => simp [hu] at h
  | some d =>
    cases d <;> try (simp [hu] at h; done)
    rename_i kt el
    have go : ∀ (es : List MapEntry) (es' : Array MapEntry), ERelL r es es'.toList → plainKey P kt kv = true →
        (∀ q', (Instr.findKey kt kv es'.toList).run P w = .ok q' w → ∀ z, (q' = none → zeroT P el = some z) →
          (Instr.lookup t vc kv ok).run P w = .ok (match q' with | some (_, v) => if ok then .tuple #[v, .bool true] else v | none => if ok then .tuple #[z, .bool false] else z) w) →
        (match findKey kv es 0, zeroT P el with
          | some (some (_, v)), _ => some (OpR.val (if ok then .tuple #[v, .bool true] else v))
          | some none, some z => some (.val (if ok then .tuple #[z, .bool false] else z))
          | _, _ => none) = some res → OpSim P r m w (execOp a.eval o) A res := by
      intro es es' her hp hrun hres
      have hkk : kc = kv := by
        rcases plainKey_spec hp with ⟨j, n, _, rfl⟩ | ⟨s, _, rfl⟩ | ⟨q, _, rfl⟩ <;> cases hk <;> rfl
      cases hf : findKey kv es 0 with
      | none => simp [hf] at hres
      | some q =>
        obtain ⟨q', h1, h2⟩ := run_findKey (P := P) (w := w) hp her hf
        rcases h2 with ⟨rfl, rfl⟩ | ⟨j, v1, v2, e0, rfl, rfl, h5, _⟩
        · cases hz : zeroT P el with
          | none => simp [hf, hz] at hres
          | some z =>
            simp only [hf, hz] at hres
            cases hres
            have hzr : VRel r z z := goodZ_rel (hP.zero _ _ hz)
            refine OpSim.mk (v' := if ok then .tuple #[z, .bool false] else z) ?_ ?_
            · cases ok
              · exact hzr
              · exact .tuple (.cons hzr (.cons (.bool _) .nil))
            · have := hrun none h1 z (fun _ => hz)
              simp only [execOp, ho, hcv, hck, hkk, Sem.run_bind, this, Result.andThen_ok, Sem.run_pure]
        · simp only [hf] at hres
          cases hres
          refine OpSim.mk (v' := if ok then .tuple #[v2, .bool true] else v2) ?_ ?_
          · cases ok
            · exact h5
            · exact .tuple (.cons h5 (.cons (.bool _) .nil))
          · have := hrun (some (j, v2)) h1 undef (fun hh => by cases hh)
            simp only [execOp, ho, hcv, hck, hkk, Sem.run_bind, this, Result.andThen_ok, Sem.run_pure]
    cases hx <;> try (simp [hu] at h; done)
    case mnil =>
      simp only [hu] at h
      split at h
      · rename_i hp
        refine go [] #[] .nil hp ?_ h
        intro q' hq z hz
        simp only [Instr.lookup, Sem.run_bind, run_under hu, Result.andThen_ok, Sem.run_pure, run_checkKey _ hp, hq]
        cases q' with
        | none => simp [run_zeroT (hz rfl)]
        | some x => simp
      · cases h
    case map id e hr =>
      simp only [hu] at h
      split at h
      · rename_i hp
        cases hmap : mapAt m.t id with
        | none => simp [hmap] at h
        | some q =>
          obtain ⟨es, c⟩ := q
          simp only [hmap] at h
          obtain ⟨es', h1, h2⟩ := map_of hm hr hmap
          refine go es es' h2 hp ?_ h
          intro q' hq z hz
          simp only [Instr.lookup, Sem.run_bind, run_under hu, Result.andThen_ok, Sem.run_pure, run_getObj_map h1, run_checkKey _ hp, hq]
          cases q' with
          | none => simp [run_zeroT (hz rfl)]
          | some x => simp
      · cases h

end
end Go.Am
