import Derived.Test.YthnjfgjbgblciaaGreatDoorAm14
import Derived.Room.AppendAny
/-
  THE ABSTRACT MACHINE, 15: append.
-/
namespace Go.Am

section
variable {P : Program} {r : Ren} {m : Mem} {w : World} {rs : Rs} {a : Act} {o : Oper} {A : Prop} {res : OpR}

theorem head_cells_drawn (hm : HRel P r m w) {size k : Nat} {x x' : Value} {new : List Value} (hx : VRel r x x') (hk : ∀ n, lenOfV x = some n → k ≤ n) (h : headCells m.t size k x = some new) :
    ∃ new', (∀ d, (Builtin.firstCells size k x').run P { w with drawn := d } = .ok ⟨new'⟩ { w with drawn := d }) ∧ VRelL r new new' := by
  unfold headCells at h
  cases hx <;> try (cases h; done)
  case snil =>
    simp only at h
    split at h <;> cases h
    exact ⟨[], fun _ => rfl, .nil⟩
  case string s =>
    cases h
    refine ⟨cellsOfBytes (s.data.toList.take k), fun d => ?_, ?_⟩
    · simp only [Builtin.firstCells, Sem.run_pure, bytes_extract]
      congr 1
      apply Array.ext'
      simp [cellsOfBytes]
    · exact VRelL.map _ _ (fun _ => .int _ _) _
  case slice id off off' len cap cap' sp e hr hoff hc hle hsx hrm hb47 ha =>
    simp only at h
    obtain ⟨l', h1, h2, h3⟩ := cells_of hm hr h
    refine ⟨l', fun d => ?_, h2⟩
    simp only [Builtin.firstCells]
    have hkl : k ≤ len := hk len rfl
    rcases Nat.eq_zero_or_pos cap with hz | hz
    · have : k = 0 := by omega
      subst this
      have : l' = [] := List.eq_nil_of_length_eq_zero (by rw [h1]; simp)
      subst this
      rw [Nat.zero_mul]; rfl
    · rw [hoff hz, ← h1]
      exact run_loadCells (P := P) (w := { w with drawn := d }) h3

theorem src_rel (hm : HRel P r m w) {tx : TypeId} {dx : TypeDesc} {size k : Nat} {x x' : Value} {new : List Value} (hx : VRel r x x') (hd : under P tx = some dx) (hk : lenOfV x = some k) (hs : srcOk dx size x = true)
    (h : headCells m.t size k x = some new) (h1 : allL oneC new = true) : ∃ new', Src P size tx x' k new' w ∧ VRelL r new new' := by
  obtain ⟨new', h2, h3⟩ := head_cells_drawn (P := P) hm hx (fun n hn => by rw [hk] at hn; cases hn; exact Nat.le_refl _) h
  refine ⟨new', ⟨?_, fun w' => by rw [lenOf_rel hx hk]; rfl, h2 w.drawn, h2 (w.drawn + 1), ?_, ?_⟩, h3⟩
  · unfold srcOk at hs
    split at hs
    · simp only [Bool.and_eq_true] at hs
      refine .inr ?_
      cases dx <;> first | (simp at hs; done) | exact hd
    · refine .inl ?_
      cases dx <;> first | (simp at hs; done) | exact ⟨_, hd⟩
    · cases hs
  · rw [← h3.length]
    unfold headCells at h
    split at h
    · exact cellsAt_length h
    · split at h
      · rename_i h0; cases h; subst h0; simp
      · cases h
    · rename_i s
      cases h
      simp only [srcOk, Bool.and_eq_true] at hs
      have : size = 1 := by simpa using hs.2
      subst this
      simp only [lenOfV, Option.some.injEq] at hk
      subst hk
      simp [cellsOfBytes]
    · cases h
  · exact oneC_relL h1 h3

/-- Room behind a slice: the cells are stored there. -/
theorem run_append_there {t tx ty e : TypeId} {i : TypeInfo} (ht : P.underlying t = some (.slice e)) (hi : P.info? e = some i) {b off sLen sCap : Nat} {x : Value} {n : Nat} {news : List Value} (hs : Src P i.size tx x n news w)
    (hroom : sLen + n ≤ sCap) {w' : World} (hst : (storeCells ⟨b, off + sLen * i.size, none⟩ news).run P w = .ok () w') :
    (Builtin.append_ #[t, tx] ty #[.slice (some ⟨b, off, none⟩) sLen sCap, x]).run P w = .ok (.slice (some ⟨b, off, none⟩) (sLen + n) sCap) w' := by
  rcases hs.kind with ⟨e', hk⟩ | hk <;> simp [Builtin.append_, run_underlying ht, run_underlying hk, sizeOf, typeInfo, hi, hs.len, hroom, hs.cells, add_none, hst]

theorem run_append_nothing' {t tx ty e : TypeId} {i : TypeInfo} (ht : P.underlying t = some (.slice e)) (hi : P.info? e = some i) {x : Value} {news : List Value} (hs : Src P i.size tx x 0 news w) :
    (Builtin.append_ #[t, tx] ty #[.slice none 0 0, x]).run P w = .ok (.slice none 0 0) w := by
  rcases hs.kind with ⟨e', hk⟩ | hk <;> simp [Builtin.append_, run_underlying ht, run_underlying hk, sizeOf, typeInfo, hi, hs.len, hs.cells]

theorem info_of {t : TypeId} {s b : Nat} {z : Value} (hs : sizeT P t = some s) (hb : bytesT P t = some b) (hz : zeroT P t = some z) : ∃ i, P.info? t = some i ∧ i.size = s ∧ i.bytes = b ∧ i.zero = some z := by
  unfold sizeT at hs
  unfold bytesT at hb
  replace hz := (zeroT_info hz).2
  cases hi : P.info? t with
  | none => simp [hi] at hs
  | some i => simp [hi] at hs hb hz; exact ⟨i, rfl, hs, hb, hz⟩

/-- A row that goes on in its block under a new number. -/
theorem HRel.goOn (hm : HRel P r m w) {id off' : Nat} {e : Ent} {o : AObj} {x : AObj} {w' : World} (hr : r id = some e) (hg : m.t.get id = some o) (hro : ro o = false) (hw : Wrote w w' e.b)
    (ho : ORel P (r.with m.n ⟨e.b, off', e.size, e.es, e.bs⟩) ⟨e.b, off', e.size, e.es, e.bs⟩ w'.heap[e.b]? x) :
    HRel P (r.with m.n ⟨e.b, off', e.size, e.es, e.bs⟩) ⟨(m.t.set id none).set m.n (some x), m.n + 1⟩ w' ∧
    Evo r m w (r.with m.n ⟨e.b, off', e.size, e.es, e.bs⟩) ⟨(m.t.set id none).set m.n (some x), m.n + 1⟩ w' := by
  have hx : Ext r (r.with m.n ⟨e.b, off', e.size, e.es, e.bs⟩) := Ext.with _ (hm.fresh _ (Nat.le_refl _))
  have hidn : id < m.n := by
    rcases Nat.lt_or_ge id m.n with hh | hh
    · exact hh
    · rw [hm.fresh _ hh] at hr; cases hr
  have get' : ∀ i y, ((m.t.set id none).set m.n (some x)).get i = some y → (i = m.n ∧ y = x) ∨ (i ≠ m.n ∧ i ≠ id ∧ m.t.get i = some y) := by
    intro i y hy
    by_cases e1 : i = m.n
    · subst e1; rw [Tri.get_set_same] at hy; cases hy; exact .inl ⟨rfl, rfl⟩
    · rw [Tri.get_set_ne _ _ e1] at hy
      by_cases e2 : i = id
      · subst e2; rw [Tri.get_set_same] at hy; cases hy
      · rw [Tri.get_set_ne _ _ e2] at hy; exact .inr ⟨e1, e2, hy⟩
  refine ⟨⟨?_, ?_, ?_, ?_, ?_, ?_⟩, ⟨hx, Nat.le_succ _, hw.os, hw.tape, hw.output, by rw [hw.size]; exact Nat.le_refl _, ?_, ?_, fun i hi hn => ⟨by rw [Ren.with_ne _ _ (by omega)]; exact hn, by
    rw [Tri.get_set_ne _ _ (by omega), Tri.get_set_ne _ _ (fun he => by subst he; rw [hr] at hn; cases hn)]⟩⟩⟩
  · intro i e' y hi hy
    rcases get' i y hy with ⟨rfl, rfl⟩ | ⟨h1, h2, h3⟩
    · rw [Ren.with_same] at hi; cases hi; exact ho
    · rw [Ren.with_ne _ _ h1] at hi
      rw [hw.other _ (hm.inj _ _ _ _ _ _ h2 hi hr h3 hg)]
      exact (hm.obj _ _ _ hi h3).mono hx
  · intro i j e1 e2 o1 o2 hne hi hj gi gj
    rcases get' i o1 gi with ⟨rfl, _⟩ | ⟨h1, h2, h3⟩
    · rcases get' j o2 gj with ⟨rfl, _⟩ | ⟨k1, k2, k3⟩
      · exact absurd rfl hne
      · rw [Ren.with_same] at hi; cases hi
        rw [Ren.with_ne _ _ k1] at hj
        exact fun hh => hm.inj _ _ _ _ _ _ k2 hj hr k3 hg hh.symm
    · rcases get' j o2 gj with ⟨rfl, _⟩ | ⟨k1, k2, k3⟩
      · rw [Ren.with_same] at hj; cases hj
        rw [Ren.with_ne _ _ h1] at hi
        have := hm.inj _ _ _ _ _ _ h2 hi hr h3 hg
        exact this
      · rw [Ren.with_ne _ _ h1] at hi; rw [Ren.with_ne _ _ k1] at hj
        exact hm.inj _ _ _ _ _ _ hne hi hj h3 k3
  · intro i e' hi
    rw [hw.size]
    by_cases e1 : i = m.n
    · subst e1; rw [Ren.with_same] at hi; cases hi; have := hm.lt _ _ hr; exact this
    · rw [Ren.with_ne _ _ e1] at hi; exact hm.lt _ _ hi
  · intro i hi
    have hi : m.n + 1 ≤ i := hi
    rw [Ren.with_ne _ _ (by omega)]; exact hm.fresh _ (by omega)
  · intro i hi
    have hi : m.n + 1 ≤ i := hi
    show ((m.t.set id none).set m.n (some x)).get i = none
    rw [Tri.get_set_ne _ _ (by omega), Tri.get_set_ne _ _ (by omega)]; exact hm.none_ _ (by omega)
  · intro g hg'
    obtain ⟨e', h1, h2⟩ := hm.glob g hg'
    exact ⟨e', hx _ _ h1, h2⟩
  · intro b hb hn
    exact hw.other b fun he => hn ⟨id, e, o, hr, hg, hro, he.symm⟩
  · rintro b ⟨i, e', y, hi, hy, hry, hb⟩
    rcases get' i y hy with ⟨rfl, rfl⟩ | ⟨h1, h2, h3⟩
    · rw [Ren.with_same] at hi; cases hi
      exact .inr ⟨id, e, o, hr, hg, hro, hb⟩
    · rw [Ren.with_ne _ _ h1] at hi
      exact .inr ⟨i, e', y, hi, h3, hry, hb⟩

theorem BSim.alloc {s : Sem Value} {x : AObj} {v v' : Value} {w' : World} {e : Ent} (h : s.run P w = .ok v' w') (h3 : HRel P (r.with m.n e) ⟨m.t.set m.n (some x), m.n + 1⟩ w') (h4 : Evo r m w (r.with m.n e) ⟨m.t.set m.n (some x), m.n + 1⟩ w')
    (h5 : VRel (r.with m.n e) (numbered m.n v) v') : BSim P r m w s A (.alloc x v) :=
  .inr ⟨.value v', w', e, by simp only [Sem.run_bind, h, Result.andThen_ok, Sem.run_pure], h3, h4, h5⟩

theorem BSim.stepNew {s : Sem Value} {x : AObj} {t : Tr} {v v' : Value} {w' : World} {e : Ent} (h : s.run P w = .ok v' w') (h3 : HRel P (r.with m.n e) ⟨t.set m.n (some x), m.n + 1⟩ w') (h4 : Evo r m w (r.with m.n e) ⟨t.set m.n (some x), m.n + 1⟩ w')
    (h5 : VRel (r.with m.n e) (numbered m.n v) v') : BSim P r m w s A (.stepNew v t x) :=
  .inr ⟨.value v', w', e, by simp only [Sem.run_bind, h, Result.andThen_ok, Sem.run_pure], h3, h4, h5⟩

/-- No room behind a slice: a new row, or the answer that no memory bears it. -/
theorem grow_row (hP : PGood P) {t tx ty el : TypeId} {dx : TypeDesc} {i : TypeInfo} {z : Value} (hut : under P t = some (.slice el)) (_hux : under P tx = some dx) (hi : P.info? el = some i) (hz : i.zero = some z) (hzt : zeroT P el = some z) (_hd : ∀ kk, dx ≠ .int kk)
    (hb0 : 0 < i.bytes) {base : Option Addr} {len cap k : Nat} {x' : Value} {olds olds' new new' : List Value} (hold : (Builtin.firstCells i.size len (.slice base len cap)).run P w.drew = .ok olds'.toArray w.drew)
    (hro : VRelL r olds olds') (hol : olds.length = len * i.size) (hs : Src P i.size tx x' k new' w) (hrn : VRelL r new new') (_hlenx : Builtin.lenOf x' = Sem.pure k) (hg : cap < len + k) (hroom : (len + k) * i.bytes ≤ 140737488355328)
    (m1 : Mem) (hm1 : HRel P r m1 w ∧ Evo r m w r m1 w) (hn1 : m1.n = m.n) (fz : Nat) :
    A ∨ ∃ w' e, (Builtin.append_ #[t, tx] ty #[.slice base len cap, x']).run P w = .ok (.slice (some ⟨w.heap.size, 0, none⟩) (len + k) (grownCap w (len + k) cap el)) w' ∧
      HRel P (r.with m.n e) ⟨m1.t.set m.n (some (.row (olds ++ new) el fz)), m.n + 1⟩ w' ∧ Evo r m w (r.with m.n e) ⟨m1.t.set m.n (some (.row (olds ++ new) el fz)), m.n + 1⟩ w' ∧
      VRel (r.with m.n e) (.slice (some ⟨m.n, 0, none⟩) (len + k) (len + k)) (.slice (some ⟨w.heap.size, 0, none⟩) (len + k) (grownCap w (len + k) cap el)) := by
  have h63 : ((len + k : Nat) : Int) ≤ 9223372036854775807 := by
    have : len + k ≤ (len + k) * i.bytes := Nat.le_mul_of_pos_right _ hb0
    omega
  have hfit : Builtin.nextslicecap (len + k) cap * i.bytes ≤ 281474976710656 := by
    have := Nat.mul_le_mul_right i.bytes (nextslicecap_le hg)
    rw [Nat.mul_assoc] at this
    omega
  have hrun := run_append_grow_src (P := P) w t tx ty el i z hut hi hz base len cap olds' hold x' k new' hs hg h63 hfit
  · right
    have hge := grownCap_ge w (len + k) cap el
    generalize grownCap w (len + k) cap el = g at *
    have hsz : sizeT P el = some i.size := by simp [sizeT, hi]
    have hbt : bytesT P el = some i.bytes := by simp [bytesT, hi]
    have hzl : z.cells.size = i.size := hP.zsize el z _ hzt hsz
    have hlen' : ((olds' ++ new').toArray ++ Builtin.zeroCells z.cells (g - (len + k))).toList.length = g * i.size := by
      have := hs.newsLen
      have h2 := hro.length
      simp only [Array.toList_append, List.length_append, Array.length_toList, Builtin.zeroCells, Array.size_map, Array.size_range, hzl]
      rw [this, ← h2, hol, ← Nat.add_mul, ← Nat.add_mul]
      congr 1; omega
    have hol2 : (olds ++ new).length = (len + k) * i.size := by rw [List.length_append, hol, hrn.length, hs.newsLen, Nat.add_mul]
    have := hm1.1.alloc (x := .row (olds ++ new) el fz) (ob := .cells ((olds' ++ new').toArray ++ Builtin.zeroCells z.cells (g - (len + k))) el) (e := ⟨w.heap.size, 0, g * i.size, i.size, i.bytes⟩) (w.drawn + 1) rfl ?_
    · rw [hn1] at this
      refine ⟨_, _, hrun, this.1, ?_, ?_⟩
      · exact hm1.2.trans this.2
      · refine VRel.slice (Ren.with_same _ _ _) (fun _ => rfl) hge (Nat.le_refl _) (fun h => by cases h) (by simp) trivial (by simp)
    · have hlen2 : ((olds' ++ new').toArray ++ Builtin.zeroCells z.cells (g - (len + k))).size = g * i.size := by rw [← Array.length_toList]; exact hlen'
      refine ⟨_, 0, 0, rfl, hlen2, ?_, ?_, ⟨fun _ _ _ h => by omega, fun _ => .inl rfl⟩, hsz, hbt, by simp⟩
      · rw [hlen2, hol2]; simp only [Nat.zero_add]; exact Nat.mul_le_mul_right _ hge
      · have hx : Ext r (r.with m1.n ⟨w.heap.size, 0, g * i.size, i.size, i.bytes⟩) := Ext.with _ (hm1.1.fresh _ (Nat.le_refl _))
        have e1 : ((((olds' ++ new').toArray ++ Builtin.zeroCells z.cells (g - (len + k))).toList.drop 0).take (olds ++ new).length) = olds' ++ new' := by
          rw [List.drop_zero, Array.toList_append, List.take_append_of_le_length (by simp [hro.length, hrn.length])]
          apply List.take_of_length_le
          simp [hro.length, hrn.length]
        rw [e1]
        exact (hro.append hrn).mono hx

theorem sim_append (hP : PGood P) (hm : HRel P r m w) {t tx : TypeId} {ty : TypeId} {s x s' x' : Value} (hs : VRel r s s') (hx : VRel r x x')
    (h : builtinR P m.t .append #[t, tx] ty [s, x] = some res) : BSim P r m w (Builtin.append_ #[t, tx] ty #[s', x']) A res := by
  simp only [builtinR] at h
  cases hut : under P t with
  | none => simp [hut] at h
  | some dt =>
    cases dt <;> try (simp [hut] at h; done)
    rename_i el
    cases hux : under P tx with
    | none => simp [hut, hux] at h
    | some dx =>
      cases hk : lenOfV x with
      | none => simp [hut, hux, hk] at h
      | some k =>
        simp only [hut, hux, hk] at h
        cases hsz : sizeT P el with
        | none => simp [hsz] at h
        | some size =>
          cases hby : bytesT P el with
          | none => simp [hsz, hby] at h
          | some bytes =>
            cases hz : zeroT P el with
            | none => simp [hsz, hby, hz] at h
            | some z =>
              simp only [hsz, hby, hz] at h
              split at h
              · cases h
              rename_i hnz
              split at h
              · cases h
              rename_i hso
              have hso : srcOk dx size x = true := by simpa using hso
              cases hh : headCells m.t size k x with
              | none => simp [hh] at h
              | some new =>
                simp only [hh] at h
                split at h
                · rename_i h1
                  obtain ⟨i, hi, hi1, hi2, hi3⟩ := info_of hsz hby hz
                  obtain ⟨new', hsrc, hnew⟩ := src_rel hm hx hux hk hso hh h1
                  subst hi1 hi2
                  have hnl : new.length = k * i.size := by rw [hnew.length]; exact hsrc.newsLen
                  have hd : ∀ kk, dx ≠ .int kk := by
                    rintro kk rfl
                    unfold srcOk at hso
                    split at hso <;> simp at hso
                  have hb0 : 0 < i.bytes := by omega
                  have hlenx : Builtin.lenOf x' = Sem.pure k := lenOf_rel hx hk
                  unfold appendCells at h
                  cases hs <;> try (cases h; done)
                  case snil =>
                    simp only at h
                    split at h
                    · rename_i hk0
                      subst hk0
                      cases h
                      refine BSim.val .snil (run_append_nothing' hut hi (news := new') hsrc)
                    · rename_i hk0
                      split at h
                      · rename_i hrm
                        cases h
                        rcases grow_row (A := A) hP (m := m) hut hux hi hi3 hz hd hb0 (base := none) (len := 0) (cap := 0) (olds := []) (olds' := []) (by rfl) .nil (by simp) hsrc hnew hlenx (by omega)
                          (by simpa [roomy] using hrm) m ⟨hm, Evo.refl r m w⟩ rfl 0 with hg | ⟨w', e, h2, h3, h4, h5⟩
                        · exact .inl hg
                        · rw [List.nil_append] at h3 h4
                          refine BSim.alloc h2 h3 h4 ?_
                          simp only [Nat.zero_add] at h5 ⊢
                          exact h5
                      · cases h
                  case slice id off off' len cap cap' sp e hr hoff hc hle hsx hrm2 hb47 ha =>
                    simp only at h
                    split at h
                    · rename_i hneed
                      split at h
                      · cases h
                      rename_i hfit
                      have hfit : rowFits P m.t id i.size = true := by simpa using hfit
                      cases hst : storeAt m.t id (off + len * i.size) new with
                      | none => simp [hst] at h
                      | some t' =>
                        simp [hst] at h; subst h
                        obtain ⟨w', h9, h10⟩ := store_row (P := P) hm hr hst hnew (off' := off' + len * i.size) (fun hne => by
                          have : 0 < cap := by
                            rcases Nat.eq_zero_or_pos cap with hz | hz
                            · exfalso
                              have hk0 : k = 0 := by omega
                              subst hk0
                              exact hne (List.eq_nil_of_length_eq_zero (by rw [hnl]; simp))
                            · exact hz
                          rw [hoff this]; omega)
                        refine BSim.step (run_append_there (P := P) hut hi hsrc (by omega) h9) h10 ?_
                        exact VRel.slice hr hoff hc hneed hsx hrm2 hb47 ha
                    · rename_i hneed
                      split at h
                      · rename_i hrmy
                        cases hrow : rowAt m.t id with
                        | none => simp [hrow] at h
                        | some q =>
                          obtain ⟨cs, tt, fz⟩ := q
                          simp only [hrow] at h
                          split at h
                          · rename_i hcond
                            obtain ⟨rfl, hc1, hc2, hc3⟩ := hcond
                            have hget := rowAt_get hrow
                            obtain ⟨c, lo, hi', o1, o2, o3, o4, o5, o6, o7, o8⟩ := hm.obj _ _ _ hr hget
                            have hes : e.es = i.size := by rw [o6] at hsz; exact Option.some.inj hsz
                            have hbs : e.bs = i.bytes := by rw [o7] at hby; exact Option.some.inj hby
                            have hcells : cellsAt m.t id off (len * i.size) = some ((cs.drop off).take (len * i.size)) := by
                              unfold cellsAt; rw [hrow]; simp only; rw [if_pos hc1]
                            obtain ⟨olds', q1, q2⟩ := head_cells_drawn (P := P) (x := .slice (some ⟨id, off, sp⟩) len cap) hm (size := i.size) (k := len) (VRel.slice hr hoff hc hle hsx hrm2 hb47 ha) (fun n hn => by cases hn; exact Nat.le_refl _) (by simpa [headCells] using hcells)
                            have hol := cellsAt_length hcells
                            have hrmy' : (len + k) * i.bytes ≤ 140737488355328 := by simpa [roomy] using hrmy
                            have hidn : id ≠ m.n := fun he => by rw [hm.fresh _ (by omega)] at hr; cases hr
                            split at h
                            · rename_i hsp1
                              cases h
                              have := hsx hsp1
                              subst this
                              rcases grow_row (A := A) hP (m := m) hut hux hi hi3 hz hd hb0 (base := some ⟨e.b, off', none⟩) (len := len) (cap := cap') (q1 _) q2 hol hsrc hnew hlenx (by omega)
                                hrmy' m ⟨hm, Evo.refl r m w⟩ rfl 0 with hg | ⟨w', e', h2, h3, h4, h5⟩
                              · exact .inl hg
                              · exact BSim.alloc h2 h3 h4 h5
                            · rename_i hsp1
                              cases h
                              have hcpos : 0 < cap := hc3.resolve_right hsp1
                              have ho' := hoff hcpos
                              subst ho'
                              by_cases hroom : len + k ≤ cap'
                              · have hbound : (len + k) * i.size ≤ cap' * i.size := Nat.mul_le_mul_right _ hroom
                                rw [hes] at hrm2
                                rw [Nat.add_mul] at hbound
                                obtain ⟨w', c', s1, s2, s3, s4⟩ := run_storeCells (P := P) e.b (e.d + off + len * i.size) new' 0 w c o1 (by rw [← hnew.length, hnl]; omega) (fun x hx hx2 => o5.free x (by omega) (by omega)) hsrc.one
                                have hcl : c'.toList.length = c.toList.length := by rw [s3]; apply splice_length; simp; rw [← hnew.length, hnl]; omega
                                simp only [Array.length_toList] at hcl
                                have hnl' : new'.length = k * i.size := by rw [← hnew.length, hnl]
                                have hgo := hm.goOn (off' := e.d + off) (x := .row ((cs.drop off).take (len * i.size) ++ new) tt (2 * (fz / 2 - off) + fz % 2)) hr hget (by simp only [ro]; cases hb : Nat.blt cs.length (fz / 2) with | false => rfl | true => (have := Nat.le_of_ble_eq_true hb; omega)) s4 (by
                                  refine ⟨c', lo, hi', s2, by rw [hcl]; exact o2, ?_, ?_, ⟨fun x hx hx2 => o5.free x (by simp only at hx; omega) hx2, fun hev => by have := o5.even (by omega); simp only; omega⟩, o6, o7, ha⟩
                                  · simp only [List.length_append, hol, hnl]; rw [hcl]; omega
                                  · have hx : Ext r (r.with m.n ⟨e.b, e.d + off, e.size, e.es, e.bs⟩) := Ext.with _ (hm.fresh _ (Nat.le_refl _))
                                    refine VRelL.mono hx ?_
                                    have e1 : (c'.toList.drop (e.d + off)).take ((cs.drop off).take (len * i.size) ++ new).length = ((c.toList.drop (e.d + off)).take (len * i.size)) ++ new' := by
                                      rw [List.length_append, hol, hnl, s3, Nat.add_zero]
                                      unfold splice
                                      rw [List.append_assoc, List.drop_append_of_le_length (by simp; omega), List.drop_take]
                                      rw [show e.d + off + len * i.size - (e.d + off) = len * i.size from by omega]
                                      have e2 : ((c.toList.drop (e.d + off)).take (len * i.size)).length = len * i.size := by simp; omega
                                      rw [List.take_append, e2, List.take_of_length_le (by rw [e2]; omega)]
                                      congr 1
                                      rw [show len * i.size + k * i.size - len * i.size = k * i.size from by omega, ← hnl', List.take_left]
                                    rw [e1]
                                    refine VRelL.append ?_ hnew
                                    have := (o4.drop off).take (len * i.size)
                                    rw [List.drop_take, List.drop_drop, List.take_take] at this
                                    rwa [Nat.min_eq_left (by omega)] at this)
                                refine BSim.stepNew (run_append_there (P := P) hut hi hsrc hroom s1) hgo.1 hgo.2 ?_
                                exact VRel.slice (id := m.n) (off := 0) (e := ⟨e.b, e.d + off, e.size, e.es, e.bs⟩) (Ren.with_same _ _ _) (fun _ => rfl) (by omega) (Nat.le_refl _) (fun h => by cases h) (by rw [hes]; exact hrm2) hb47 ha
                              · rcases grow_row (A := A) hP (m := m) hut hux hi hi3 hz hd hb0 (base := some ⟨e.b, e.d + off, none⟩) (len := len) (cap := cap') (q1 _) q2 hol hsrc hnew hlenx (by omega)
                                  hrmy' ⟨m.t.set id none, m.n⟩ (hm.kill hr) rfl (2 * (fz / 2 - off) + fz % 2) with hg | ⟨w', e', h2, h3, h4, h5⟩
                                · exact .inl hg
                                · exact BSim.stepNew h2 h3 h4 h5
                          · cases h
                      · cases h
                · cases h

end
end Go.Am
