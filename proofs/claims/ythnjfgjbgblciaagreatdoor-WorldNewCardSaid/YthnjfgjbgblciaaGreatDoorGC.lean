import Derived.Test.YthnjfgjbgblciaaGreatDoorGB
import Derived.Room.AppendAny
import Derived.Lib.ConvBytes
import Derived.Room.MakeNoZero
import Derived.Lib.UnsafeStr
import Derived.KernelRfl
import Derived.Laws.Externs
import Derived.Orders
/-
  THE ABSTRACT MACHINE, 15: append.
-/
namespace Go.Am

section
variable {P : Program} {r : Ren} {m : Mem} {w : World} {rs : Rs} {a : Act} {o : Oper} {A : Prop} {res : OpR}

theorem head_cells_drawn (hm : HRel P r m w) {size k : Nat} {x x' : Value} {new : List Value} (hx : VRel r x x') (hk : ∀ n, lenOfV x = some n → k ≤ n) (h : headCells m.t size k x = some new) :
    ∃ new', (∀ d, (Builtin.firstCells size k x').run P { w with drawn := d } = .ok ⟨new'⟩ { w with drawn := d }) ∧ VRelL r new new' := by
  unfold headCells at h
  cases hx <;> try (cases h; done)
  case snil =>
    simp only at h
    split at h <;> cases h
    exact ⟨[], fun _ => rfl, .nil⟩
  case string s =>
    cases h
    refine ⟨cellsOfBytes (s.data.toList.take k), fun d => ?_, ?_⟩
    · simp only [Builtin.firstCells, Sem.run_pure, bytes_extract]
      congr 1
      apply Array.ext'
      simp [cellsOfBytes]
    · exact VRelL.map _ _ (fun _ => .int _ _) _
  case slice id off off' len cap cap' sp e hr hoff hc hle hsx hrm hb47 ha =>
    simp only at h
    obtain ⟨l', h1, h2, h3⟩ := cells_of hm hr h
    refine ⟨l', fun d => ?_, h2⟩
    simp only [Builtin.firstCells]
    have hkl : k ≤ len := hk len rfl
    rcases Nat.eq_zero_or_pos cap with hz | hz
    · have : k = 0 := by omega
      subst this
      have : l' = [] := List.eq_nil_of_length_eq_zero (by rw [h1]; simp)
      subst this
      rw [Nat.zero_mul]; rfl
    · rw [hoff hz, ← h1]
      exact run_loadCells (P := P) (w := { w with drawn := d }) h3

theorem src_rel (hm : HRel P r m w) {tx : TypeId} {dx : TypeDesc} {size k : Nat} {x x' : Value} {new : List Value} (hx : VRel r x x') (hd : under P tx = some dx) (hk : lenOfV x = some k) (hs : srcOk dx size x = true)
    (h : headCells m.t size k x = some new) (h1 : allL oneC new = true) : ∃ new', Src P size tx x' k new' w ∧ VRelL r new new' := by
  obtain ⟨new', h2, h3⟩ := head_cells_drawn (P := P) hm hx (fun n hn => by rw [hk] at hn; cases hn; exact Nat.le_refl _) h
  refine ⟨new', ⟨?_, fun w' => by rw [lenOf_rel hx hk]; rfl, h2 w.drawn, h2 (w.drawn + 1), ?_, ?_⟩, h3⟩
  · unfold srcOk at hs
    split at hs
    · simp only [Bool.and_eq_true] at hs
      refine .inr ?_
      cases dx <;> first | (simp at hs; done) | exact hd
    · refine .inl ?_
      cases dx <;> first | (simp at hs; done) | exact ⟨_, hd⟩
    · cases hs
  · rw [← h3.length]
    unfold headCells at h
    split at h
    · exact cellsAt_length h
    · split at h
      · rename_i h0; cases h; subst h0; simp
      · cases h
    · rename_i s
      cases h
      simp only [srcOk, Bool.and_eq_true] at hs
      have : size = 1 := by simpa using hs.2
      subst this
      simp only [lenOfV, Option.some.injEq] at hk
      subst hk
      simp [cellsOfBytes]
    · cases h
  · exact oneC_relL h1 h3

/-- Room behind a slice: the cells are stored there. -/
theorem run_append_there {t tx ty e : TypeId} {i : TypeInfo} (ht : P.underlying t = some (.slice e)) (hi : P.info? e = some i) {b off sLen sCap : Nat} {x : Value} {n : Nat} {news : List Value} (hs : Src P i.size tx x n news w)
    (hroom : sLen + n ≤ sCap) {w' : World} (hst : (storeCells ⟨b, off + sLen * i.size, none⟩ news).run P w = .ok () w') :
    (Builtin.append_ #[t, tx] ty #[.slice (some ⟨b, off, none⟩) sLen sCap, x]).run P w = .ok (.slice (some ⟨b, off, none⟩) (sLen + n) sCap) w' := by
  rcases hs.kind with ⟨e', hk⟩ | hk <;> simp [Builtin.append_, run_underlying ht, run_underlying hk, sizeOf, typeInfo, hi, hs.len, hroom, hs.cells, add_none, hst]

theorem run_append_nothing' {t tx ty e : TypeId} {i : TypeInfo} (ht : P.underlying t = some (.slice e)) (hi : P.info? e = some i) {x : Value} {news : List Value} (hs : Src P i.size tx x 0 news w) :
    (Builtin.append_ #[t, tx] ty #[.slice none 0 0, x]).run P w = .ok (.slice none 0 0) w := by
  rcases hs.kind with ⟨e', hk⟩ | hk <;> simp [Builtin.append_, run_underlying ht, run_underlying hk, sizeOf, typeInfo, hi, hs.len, hs.cells]

theorem info_of {t : TypeId} {s b : Nat} {z : Value} (hs : sizeT P t = some s) (hb : bytesT P t = some b) (hz : zeroT P t = some z) : ∃ i, P.info? t = some i ∧ i.size = s ∧ i.bytes = b ∧ i.zero = some z := by
  unfold sizeT at hs
  unfold bytesT at hb
  replace hz := (zeroT_info hz).2
  cases hi : P.info? t with
  | none => simp [hi] at hs
  | some i => simp [hi] at hs hb hz; exact ⟨i, rfl, hs, hb, hz⟩

/-- A row that goes on in its block under a new number. -/
theorem HRel.goOn (hm : HRel P r m w) {id off' : Nat} {e : Ent} {o : AObj} {x : AObj} {w' : World} (hr : r id = some e) (hg : m.t.get id = some o) (hro : ro o = false) (hw : Wrote w w' e.b)
    (ho : ORel P (r.with m.n ⟨e.b, off', e.size, e.es, e.bs⟩) ⟨e.b, off', e.size, e.es, e.bs⟩ w'.heap[e.b]? x) :
    HRel P (r.with m.n ⟨e.b, off', e.size, e.es, e.bs⟩) ⟨(m.t.set id none).set m.n (some x), m.n + 1⟩ w' ∧
    Evo r m w (r.with m.n ⟨e.b, off', e.size, e.es, e.bs⟩) ⟨(m.t.set id none).set m.n (some x), m.n + 1⟩ w' := by
  have hx : Ext r (r.with m.n ⟨e.b, off', e.size, e.es, e.bs⟩) := Ext.with _ (hm.fresh _ (Nat.le_refl _))
  have hidn : id < m.n := by
    rcases Nat.lt_or_ge id m.n with hh | hh
    · exact hh
    · rw [hm.fresh _ hh] at hr; cases hr
  have get' : ∀ i y, ((m.t.set id none).set m.n (some x)).get i = some y → (i = m.n ∧ y = x) ∨ (i ≠ m.n ∧ i ≠ id ∧ m.t.get i = some y) := by
    intro i y hy
    by_cases e1 : i = m.n
    · subst e1; rw [Tri.get_set_same] at hy; cases hy; exact .inl ⟨rfl, rfl⟩
    · rw [Tri.get_set_ne _ _ e1] at hy
      by_cases e2 : i = id
      · subst e2; rw [Tri.get_set_same] at hy; cases hy
      · rw [Tri.get_set_ne _ _ e2] at hy; exact .inr ⟨e1, e2, hy⟩
  refine ⟨⟨?_, ?_, ?_, ?_, ?_, ?_⟩, ⟨hx, Nat.le_succ _, hw.os, hw.tape, hw.output, by rw [hw.size]; exact Nat.le_refl _, ?_, ?_, fun i hi hn => ⟨by rw [Ren.with_ne _ _ (by omega)]; exact hn, by
    rw [Tri.get_set_ne _ _ (by omega), Tri.get_set_ne _ _ (fun he => by subst he; rw [hr] at hn; cases hn)]⟩⟩⟩
  · intro i e' y hi hy
    rcases get' i y hy with ⟨rfl, rfl⟩ | ⟨h1, h2, h3⟩
    · rw [Ren.with_same] at hi; cases hi; exact ho
    · rw [Ren.with_ne _ _ h1] at hi
      rw [hw.other _ (hm.inj _ _ _ _ _ _ h2 hi hr h3 hg)]
      exact (hm.obj _ _ _ hi h3).mono hx
  · intro i j e1 e2 o1 o2 hne hi hj gi gj
    rcases get' i o1 gi with ⟨rfl, _⟩ | ⟨h1, h2, h3⟩
    · rcases get' j o2 gj with ⟨rfl, _⟩ | ⟨k1, k2, k3⟩
      · exact absurd rfl hne
      · rw [Ren.with_same] at hi; cases hi
        rw [Ren.with_ne _ _ k1] at hj
        exact fun hh => hm.inj _ _ _ _ _ _ k2 hj hr k3 hg hh.symm
    · rcases get' j o2 gj with ⟨rfl, _⟩ | ⟨k1, k2, k3⟩
      · rw [Ren.with_same] at hj; cases hj
        rw [Ren.with_ne _ _ h1] at hi
        have := hm.inj _ _ _ _ _ _ h2 hi hr h3 hg
        exact this
      · rw [Ren.with_ne _ _ h1] at hi; rw [Ren.with_ne _ _ k1] at hj
        exact hm.inj _ _ _ _ _ _ hne hi hj h3 k3
  · intro i e' hi
    rw [hw.size]
    by_cases e1 : i = m.n
    · subst e1; rw [Ren.with_same] at hi; cases hi; have := hm.lt _ _ hr; exact this
    · rw [Ren.with_ne _ _ e1] at hi; exact hm.lt _ _ hi
  · intro i hi
    have hi : m.n + 1 ≤ i := hi
    rw [Ren.with_ne _ _ (by omega)]; exact hm.fresh _ (by omega)
  · intro i hi
    have hi : m.n + 1 ≤ i := hi
    show ((m.t.set id none).set m.n (some x)).get i = none
    rw [Tri.get_set_ne _ _ (by omega), Tri.get_set_ne _ _ (by omega)]; exact hm.none_ _ (by omega)
  · intro g hg'
    obtain ⟨e', h1, h2⟩ := hm.glob g hg'
    exact ⟨e', hx _ _ h1, h2⟩
  · intro b hb hn
    exact hw.other b fun he => hn ⟨id, e, o, hr, hg, hro, he.symm⟩
  · rintro b ⟨i, e', y, hi, hy, hry, hb⟩
    rcases get' i y hy with ⟨rfl, rfl⟩ | ⟨h1, h2, h3⟩
    · rw [Ren.with_same] at hi; cases hi
      exact .inr ⟨id, e, o, hr, hg, hro, hb⟩
    · rw [Ren.with_ne _ _ h1] at hi
      exact .inr ⟨i, e', y, hi, h3, hry, hb⟩

theorem BSim.alloc {s : Sem Value} {x : AObj} {v v' : Value} {w' : World} {e : Ent} (h : s.run P w = .ok v' w') (h3 : HRel P (r.with m.n e) ⟨m.t.set m.n (some x), m.n + 1⟩ w') (h4 : Evo r m w (r.with m.n e) ⟨m.t.set m.n (some x), m.n + 1⟩ w')
    (h5 : VRel (r.with m.n e) (numbered m.n v) v') : BSim P r m w s A (.alloc x v) :=
  .inr ⟨.value v', w', e, by simp only [Sem.run_bind, h, Result.andThen_ok, Sem.run_pure], h3, h4, h5⟩

theorem BSim.stepNew {s : Sem Value} {x : AObj} {t : Tr} {v v' : Value} {w' : World} {e : Ent} (h : s.run P w = .ok v' w') (h3 : HRel P (r.with m.n e) ⟨t.set m.n (some x), m.n + 1⟩ w') (h4 : Evo r m w (r.with m.n e) ⟨t.set m.n (some x), m.n + 1⟩ w')
    (h5 : VRel (r.with m.n e) (numbered m.n v) v') : BSim P r m w s A (.stepNew v t x) :=
  .inr ⟨.value v', w', e, by simp only [Sem.run_bind, h, Result.andThen_ok, Sem.run_pure], h3, h4, h5⟩

/-- No room behind a slice: a new row, or the answer that no memory bears it. -/
theorem grow_row (hP : PGood P) {t tx ty el : TypeId} {dx : TypeDesc} {i : TypeInfo} {z : Value} (hut : under P t = some (.slice el)) (_hux : under P tx = some dx) (hi : P.info? el = some i) (hz : i.zero = some z) (hzt : zeroT P el = some z) (_hd : ∀ kk, dx ≠ .int kk)
    (hb0 : 0 < i.bytes) {base : Option Addr} {len cap k : Nat} {x' : Value} {olds olds' new new' : List Value} (hold : (Builtin.firstCells i.size len (.slice base len cap)).run P w.drew = .ok olds'.toArray w.drew)
    (hro : VRelL r olds olds') (hol : olds.length = len * i.size) (hs : Src P i.size tx x' k new' w) (hrn : VRelL r new new') (_hlenx : Builtin.lenOf x' = Sem.pure k) (hg : cap < len + k) (hroom : (len + k) * i.bytes ≤ 140737488355328)
    (m1 : Mem) (hm1 : HRel P r m1 w ∧ Evo r m w r m1 w) (hn1 : m1.n = m.n) (fz : Nat) :
    A ∨ ∃ w' e, (Builtin.append_ #[t, tx] ty #[.slice base len cap, x']).run P w = .ok (.slice (some ⟨w.heap.size, 0, none⟩) (len + k) (grownCap w (len + k) cap el)) w' ∧
      HRel P (r.with m.n e) ⟨m1.t.set m.n (some (.row (olds ++ new) el fz)), m.n + 1⟩ w' ∧ Evo r m w (r.with m.n e) ⟨m1.t.set m.n (some (.row (olds ++ new) el fz)), m.n + 1⟩ w' ∧
      VRel (r.with m.n e) (.slice (some ⟨m.n, 0, none⟩) (len + k) (len + k)) (.slice (some ⟨w.heap.size, 0, none⟩) (len + k) (grownCap w (len + k) cap el)) := by
  have h63 : ((len + k : Nat) : Int) ≤ 9223372036854775807 := by
    have : len + k ≤ (len + k) * i.bytes := Nat.le_mul_of_pos_right _ hb0
    omega
  have hfit : Builtin.nextslicecap (len + k) cap * i.bytes ≤ 281474976710656 := by
    have := Nat.mul_le_mul_right i.bytes (nextslicecap_le hg)
    rw [Nat.mul_assoc] at this
    omega
  have hrun := run_append_grow_src (P := P) w t tx ty el i z hut hi hz base len cap olds' hold x' k new' hs hg h63 hfit
  · right
    have hge := grownCap_ge w (len + k) cap el
    generalize grownCap w (len + k) cap el = g at *
    have hsz : sizeT P el = some i.size := by simp [sizeT, hi]
    have hbt : bytesT P el = some i.bytes := by simp [bytesT, hi]
    have hzl : z.cells.size = i.size := hP.zsize el z _ hzt hsz
    have hlen' : ((olds' ++ new').toArray ++ Builtin.zeroCells z.cells (g - (len + k))).toList.length = g * i.size := by
      have := hs.newsLen
      have h2 := hro.length
      simp only [Array.toList_append, List.length_append, Array.length_toList, Builtin.zeroCells, Array.size_map, Array.size_range, hzl]
      rw [this, ← h2, hol, ← Nat.add_mul, ← Nat.add_mul]
      congr 1; omega
    have hol2 : (olds ++ new).length = (len + k) * i.size := by rw [List.length_append, hol, hrn.length, hs.newsLen, Nat.add_mul]
    have := hm1.1.alloc (x := .row (olds ++ new) el fz) (ob := .cells ((olds' ++ new').toArray ++ Builtin.zeroCells z.cells (g - (len + k))) el) (e := ⟨w.heap.size, 0, g * i.size, i.size, i.bytes⟩) (w.drawn + 1) rfl ?_
    · rw [hn1] at this
      refine ⟨_, _, hrun, this.1, ?_, ?_⟩
      · exact hm1.2.trans this.2
      · refine VRel.slice (Ren.with_same _ _ _) (fun _ => rfl) hge (Nat.le_refl _) (fun h => by cases h) (by simp) trivial (by simp)
    · have hlen2 : ((olds' ++ new').toArray ++ Builtin.zeroCells z.cells (g - (len + k))).size = g * i.size := by rw [← Array.length_toList]; exact hlen'
      refine ⟨_, 0, 0, rfl, hlen2, ?_, ?_, ⟨fun _ _ _ h => by omega, fun _ => .inl rfl⟩, hsz, hbt, by simp⟩
      · rw [hlen2, hol2]; simp only [Nat.zero_add]; exact Nat.mul_le_mul_right _ hge
      · have hx : Ext r (r.with m1.n ⟨w.heap.size, 0, g * i.size, i.size, i.bytes⟩) := Ext.with _ (hm1.1.fresh _ (Nat.le_refl _))
        have e1 : ((((olds' ++ new').toArray ++ Builtin.zeroCells z.cells (g - (len + k))).toList.drop 0).take (olds ++ new).length) = olds' ++ new' := by
          rw [List.drop_zero, Array.toList_append, List.take_append_of_le_length (by simp [hro.length, hrn.length])]
          apply List.take_of_length_le
          simp [hro.length, hrn.length]
        rw [e1]
        exact (hro.append hrn).mono hx

theorem sim_append (hP : PGood P) (hm : HRel P r m w) {t tx : TypeId} {ty : TypeId} {s x s' x' : Value} (hs : VRel r s s') (hx : VRel r x x')
    (h : builtinR P m.t .append #[t, tx] ty [s, x] = some res) : BSim P r m w (Builtin.append_ #[t, tx] ty #[s', x']) A res := by
  simp only [builtinR] at h
  cases hut : under P t with
  | none => simp [hut] at h
  | some dt =>
    cases dt <;> try (simp [hut] at h; done)
    rename_i el
    cases hux : under P tx with
    | none => simp [hut, hux] at h
    | some dx =>
      cases hk : lenOfV x with
      | none => simp [hut, hux, hk] at h
      | some k =>
        simp only [hut, hux, hk] at h
        cases hsz : sizeT P el with
        | none => simp [hsz] at h
        | some size =>
          cases hby : bytesT P el with
          | none => simp [hsz, hby] at h
          | some bytes =>
            cases hz : zeroT P el with
            | none => simp [hsz, hby, hz] at h
            | some z =>
              simp only [hsz, hby, hz] at h
              split at h
              · cases h
              rename_i hnz
              split at h
              · cases h
              rename_i hso
              have hso : srcOk dx size x = true := by simpa using hso
              cases hh : headCells m.t size k x with
              | none => simp [hh] at h
              | some new =>
                simp only [hh] at h
                split at h
                · rename_i h1
                  obtain ⟨i, hi, hi1, hi2, hi3⟩ := info_of hsz hby hz
                  obtain ⟨new', hsrc, hnew⟩ := src_rel hm hx hux hk hso hh h1
                  subst hi1 hi2
                  have hnl : new.length = k * i.size := by rw [hnew.length]; exact hsrc.newsLen
                  have hd : ∀ kk, dx ≠ .int kk := by
                    rintro kk rfl
                    unfold srcOk at hso
                    split at hso <;> simp at hso
                  have hb0 : 0 < i.bytes := by omega
                  have hlenx : Builtin.lenOf x' = Sem.pure k := lenOf_rel hx hk
                  unfold appendCells at h
                  cases hs <;> try (cases h; done)
                  case snil =>
                    simp only at h
                    split at h
                    · rename_i hk0
                      subst hk0
                      cases h
                      refine BSim.val .snil (run_append_nothing' hut hi (news := new') hsrc)
                    · rename_i hk0
                      split at h
                      · rename_i hrm
                        cases h
                        rcases grow_row (A := A) hP (m := m) hut hux hi hi3 hz hd hb0 (base := none) (len := 0) (cap := 0) (olds := []) (olds' := []) (by rfl) .nil (by simp) hsrc hnew hlenx (by omega)
                          (by simpa [roomy] using hrm) m ⟨hm, Evo.refl r m w⟩ rfl 0 with hg | ⟨w', e, h2, h3, h4, h5⟩
                        · exact .inl hg
                        · rw [List.nil_append] at h3 h4
                          refine BSim.alloc h2 h3 h4 ?_
                          simp only [Nat.zero_add] at h5 ⊢
                          exact h5
                      · cases h
                  case slice id off off' len cap cap' sp e hr hoff hc hle hsx hrm2 hb47 ha =>
                    simp only at h
                    split at h
                    · rename_i hneed
                      split at h
                      · cases h
                      rename_i hfit
                      have hfit : rowFits P m.t id i.size = true := by simpa using hfit
                      cases hst : storeAt m.t id (off + len * i.size) new with
                      | none => simp [hst] at h
                      | some t' =>
                        simp [hst] at h; subst h
                        obtain ⟨w', h9, h10⟩ := store_row (P := P) hm hr hst hnew (off' := off' + len * i.size) (fun hne => by
                          have : 0 < cap := by
                            rcases Nat.eq_zero_or_pos cap with hz | hz
                            · exfalso
                              have hk0 : k = 0 := by omega
                              subst hk0
                              exact hne (List.eq_nil_of_length_eq_zero (by rw [hnl]; simp))
                            · exact hz
                          rw [hoff this]; omega)
                        refine BSim.step (run_append_there (P := P) hut hi hsrc (by omega) h9) h10 ?_
                        exact VRel.slice hr hoff hc hneed hsx hrm2 hb47 ha
                    · rename_i hneed
                      split at h
                      · rename_i hrmy
                        cases hrow : rowAt m.t id with
                        | none => simp [hrow] at h
                        | some q =>
                          obtain ⟨cs, tt, fz⟩ := q
                          simp only [hrow] at h
                          split at h
                          · rename_i hcond
                            obtain ⟨rfl, hc1, hc2, hc3⟩ := hcond
                            have hget := rowAt_get hrow
                            obtain ⟨c, lo, hi', o1, o2, o3, o4, o5, o6, o7, o8⟩ := hm.obj _ _ _ hr hget
                            have hes : e.es = i.size := by rw [o6] at hsz; exact Option.some.inj hsz
                            have hbs : e.bs = i.bytes := by rw [o7] at hby; exact Option.some.inj hby
                            have hcells : cellsAt m.t id off (len * i.size) = some ((cs.drop off).take (len * i.size)) := by
                              unfold cellsAt; rw [hrow]; simp only; rw [if_pos hc1]
                            obtain ⟨olds', q1, q2⟩ := head_cells_drawn (P := P) (x := .slice (some ⟨id, off, sp⟩) len cap) hm (size := i.size) (k := len) (VRel.slice hr hoff hc hle hsx hrm2 hb47 ha) (fun n hn => by cases hn; exact Nat.le_refl _) (by simpa [headCells] using hcells)
                            have hol := cellsAt_length hcells
                            have hrmy' : (len + k) * i.bytes ≤ 140737488355328 := by simpa [roomy] using hrmy
                            have hidn : id ≠ m.n := fun he => by rw [hm.fresh _ (by omega)] at hr; cases hr
                            split at h
                            · rename_i hsp1
                              cases h
                              have := hsx hsp1
                              subst this
                              rcases grow_row (A := A) hP (m := m) hut hux hi hi3 hz hd hb0 (base := some ⟨e.b, off', none⟩) (len := len) (cap := cap') (q1 _) q2 hol hsrc hnew hlenx (by omega)
                                hrmy' m ⟨hm, Evo.refl r m w⟩ rfl 0 with hg | ⟨w', e', h2, h3, h4, h5⟩
                              · exact .inl hg
                              · exact BSim.alloc h2 h3 h4 h5
                            · rename_i hsp1
                              cases h
                              have hcpos : 0 < cap := hc3.resolve_right hsp1
                              have ho' := hoff hcpos
                              subst ho'
                              by_cases hroom : len + k ≤ cap'
                              · have hbound : (len + k) * i.size ≤ cap' * i.size := Nat.mul_le_mul_right _ hroom
                                rw [hes] at hrm2
                                rw [Nat.add_mul] at hbound
                                obtain ⟨w', c', s1, s2, s3, s4⟩ := run_storeCells (P := P) e.b (e.d + off + len * i.size) new' 0 w c o1 (by rw [← hnew.length, hnl]; omega) (fun x hx hx2 => o5.free x (by omega) (by omega)) hsrc.one
                                have hcl : c'.toList.length = c.toList.length := by rw [s3]; apply splice_length; simp; rw [← hnew.length, hnl]; omega
                                simp only [Array.length_toList] at hcl
                                have hnl' : new'.length = k * i.size := by rw [← hnew.length, hnl]
                                have hgo := hm.goOn (off' := e.d + off) (x := .row ((cs.drop off).take (len * i.size) ++ new) tt (2 * (fz / 2 - off) + fz % 2)) hr hget (by simp only [ro]; cases hb : Nat.blt cs.length (fz / 2) with | false => rfl | true => (have := Nat.le_of_ble_eq_true hb; omega)) s4 (by
                                  refine ⟨c', lo, hi', s2, by rw [hcl]; exact o2, ?_, ?_, ⟨fun x hx hx2 => o5.free x (by simp only at hx; omega) hx2, fun hev => by have := o5.even (by omega); simp only; omega⟩, o6, o7, ha⟩
                                  · simp only [List.length_append, hol, hnl]; rw [hcl]; omega
                                  · have hx : Ext r (r.with m.n ⟨e.b, e.d + off, e.size, e.es, e.bs⟩) := Ext.with _ (hm.fresh _ (Nat.le_refl _))
                                    refine VRelL.mono hx ?_
                                    have e1 : (c'.toList.drop (e.d + off)).take ((cs.drop off).take (len * i.size) ++ new).length = ((c.toList.drop (e.d + off)).take (len * i.size)) ++ new' := by
                                      rw [List.length_append, hol, hnl, s3, Nat.add_zero]
                                      unfold splice
                                      rw [List.append_assoc, List.drop_append_of_le_length (by simp; omega), List.drop_take]
                                      rw [show e.d + off + len * i.size - (e.d + off) = len * i.size from by omega]
                                      have e2 : ((c.toList.drop (e.d + off)).take (len * i.size)).length = len * i.size := by simp; omega
                                      rw [List.take_append, e2, List.take_of_length_le (by rw [e2]; omega)]
                                      congr 1
                                      rw [show len * i.size + k * i.size - len * i.size = k * i.size from by omega, ← hnl', List.take_left]
                                    rw [e1]
                                    refine VRelL.append ?_ hnew
                                    have := (o4.drop off).take (len * i.size)
                                    rw [List.drop_take, List.drop_drop, List.take_take] at this
                                    rwa [Nat.min_eq_left (by omega)] at this)
                                refine BSim.stepNew (run_append_there (P := P) hut hi hsrc hroom s1) hgo.1 hgo.2 ?_
                                exact VRel.slice (id := m.n) (off := 0) (e := ⟨e.b, e.d + off, e.size, e.es, e.bs⟩) (Ren.with_same _ _ _) (fun _ => rfl) (by omega) (Nat.le_refl _) (fun h => by cases h) (by rw [hes]; exact hrm2) hb47 ha
                              · rcases grow_row (A := A) hP (m := m) hut hux hi hi3 hz hd hb0 (base := some ⟨e.b, e.d + off, none⟩) (len := len) (cap := cap') (q1 _) q2 hol hsrc hnew hlenx (by omega)
                                  hrmy' ⟨m.t.set id none, m.n⟩ (hm.kill hr) rfl (2 * (fz / 2 - off) + fz % 2) with hg | ⟨w', e', h2, h3, h4, h5⟩
                                · exact .inl hg
                                · exact BSim.stepNew h2 h3 h4 h5
                          · cases h
                      · cases h
                · cases h

end
end Go.Am
/-
  THE ABSTRACT MACHINE, 16: a string's bytes as a slice; the library's entries; calls.
-/
namespace Go.Am

section
variable {P : Program} {r : Ren} {m : Mem} {w : World} {rs : Rs} {a : Act} {o : Oper} {A : Prop} {res : OpR}

theorem convert_cases {t : Tr} {src dst : TypeId} {x : Operand} (h : convertR P t rs src dst x = some res) : (∃ v, res = .val v) ∨ ∃ e s, under P src = some .string ∧ under P dst = some (.slice e) ∧ eval P rs x = .string s ∧
    under P e = some (.int .u8) ∧ sizeT P e = some 1 ∧ res = .alloc (.row (cellsOfBytes s.data.toList) e 1) (.slice (some ⟨0, 0, none⟩) s.size s.size) := by
  unfold convertR at h
  simp only at h
  split at h
  case h_3 e s h1 h2 h3 =>
    right
    cases hue : under P e with
    | none => simp [hue] at h
    | some d =>
      cases d <;> (try simp [hue] at h)
      rename_i k
      cases k <;> (try simp at h)
      obtain ⟨h1', rfl⟩ := h
      exact ⟨e, s, h1, h2, h3, hue, h1', rfl⟩
  all_goals
    left
    first
    | (cases h; done)
    | (cases h; exact ⟨_, rfl⟩)
    | (split at h
       · first | (cases h; exact ⟨_, rfl⟩) | (obtain ⟨_, _, rfl⟩ := Option.map_eq_some_iff.1 h; exact ⟨_, rfl⟩) | (split at h <;> cases h <;> exact ⟨_, rfl⟩)
       · cases h)

variable (ev : ∀ x, VRel r (eval P rs x) (a.eval x))
include ev

theorem sim_convert (hm : HRel P r m w) {src dst : TypeId} {x : Operand} (ho : o.op = .convert src dst x) (h : convertR P m.t rs src dst x = some res) : OpSim P r m w (execOp a.eval o) A res := by
  rcases convert_cases h with ⟨v, rfl⟩ | ⟨e, s, h1, h2, h3, h4, h5, rfl⟩
  · exact sim_convert_val ev hm ho h
  · have hx := ev x
    rw [h3] at hx
    generalize hcv : a.eval x = vc at hx
    cases hx
    obtain ⟨b, hb⟩ := bytes_of_size h5
    have hc := Lib.run_convert_string_bytes (P := P) w src dst e s h1 h2 h4
    have hge := grownCap_ge w s.size 0 e
    have hsz : (Lib.bytesCells w e s).size = grownCap w s.size 0 e := by
      simp [Lib.bytesCells]
      have : s.data.size = s.size := rfl
      omega
    have hcl : (cellsOfBytes s.data.toList).length = s.size := by simp [cellsOfBytes]
    have htk : (Lib.bytesCells w e s).toList.take s.size = cellsOfBytes s.data.toList := by
      simp only [Lib.bytesCells, Array.toList_append, Array.toList_map]
      rw [List.take_left' (by simp)]; rfl
    let ob : Obj := .cells (Lib.bytesCells w e s) e ((Lib.bytesCells w e s).size, (Lib.bytesCells w e s).size + 1)
    have hw : Lib.bytesWorld w e s = { w with heap := w.heap.push ob, drawn := w.drawn + 1 } := by
      have hheap : (Lib.bytesWorld w e s).heap = w.heap.push ob := by
        apply Array.ext
        · rw [Lib.bytesWorld_size]; simp
        · intro i hi hi2
          have hi3 : i < w.heap.size + 1 := by rw [← Lib.bytesWorld_size w e s]; exact hi
          have : (Lib.bytesWorld w e s).heap[i]? = (w.heap.push ob)[i]? := by
            rcases Nat.lt_or_ge i w.heap.size with hlt | hge'
            · rw [Lib.bytesWorld_at_old w e s i hlt, Array.getElem?_push, if_neg (by omega)]
            · have : i = w.heap.size := by omega
              subst this
              rw [Lib.bytesWorld_at_new]; simp [ob]
          rw [Array.getElem?_eq_getElem hi, Array.getElem?_eq_getElem hi2] at this
          exact Option.some.inj this
      have : Lib.bytesWorld w e s = { w with heap := (Lib.bytesWorld w e s).heap, drawn := w.drawn + 1 } := by
        simp [Lib.bytesWorld, World.freeze, World.alloc, World.drew, -World.alloc_eq, -World.drew_eq]
      rw [this, hheap]
    have hh := hm.alloc (x := .row (cellsOfBytes s.data.toList) e 1) (ob := ob) (e := ⟨w.heap.size, 0, (Lib.bytesCells w e s).size, 1, b⟩) (w.drawn + 1) rfl (by
      refine ⟨Lib.bytesCells w e s, _, _, rfl, rfl, by rw [hcl, hsz]; simpa using hge, ?_, ⟨fun x _ hx h => by simp only at hx; omega, fun h => by cases h⟩, h5, hb, by simp⟩
      rw [hcl, List.drop_zero, htk]
      exact VRelL.map _ _ (fun _ => .int _ _) _)
    refine OpSim.mkAlloc (v' := .slice (some ⟨w.heap.size, 0, none⟩) s.size (grownCap w s.size 0 e)) (w' := Lib.bytesWorld w e s) ?_ (by rw [hw]; exact hh) (slice_new hge (Nat.le_refl _) (fun h => by cases h) (by rw [hsz, Nat.mul_one]; exact Nat.le_refl _) trivial)
    simp only [execOp, ho, hcv, Sem.run_bind, hc, Result.andThen_ok, Sem.run_pure]

end
end Go.Am
/-
  THE ABSTRACT MACHINE, 17: the library's entries without a body; calls.
-/
namespace Go.Am

theorem find_noEscape {fn : Func} (h : fn.name = "internal/abi.NoEscape") : Extern.find fn = some Extern.AbiNoEscape.same := by
  cases fn; simp only at h; subst h; kernel_rfl
theorem find_makeNoZero {fn : Func} (h : fn.name = "internal/bytealg.MakeNoZero") : Extern.find fn = some (Extern.BytealgMakeNoZero.makeNoZero fn.params fn.resultTypes) := by
  cases fn; simp only at h; subst h; kernel_rfl
theorem find_cmpstring {fn : Func} (h : fn.name = "internal/bytealg.abigen_runtime_cmpstring") : Extern.find fn = some Extern.BytealgCompare.compare := by
  cases fn; simp only at h; subst h; kernel_rfl

theorem find_cons (p : Nat → Bool) (n : Nat) : (List.range (n + 1)).find? p = if p 0 then some 0 else ((List.range n).find? fun i => p (i + 1)).map (· + 1) := by
  rw [List.range_succ_eq_map, List.find?_cons]
  cases hp : p 0 with
  | true => simp
  | false => simp [List.find?_map, Function.comp_def]

/-- What the model's entry compares by. -/
def cmpF (x y : List UInt8) : Int :=
  match (List.range (min x.length y.length)).find? fun i => x.getD i 0 != y.getD i 0 with
  | some i => if x.getD i 0 < y.getD i 0 then -1 else 1
  | none => if x.length < y.length then -1 else if x.length > y.length then 1 else 0

theorem cmpF_eq : ∀ x y : List UInt8, cmpF x y = cmpL x y
  | [], [] => rfl
  | [], _ :: _ => rfl
  | _ :: _, [] => rfl
  | a :: x, b :: y => by
    have ih := cmpF_eq x y
    unfold cmpF at ih ⊢
    have hmin : min (a :: x).length (b :: y).length = min x.length y.length + 1 := by simp
    rw [hmin, find_cons]
    simp only [cmpL]
    by_cases hab : a = b
    · subst hab
      simp only [List.getD_cons_zero, bne_self_eq_false, Bool.false_eq_true, if_false, if_true, List.getD_cons_succ]
      rw [← ih]
      cases (List.range (min x.length y.length)).find? fun i => x.getD i 0 != y.getD i 0 with
      | none => simp
      | some i => simp
    · simp only [List.getD_cons_zero]
      rw [if_pos (by simpa using hab), if_neg hab]
      rfl

theorem get_getD (s : ByteArray) (i : Nat) : s[i]! = s.data.toList.getD i 0 := by
  rw [List.getD_eq_getElem?_getD, Array.getElem?_toList]
  by_cases hi : i < s.size
  · rw [getElem!_pos s i hi, Array.getElem?_eq_getElem (show i < s.data.size from hi)]; rfl
  · rw [getElem!_neg s i hi, Array.getElem?_eq_none (by have : s.data.size = s.size := rfl; omega)]; rfl

theorem cmp_eq (a b : ByteArray) : Extern.BytealgCompare.cmp a b = cmpL a.data.toList b.data.toList := by
  rw [← cmpF_eq]
  unfold Extern.BytealgCompare.cmp cmpF
  simp only [get_getD]
  have h1 : ∀ s : ByteArray, s.data.toList.length = s.size := fun s => by simp
  rw [h1, h1]
  cases List.find? (fun i => a.data.toList.getD i 0 != b.data.toList.getD i 0) (List.range (min a.size b.size)) <;> rfl

section
variable {P : Program} {r : Ren} {m : Mem} {w : World} {rs : Rs} {a : Act} {o : Oper} {A : Prop} {res : OpR}

theorem digits_bytes : ∀ (n t : Nat) (acc : Array Value), (∀ v ∈ acc.toList, v.oneCell' = true) → ∀ v ∈ (Extern.BytealgMakeNoZero.digits n t acc).toList, v.oneCell' = true
  | 0, _, _, h => h
  | n + 1, t, acc, h => by
    rw [Extern.BytealgMakeNoZero.digits]
    refine digits_bytes n _ _ fun v hv => ?_
    simp only [Array.toList_push, List.mem_append, List.mem_singleton] at hv
    rcases hv with hv | rfl
    · exact h v hv
    · rfl

theorem run_makeNoZero_any (ps rts : Array TypeId) (t e : TypeId) (h0 : rts[0]? = some t) (ht : under P t = some (.slice e)) (n : Nat) (hn : n ≤ 281474976710656) :
    ∃ cs : Array Value, (Extern.BytealgMakeNoZero.makeNoZero ps rts #[.int .i64 n]).run P w = .ok (.slice (some ⟨w.heap.size, 0, none⟩) n cs.size) { w with heap := w.heap.push (.cells cs e), drawn := w.drawn + 2 } ∧ n ≤ cs.size ∧ ∀ v ∈ cs.toList, v.oneCell' = true := by
  have ht : P.underlying t = some (.slice e) := ht
  have hdef : Extern.BytealgMakeNoZero.makeNoZero ps rts #[.int .i64 n] =
      (do
        let some t := rts[0]? | stuck "bytealg.MakeNoZero: no result type"
        let .slice elem ← underlying t | stuck "bytealg.MakeNoZero: slice type expected"
        if (n : Int) < 0 || (n : Int) > 2 ^ 48 then runtimePanic (.error "makeslice: len out of range")
        let cap ← choose (.appendCap (n : Int).toNat 0 elem)
        askRoom cap
        let bytes ← choose (.extern "internal/bytealg.MakeNoZero.bytes" 0)
        let a ← newRow elem (Extern.BytealgMakeNoZero.digits cap bytes #[])
        pure (.slice (some a) (n : Int).toNat cap)) := rfl
  refine ⟨Extern.BytealgMakeNoZero.digits (grownCap w n 0 e) ((Question.extern "internal/bytealg.MakeNoZero.bytes" 0).cut (w.tape (w.drawn + 1) (.extern "internal/bytealg.MakeNoZero.bytes" 0))) #[], ?_, ?_, digits_bytes _ _ _ (by simp)⟩
  · rw [hdef]
    have h1 : ¬ (n : Int) < 0 := by omega
    have h2 : ¬ (281474976710656 : Int) < (n : Int) := by omega
    simp [h0, run_underlying ht, h1, h2, Question.forced, newRow, Lib.size_digits, grownCap]
    rfl
  · rw [Lib.size_digits]
    simpa using grownCap_ge w n 0 e

theorem run_cmpstring (x y : ByteArray) : (Extern.BytealgCompare.compare #[.string x, .string y]).run P w = .ok (.int .i64 (cmpL x.data.toList y.data.toList)) w := by
  rw [← cmp_eq]; rfl

theorem OpSim.of_eq {s s' : Sem Next} (he : s = s') (h : OpSim P r m w s' A res) : OpSim P r m w s A res := he ▸ h

theorem sim_callFunc (hP : PGood P) (hm : HRel P r m w) {f : FuncId} {args args' : List Value} (hl : VRelL r args args') (h : callR P f args = some res) : OpSim P r m w (callFunc f ⟨args'⟩) A res := by
  unfold callR at h
  cases hf : P.funcs[f]? with
  | none => simp [hf] at h
  | some fn =>
    simp only [hf] at h
    split at h
    · rename_i hb
      unfold externR at h
      split at h
      · rename_i hname
        cases hl with
        | nil => cases h
        | cons hx ht =>
          cases ht with
          | cons _ _ => cases h
          | nil =>
            cases h
            refine OpSim.mk hx ?_
            rw [run_callFunc_extern hf (by rw [hname]; decide) hb (hP.next f fn hf hb (.inl hname)) (find_noEscape hname)]
            rfl
      · split at h
        · rename_i hname
          cases hl with
          | nil => cases h
          | cons hx ht =>
            rename_i x x' l l'
            cases ht with
            | cons _ _ => split at h <;> first | (cases h; done) | simp_all
            | nil =>
              split at h
              · rename_i n elem hq1 hq2
                simp only [List.cons.injEq, and_true] at hq1
                subst hq1
                cases hx
                split at h <;> cases h
                rename_i hc
                obtain ⟨hc1, hc2, hc3⟩ := hc
                cases hr0 : fn.resultTypes[0]? with
                | none => simp [hr0] at hq2
                | some t =>
                  simp only [hr0, Option.bind_some] at hq2
                  obtain ⟨k, rfl⟩ := Int.eq_ofNat_of_zero_le hc1
                  obtain ⟨b, hb'⟩ := bytes_of_size hc3
                  obtain ⟨cs, h1, h2, h3⟩ := run_makeNoZero_any (P := P) (w := w) fn.params fn.resultTypes t elem hr0 hq2 k (by simp [roomy] at hc2; omega)
                  have hh := hm.newRow (cs := List.replicate k junk) (cs' := cs.toList) hc3 hb' (by
                    rw [List.length_replicate]
                    refine VRelL.replicate_junk k _ (by simp; omega) fun v hv => h3 v (List.mem_of_mem_take hv)) (by simp; omega) (lo := 0) (hi := 0) rfl (w.drawn + 2)
                  refine OpSim.mkAlloc (v' := .slice (some ⟨w.heap.size, 0, none⟩) k cs.size) ?_ hh (slice_new h2 (Nat.le_refl _) (fun h => by cases h) (by simp) trivial)
                  rw [run_callFunc_extern hf (by rw [hname]; decide) hb (hP.next f fn hf hb (.inr (.inl hname))) (find_makeNoZero hname), h1]
                  rfl
              · cases h
        · split at h
          · rename_i hname
            cases hl with
            | nil => cases h
            | cons hx ht =>
              cases ht with
              | nil => split at h <;> simp_all
              | cons hy ht =>
                cases ht with
                | cons _ _ => split at h <;> simp_all
                | nil =>
                  split at h
                  · rename_i hq
                    simp only [List.cons.injEq, and_true] at hq
                    obtain ⟨rfl, rfl⟩ := hq
                    cases hx; cases hy
                    cases h
                    refine OpSim.mk (.int _ _) ?_
                    rw [run_callFunc_extern hf (by rw [hname]; decide) hb (hP.next f fn hf hb (.inr (.inr hname))) (find_cmpstring hname), run_cmpstring]
                    rfl
                  · cases h
          · cases h
    · rename_i hb
      split at h
      · cases h
      · rename_i hn
        cases h
        refine ⟨⟨args'⟩, ?_, hl⟩
        have hb' : fn.body ≠ none := by simpa using hb
        simp [callFunc, hf, hn, hb']

end
end Go.Am
/-
  THE ABSTRACT MACHINE, 18: the operation that calls.
-/
namespace Go.Am

section
variable {P : Program} {r : Ren} {m : Mem} {w : World} {rs : Rs} {a : Act} {o : Oper} {A : Prop} {res : OpR}

/-- In a row of one-cell elements, n of them lie side by side from anywhere on. -/
theorem fits_many {t : TypeId} {cells off n : Nat} (hs : sizeT P t = some 1) (hn : off + n ≤ cells) : liesAt P P.depth t (cells / P.cellsOf t) off t n = true := by
  have hc : P.cellsOf t = 1 := by
    unfold sizeT at hs
    unfold Program.cellsOf
    rw [hs]; rfl
  obtain ⟨d, hd⟩ : ∃ d, P.depth = d + 1 := ⟨_, rfl⟩
  unfold liesAt
  rw [hd]
  simp only [Bool.or_eq_true]
  left
  unfold Go.rowAt
  rw [hc]
  have hsl : sameLayout P (d + 1) t t = true := by
    unfold sameLayout
    simp
  simp [hsl, Nat.mod_one, hn]

theorem sim_unsafeSliceData {ts : Array TypeId} {ty : TypeId} {l l' : List Value} (hl : VRelL r l l') (h : builtinR P m.t .unsafeSliceData ts ty l = some res) : BSim P r m w (Builtin.unsafeSliceData_ ts ty ⟨l'⟩) A res := by
  simp only [builtinR] at h
  cases hl with
  | nil => cases h
  | cons hx ht =>
    cases ht with
    | cons _ _ => split at h <;> simp_all
    | nil =>
      cases hx <;> try (cases h; done)
      case snil =>
        cases h
        exact BSim.val .pnil (by rfl)
      case slice id off off' len cap cap' sp e hr hoff hc hle hsx hrm hb47 ha =>
        simp only at h
        split at h
        · rename_i hne
          cases h
          have : 0 < cap := by omega
          refine BSim.val (v' := .pointer (some ⟨e.b, off', none⟩)) ?_ (Lib.run_unsafeSliceData_row (P := P) w ts ty _ len cap' (by omega))
          rw [hoff this]
          exact .ptr hr
        · cases h

theorem run_loadBytesI : ∀ (l : List Int) (a : Addr) (acc : ByteArray), (∀ j x, l[j]? = some x → w.cell? (a.add j) = some (.int .u8 x)) →
    (loadBytes a acc l.length).run P w = .ok ⟨acc.data ++ (l.map fun n => UInt8.ofNat n.toNat).toArray⟩ w
  | [], a, acc, _ => by simp [loadBytes]
  | x :: l, a, acc, h => by
    have h0 : w.cell? a = some (.int .u8 x) := by
      have := h 0 x rfl
      simpa [Addr.add] using this
    have ih := run_loadBytesI l (a.add 1) (acc.push (UInt8.ofNat x.toNat)) (fun j y hy => by
      have := h (j + 1) y (by simpa using hy)
      have e : (a.add 1).add j = a.add (j + 1) := by
        unfold Addr.add
        by_cases hj : j = 0
        · subst hj; simp
        · simp [hj]; omega
      rw [e]; exact this)
    have hx : (x.toNat).toUInt8 = UInt8.ofNat x.toNat := rfl
    simp only [List.length_cons, loadBytes, Sem.run_bind, run_load, h0, Result.andThen, hx]
    rw [ih]
    congr 1
    apply ByteArray.ext
    simp [ByteArray.push]

theorem run_unsafeString_at {ts : Array TypeId} {pt ty e : TypeId} (ht0 : ts[0]? = some pt) {k : IntKind} (hp : under P pt = some (.pointer e)) (hc : sizeT P e = some 1) {g off cells : Nat} (hsh : w.shape? g = some (e, cells)) (l : List Int) (h0 : l.length ≠ 0) (hn : off + l.length ≤ cells) (h63 : l.length ≤ 9223372036854775807)
    (hcell : ∀ j x, l[j]? = some x → w.cell? ((⟨g, off, none⟩ : Addr).add j) = some (.int .u8 x)) :
    (Builtin.unsafeString_ ts ty #[.pointer (some ⟨g, off, none⟩), .int k l.length]).run P w = .ok (.string ⟨⟨l.map fun n => UInt8.ofNat n.toNat⟩⟩) (w.freeze ⟨g, off, none⟩ l.length) := by
  have hp : P.underlying pt = some (.pointer e) := hp
  have hlb := run_loadBytesI (P := P) l ⟨g, off, none⟩ .empty hcell
  have hlies := fits_many (P := P) (cells := cells) (off := off) hc hn
  have h63' : ¬ (9223372036854775807 : Int) < (l.length : Int) := by omega
  conv in Builtin.unsafeString_ _ _ _ => whnf
  have hmax : IntKind.i64.max = 9223372036854775807 := rfl
  have hneg : ¬ (l.length : Int) < 0 := by omega
  have h0' : l ≠ [] := by intro h; subst h; exact h0 rfl
  simp [hmax, ht0, h63', hneg, h0', variablesAt, hsh, elemOf, run_underlying hp, hlies, hlb]

theorem run_unsafeString_zero {ts : Array TypeId} {pt : TypeId} (h0 : ts[0]? = some pt) {ty : TypeId} {k : IntKind} {p : Option Addr} : (Builtin.unsafeString_ ts ty #[.pointer p, .int k 0]).run P w = .ok (.string .empty) w := by
  have hmax : IntKind.i64.max = 9223372036854775807 := rfl
  conv in Builtin.unsafeString_ _ _ _ => whnf
  cases p <;> simp [hmax, h0]

theorem sim_unsafeString (hm : HRel P r m w) {ts : Array TypeId} {ty : TypeId} {l l' : List Value} (hl : VRelL r l l') (h : builtinR P m.t .unsafeString ts ty l = some res) :
    BSim P r m w (Builtin.unsafeString_ ts ty ⟨l'⟩) A res := by
  simp only [builtinR] at h
  cases hpt : ts[0]? with
  | none => simp [hpt] at h
  | some pt =>
  simp only [hpt, Option.bind_some] at h
  split at h
  · cases hl with
    | cons hx ht =>
      cases ht with
      | cons hy ht =>
        cases ht
        cases hx; cases hy
        split at h <;> cases h
        rename_i hn0
        subst hn0
        exact BSim.val (.string _) (run_unsafeString_zero hpt)
  · rename_i aa k n u hu
    cases hl with
    | cons hx ht =>
      cases ht with
      | cons hy ht =>
        cases ht
        cases hx; cases hy
        rename_i id off e hr
        split at h
        · cases h
        rename_i hn
        split at h
        · rename_i hn0; subst hn0; cases h
          exact BSim.val (.string _) (run_unsafeString_zero hpt)
        rename_i hn0
        split at h
        · rename_i cs e2 fz hrow
          split at h
          · rename_i hc
            obtain ⟨rfl, hc2, hc3, hc4, hc5⟩ := hc
            split at h <;> cases h
            rename_i bs hbs
            obtain ⟨ns, h1, h2⟩ := bytesOfCells_ints hbs
            subst h2
            have hget := rowAt_get hrow
            obtain ⟨c, lo, hi, o1, o2, o3, o4, o5, o6, o7, o8⟩ := hm.obj _ _ _ hr hget
            have hsh := shape_of hm hr hrow
            simp only at hc3 hc4 hc5 h1
            have hnl : ns.length = n.toNat := by
              have := congrArg List.length h1
              simp at this; omega
            have hnn : n = (ns.length : Int) := by omega
            have hcells : ∀ j x, ns[j]? = some x → w.cell? ((⟨e.b, e.d + off, none⟩ : Addr).add j) = some (.int .u8 x) := by
              intro j x hj
              have hlt : j < ns.length := by
                rcases Nat.lt_or_ge j ns.length with h' | h'
                · exact h'
                · rw [List.getElem?_eq_none h'] at hj; cases hj
              have hv : cs[off + j]? = some (.int .u8 x) := by
                have : ((cs.drop off).take n.toNat)[j]? = some (.int .u8 x) := by rw [h1]; simp [hj]
                rw [List.getElem?_take, if_pos (by omega), List.getElem?_drop] at this
                exact this
              obtain ⟨v', hv1, hv2⟩ := cell_of hm hr hrow hv
              cases hv2
              rw [add_none]
              rw [← Nat.add_assoc] at hv1
              exact hv1
            have hrun := run_unsafeString_at (P := P) (w := w) (ty := ty) (k := k) hpt hu hc2 hsh.1 ns (by omega) (by omega) (by omega) hcells
            rw [← hnn] at hrun
            have hzero : ns.length ≠ 0 := by omega
            have hheap : (w.freeze ⟨e.b, e.d + off, none⟩ ns.length).heap = w.heap.modify e.b fun
                | .cells c elem (lo, hi) => .cells c elem (if lo == hi then (e.d + off, e.d + off + ns.length) else (min lo (e.d + off), max hi (e.d + off + ns.length)))
                | o => o := by
              unfold World.freeze
              rw [if_neg hzero]
              dsimp only
              congr 1
            have hw := hm.write (x := .row cs e2 (2 * max (fz / 2) (off + n.toNat))) (w' := w.freeze ⟨e.b, e.d + off, none⟩ ns.length) hr hget
              (by simp only [ro]; cases hb : Nat.blt cs.length (fz / 2) with | false => rfl | true => (have := Nat.le_of_ble_eq_true hb; omega))
              (by simp [World.freeze, hzero]) (by simp [World.freeze, hzero]) (by simp [World.freeze, hzero]) (by rw [hheap]; simp) (fun b hb => by rw [hheap, Array.getElem?_modify, if_neg (Ne.symm hb)]) (by
                have he5 := o5.even hc5
                refine ⟨c, (if lo == hi then (e.d + off, e.d + off + ns.length) else (min lo (e.d + off), max hi (e.d + off + ns.length))).1, (if lo == hi then (e.d + off, e.d + off + ns.length) else (min lo (e.d + off), max hi (e.d + off + ns.length))).2, ?_, o2, o3, o4, ⟨?_, ?_⟩, o6, o7, o8⟩
                · rw [hheap, Array.getElem?_modify, if_pos rfl, o1]; rfl
                · intro x hx hx2
                  by_cases hlh : lo = hi
                  · simp only [hlh, beq_self_eq_true, if_true]; omega
                  · have : (lo == hi) = false := by simpa using hlh
                    simp only [this, Bool.false_eq_true, if_false]; omega
                · intro _
                  right
                  by_cases hlh : lo = hi
                  · simp only [hlh, beq_self_eq_true, if_true]; omega
                  · have : (lo == hi) = false := by simpa using hlh
                    simp only [this, Bool.false_eq_true, if_false]; omega)
            exact BSim.step hrun hw (.string _)
          · cases h
        · cases h
  · cases h

theorem VRelL.evals (ev : ∀ x, VRel r (eval P rs x) (a.eval x)) (l : List Operand) : VRelL r (l.map (eval P rs)) (l.map a.eval) := VRelL.map _ _ ev l

theorem sim_builtin (hP : PGood P) (hm : HRel P r m w) (ev : ∀ x, VRel r (eval P rs x) (a.eval x)) {c : Call} {b : Builtin} (ho : o.op = .call c) (hc : c.callee = .builtin b)
    (h : builtinR P m.t b c.argTypes o.type (c.args.toList.map (eval P rs)) = some res) : OpSim P r m w (execOp a.eval o) False res := by
  obtain ⟨consts, hex⟩ := exec_builtin (a := a) ho hc
  have hl := VRelL.evals ev c.args.toList
  cases b <;> try (cases h; done)
  case append =>
    have h0 := h
    simp only [builtinR] at h
    split at h
    · rename_i t tx s x hq1 hq2
      obtain ⟨callee, args, argTypes⟩ := c
      obtain ⟨args⟩ := args
      obtain ⟨argTypes⟩ := argTypes
      simp only at hc hq1 hq2 h0 hex hl ⊢
      subst hc hq1
      match args, hq2 with
      | [u, v], hq2 =>
        simp only [List.map_cons, List.map_nil, List.cons.injEq, and_true] at hq2
        obtain ⟨rfl, rfl⟩ := hq2
        rw [hex]
        exact sim_append hP hm (ev u) (ev v) h0
    · cases h
  all_goals rw [hex]
  case cap => exact sim_cap hl h
  case clear => exact sim_clear hP hm hl h
  case copy => exact sim_copy hm hl h
  case delete => exact sim_delete hm hl h
  case len => exact sim_len hm hl h
  case max => exact sim_max hl h
  case min => exact sim_min hl h
  case unsafeSliceData => exact sim_unsafeSliceData hl h
  case unsafeString => exact sim_unsafeString hm hl h

theorem run_method {t : TypeId} {v : Value} {name : String} {mt : Go.Method} {f : FuncId} {b : Bool} {d : TypeDesc} (k : Nat) (hi : ((P.info? t).bind fun i => i.methods.toList.find? (·.name == name)) = some mt) (hd : under P t = some d) (hp : mt.path.toList = [])
    (hf : mt.func = some (f, b)) (hb : (b = true ∧ ∃ u, d = .pointer u) ∨ (b = false ∧ ∀ u, d ≠ .pointer u)) : (method (k + 1) t v name).run P w = .ok (f, v) w := by
  cases hi' : P.info? t with
  | none => simp [hi'] at hi
  | some i =>
    simp only [hi', Option.bind_some] at hi
    have hfind : i.methods.find? (·.name == name) = some mt := by rw [← hi]; simp
    unfold method
    rcases hb with ⟨rfl, u, rfl⟩ | ⟨rfl, hb⟩
    · simp [typeInfo, hi', hfind, hp, follow, hf, receiverAt, run_under hd, Place.get]
    · cases d <;> first | exact absurd rfl (hb _) | simp [typeInfo, hi', hfind, hp, follow, hf, receiverAt, run_under hd, Place.get]

theorem sim_callOp (hP : PGood P) (hm : HRel P r m w) (ev : ∀ x, VRel r (eval P rs x) (a.eval x)) {c : Call} (ho : o.op = .call c) (h : callOpR P m.t rs o.type c = some res) : OpSim P r m w (execOp a.eval o) False res := by
  unfold callOpR at h
  simp only at h
  have hl := VRelL.evals ev c.args.toList
  have hargs : c.args.map a.eval = ⟨c.args.toList.map a.eval⟩ := by apply Array.ext'; simp
  split at h
  · rename_i b hc
    exact sim_builtin hP hm ev ho hc h
  · rename_i f hc
    have hv := ev f
    split at h
    · rename_i fid first captured hf
      rw [hf] at hv
      generalize hcv : a.eval f = vf at hv
      cases hv with
      | func fn h1 h2 =>
        rename_i a' b'
        have hex : execOp a.eval o = callFunc fid ⟨a'.toList ++ c.args.toList.map a.eval ++ b'.toList⟩ := by
          have : (a' ++ (⟨c.args.toList.map a.eval⟩ : Array Value)) ++ b' = ⟨a'.toList ++ c.args.toList.map a.eval ++ b'.toList⟩ := by apply Array.ext'; simp
          simp only [execOp, ho, resolve, hc, hcv, hargs]
          rw [← this]
          rfl
        rw [hex]
        exact sim_callFunc hP hm ((h1.append hl).append h2) h
    · cases h
  · rename_i rv name hc
    have hv := ev rv
    split at h
    · rename_i t v hr
      rw [hr] at hv
      generalize hcv : a.eval rv = vr at hv
      cases hv with
      | iface _ hv =>
        rename_i v'
        split at h
        · rename_i mt d hmt hd
          have fin : ∀ {f : FuncId} {b : Bool}, mt.path.toList = [] → mt.func = some (f, b) → ((b = true ∧ ∃ u, d = .pointer u) ∨ (b = false ∧ ∀ u, d ≠ .pointer u)) → callR P f (v :: c.args.toList.map (eval P rs)) = some res →
              OpSim P r m w (execOp a.eval o) False res := by
            intro f b hp hf hb hcall
            have hs := sim_callFunc (A := False) hP hm (.cons hv hl) hcall
            have hx : ∀ w', (execOp a.eval o).run P w' = (callFunc f ⟨v' :: c.args.toList.map a.eval⟩).run P w' := by
              intro w'
              obtain ⟨k, hk⟩ : ∃ k, P.types.size + Made.depth = k + 1 := ⟨_, rfl⟩
              have hrm := run_method (P := P) (w := w') (v := v') k hmt hd hp hf hb
              have e1 : (#[Value.iface t v'] ++ (⟨c.args.toList.map a.eval⟩ : Array Value)).extract 1 (#[Value.iface t v'] ++ (⟨c.args.toList.map a.eval⟩ : Array Value)).size = ⟨c.args.toList.map a.eval⟩ := by
                apply Array.ext'; simp; exact List.take_of_length_le (by simp)
              have e2 : (#[v'] ++ (⟨c.args.toList.map a.eval⟩ : Array Value)) = ⟨v' :: c.args.toList.map a.eval⟩ := by apply Array.ext'; simp
              have hex : execOp a.eval o = callMethod (.iface t v') name ⟨c.args.toList.map a.eval⟩ := by
                simp only [execOp, ho, resolve, hc, hcv, hargs]
                show invoke (.fn (.method name) #[]) (#[Value.iface t v'] ++ ⟨c.args.toList.map a.eval⟩) = _
                unfold invoke
                have e0 : (#[Value.iface t v'] ++ (⟨c.args.toList.map a.eval⟩ : Array Value))[0]? = some (.iface t v') := by simp
                simp only [e0, e1]
              rw [hex]
              unfold callMethod
              simp only [Sem.run_bind]
              show ((Result.ok P w').andThen _) = _
              simp only [Result.andThen_ok, hk, hrm, e2]
            cases res <;> simp only [OpSim, hx] at hs ⊢ <;> exact hs
          split at h
          · rename_i f hp hf; exact fin hp hf (.inl ⟨rfl, _, rfl⟩) h
          · cases h
          · rename_i f hp hf hnp
            refine fin hp hf (.inr ⟨rfl, fun u hu => ?_⟩) h
            first | exact hnp _ hu | exact hnp _ rfl | (subst hu; exact hnp _ rfl)
          · cases h
        · cases h
    · cases h

end
end Go.Am
/-
  THE ABSTRACT MACHINE, 19: each operation.
-/
namespace Go.Am

section
variable {P : Program} {r : Ren} {m : Mem} {w : World} {rs : Rs} {a : Act} {o : Oper} {res : OpR}

theorem op_sim (hP : PGood P) {fl : List TypeId} (hfl : ∀ t, fl.contains t = true → FlatOk P t) (hm : HRel P r m w) (ev : ∀ x, VRel r (eval P rs x) (a.eval x)) (h : opR P fl m.t rs o = some res) :
    OpSim P r m w (execOp a.eval o) False res := by
  unfold opR at h
  simp only at h
  cases ho : o.op <;> simp only [ho] at h <;> try (cases h; done)
  case move x => cases h; exact sim_move ev ho
  case assign x => cases h; exact sim_assign ev ho
  case pick c x y => exact sim_pick ev ho h
  case alloc e => obtain ⟨_, _, rfl, hh⟩ := asim_alloc (r := r) (w := w) (a := a) hP ho h; exact hh.op hm
  case box e x => obtain ⟨_, _, rfl, hh⟩ := asim_box (w := w) ev ho h; exact hh.op hm
  case build t parts => exact sim_build ev hP ho h
  case buildSlice t len parts => obtain ⟨_, _, rfl, hh⟩ := asim_buildSlice (w := w) ev hP ho h; exact hh.op hm
  case load t x => exact sim_load ev hm ho h
  case store t p x => exact sim_store ev hm ho h
  case nilCheck x => exact sim_nilCheck ev ho h
  case binOp op t x y yt => exact sim_binOp ev hfl ho h
  case unOp op t x => exact sim_unOp ev ho h
  case convert src dst x => exact sim_convert ev hm ho h
  case makeInterface t x => exact sim_makeInterface ev ho h
  case makeFunc fn first cap => cases h; exact sim_makeFunc ev ho
  case makeMap t c =>
    cases c with
    | none => cases h; exact sim_makeMap hm ho
    | some _ => cases h
  case makeSlice t l c => obtain ⟨_, _, rfl, hh⟩ := asim_makeSlice (w := w) ev hP ho h; exact hh.op hm
  case slice t x lo hi mx => exact sim_slice ev hm ho h
  case fieldAddr s x f => exact sim_fieldAddr ev ho h
  case field t x f => exact sim_field ev ho h
  case indexAddr t x ix => exact sim_indexAddr ev ho h
  case index t x ix => exact sim_index ev ho h
  case lookup t x ix ok => exact sim_lookup ev hP hm ho h
  case mapUpdate t mp k x => exact sim_mapUpdate ev hm (.inl ho) h
  case insert t mp k x => exact sim_mapUpdate ev hm (.inr ho) h
  case range t x => exact sim_range_alloc ev hm ho h
  case next it s => exact sim_next ev hm ho h
  case entry it => exact sim_entry ev hm ho h
  case typeAssert x xt t ok => exact sim_typeAssert ev (fun z hz => goodZ_rel (hP.zero t z hz)) ho h
  case extract x i => exact sim_extract ev ho h
  case call c => exact sim_callOp hP hm ev ho h

end
end Go.Am
/-
  THE ABSTRACT MACHINE, 20: kinds of operations.
-/
namespace Go.Am

section
variable {P : Program} {r : Ren} {m : Mem} {w : World} {rs : Rs} {a : Act} {o : Oper} {res : OpR}

inductive Kind where
  | pure
  | look
  | alloc
  | hard
  deriving DecidableEq

/-- What an operation has to do with memory. -/
noncomputable def kindOf (P : Program) (o : Oper) : Kind :=
  match o.op with
  | .move _ | .assign _ | .pick _ _ _ | .build _ _ | .nilCheck _ | .fieldAddr _ _ _ | .indexAddr _ _ _ | .field _ _ _ | .index _ _ _ | .extract _ _ | .makeInterface _ _ | .makeFunc _ _ _ | .binOp _ _ _ _ _ | .unOp _ _ _ | .typeAssert _ _ _ _ => .pure
  | .load _ _ | .slice _ _ _ _ _ | .lookup _ _ _ _ | .entry _ => .look
  | .convert _ dst _ => match P.underlying dst with | some (.slice _) => .hard | _ => .look
  | .alloc _ | .box _ _ | .buildSlice _ _ _ | .makeSlice _ _ _ => .alloc
  | .call c => match c.callee with | .builtin .len | .builtin .cap | .builtin .min | .builtin .max | .builtin .unsafeSliceData => .look | _ => .hard
  | _ => .hard

theorem build_val {t : TypeId} {parts : Array (Nat × Operand)} (h : buildR P rs t parts = some res) : ∃ v, res = .val v := by
  unfold buildR at h
  simp only at h
  repeat' split at h
  all_goals first | (cases h; done) | (obtain ⟨_, _, rfl⟩ := Option.map_eq_some_iff.1 h; exact ⟨_, rfl⟩)

theorem index_val {t : TypeId} {x ix : Operand} (h : indexR P rs t x ix = some res) : ∃ v, res = .val v := by
  unfold indexR at h
  simp only at h
  repeat' split at h
  all_goals first | (cases h; done) | (cases h; exact ⟨_, rfl⟩) | (obtain ⟨_, _, rfl⟩ := Option.map_eq_some_iff.1 h; exact ⟨_, rfl⟩)

theorem field_val {t : TypeId} {x : Operand} {f : Nat} (h : fieldR P rs t x f = some res) : ∃ v, res = .val v := by
  unfold fieldR at h
  simp only at h
  repeat' split at h
  all_goals first | (cases h; done) | (cases h; exact ⟨_, rfl⟩) | (obtain ⟨_, _, rfl⟩ := Option.map_eq_some_iff.1 h; exact ⟨_, rfl⟩)

theorem fieldAddr_val {t : TypeId} {x : Operand} {f : Nat} (h : fieldAddrR P rs t x f = some res) : ∃ v, res = .val v := by
  unfold fieldAddrR at h
  simp only at h
  repeat' split at h
  all_goals first | (cases h; done) | (cases h; exact ⟨_, rfl⟩) | (obtain ⟨_, _, rfl⟩ := Option.map_eq_some_iff.1 h; exact ⟨_, rfl⟩)

theorem indexAddr_val {t : TypeId} {x ix : Operand} (h : indexAddrR P rs t x ix = some res) : ∃ v, res = .val v := by
  unfold indexAddrR at h
  simp only at h
  repeat' split at h
  all_goals first | (cases h; done) | (cases h; exact ⟨_, rfl⟩) | (obtain ⟨_, _, rfl⟩ := Option.map_eq_some_iff.1 h; exact ⟨_, rfl⟩)

theorem pick_val {c x y : Operand} (h : pickR P rs c x y = some res) : ∃ v, res = .val v := by
  unfold pickR at h
  simp only at h
  repeat' split at h
  all_goals first | (cases h; done) | (cases h; exact ⟨_, rfl⟩)

theorem nilCheck_val {x : Operand} (h : nilCheckR P rs x = some res) : ∃ v, res = .val v := by
  unfold nilCheckR at h
  simp only at h
  repeat' split at h
  all_goals first | (cases h; done) | (cases h; exact ⟨_, rfl⟩)

theorem extract_val {x : Operand} {i : Nat} (h : extractR P rs x i = some res) : ∃ v, res = .val v := by
  unfold extractR at h
  simp only at h
  repeat' split at h
  all_goals first | (cases h; done) | (cases h; exact ⟨_, rfl⟩) | (obtain ⟨_, _, rfl⟩ := Option.map_eq_some_iff.1 h; exact ⟨_, rfl⟩)

theorem makeInterface_val {t : TypeId} {x : Operand} (h : makeInterfaceR P rs t x = some res) : ∃ v, res = .val v := by
  unfold makeInterfaceR at h
  repeat' split at h
  all_goals first | (cases h; done) | (cases h; exact ⟨_, rfl⟩)

theorem binOp_val {fl : List TypeId} {op : BinOp} {t : TypeId} {x y : Operand} (h : binOpR P fl rs op t x y = some res) : ∃ v, res = .val v := by
  unfold binOpR at h
  simp only at h
  repeat' split at h
  all_goals first | (cases h; done) | (cases h; exact ⟨_, rfl⟩) | (obtain ⟨_, _, rfl⟩ := Option.map_eq_some_iff.1 h; exact ⟨_, rfl⟩)

theorem unOp_val {op : UnOp} {x : Operand} (h : unOpR P rs op x = some res) : ∃ v, res = .val v := by
  unfold unOpR at h
  simp only at h
  repeat' split at h
  all_goals first | (cases h; done) | (cases h; exact ⟨_, rfl⟩)

theorem typeAssert_val {x : Operand} {t : TypeId} {ok : Bool} (h : typeAssertR P rs x t ok = some res) : ∃ v, res = .val v := by
  unfold typeAssertR at h
  simp only at h
  repeat' split at h
  all_goals first | (cases h; done) | (cases h; exact ⟨_, rfl⟩) | (obtain ⟨_, _, rfl⟩ := Option.map_eq_some_iff.1 h; exact ⟨_, rfl⟩)

theorem load_val {t : TypeId} {x : Operand} (h : loadR P m.t rs t x = some res) : ∃ v, res = .val v := by
  unfold loadR at h
  simp only at h
  repeat' split at h
  all_goals first | (cases h; done) | (obtain ⟨_, _, rfl⟩ := Option.map_eq_some_iff.1 h; exact ⟨_, rfl⟩)

theorem slice_val {t : TypeId} {x : Operand} {lo hi mx : Option Operand} (h : sliceR P m.t rs t x lo hi mx = some res) : ∃ v, res = .val v := by
  unfold sliceR at h
  simp only at h
  repeat' split at h
  all_goals first | (cases h; done) | (cases h; exact ⟨_, rfl⟩)

theorem lookup_val {t : TypeId} {x k : Operand} {ok : Bool} (h : lookupR P m.t rs t x k ok = some res) : ∃ v, res = .val v := by
  unfold lookupR at h
  simp only at h
  repeat' split at h
  all_goals first | (cases h; done) | (cases h; exact ⟨_, rfl⟩)

theorem entry_val {it : Operand} (h : entryR P m.t rs it = some res) : ∃ v, res = .val v := by
  unfold entryR at h
  simp only at h
  repeat' split at h
  all_goals first | (cases h; done) | (obtain ⟨_, _, rfl⟩ := Option.map_eq_some_iff.1 h; exact ⟨_, rfl⟩)

theorem pure_val {fl : List TypeId} {h : Tr} (hk : kindOf P o = .pure) (hr : opR P fl h rs o = some res) : ∃ v, res = .val v ∧ ∀ h', opR P fl h' rs o = some (.val v) := by
  unfold kindOf at hk
  unfold opR at hr ⊢
  simp only at hr ⊢
  cases ho : o.op <;> simp only [ho] at hk hr ⊢ <;> try (cases hk; done)
  case call c => exfalso; revert hk; split <;> simp
  case convert s d x => exfalso; revert hk; split <;> simp
  case move x => exact ⟨_, (Option.some.inj hr).symm, fun _ => rfl⟩
  case assign x => exact ⟨_, (Option.some.inj hr).symm, fun _ => rfl⟩
  case makeFunc fn x y => exact ⟨_, (Option.some.inj hr).symm, fun _ => rfl⟩
  case pick => obtain ⟨v, rfl⟩ := pick_val hr; exact ⟨v, rfl, fun _ => hr⟩
  case build => obtain ⟨v, rfl⟩ := build_val hr; exact ⟨v, rfl, fun _ => hr⟩
  case nilCheck => obtain ⟨v, rfl⟩ := nilCheck_val hr; exact ⟨v, rfl, fun _ => hr⟩
  case binOp => obtain ⟨v, rfl⟩ := binOp_val hr; exact ⟨v, rfl, fun _ => hr⟩
  case unOp => obtain ⟨v, rfl⟩ := unOp_val hr; exact ⟨v, rfl, fun _ => hr⟩
  case makeInterface => obtain ⟨v, rfl⟩ := makeInterface_val hr; exact ⟨v, rfl, fun _ => hr⟩
  case fieldAddr => obtain ⟨v, rfl⟩ := fieldAddr_val hr; exact ⟨v, rfl, fun _ => hr⟩
  case field => obtain ⟨v, rfl⟩ := field_val hr; exact ⟨v, rfl, fun _ => hr⟩
  case indexAddr => obtain ⟨v, rfl⟩ := indexAddr_val hr; exact ⟨v, rfl, fun _ => hr⟩
  case index => obtain ⟨v, rfl⟩ := index_val hr; exact ⟨v, rfl, fun _ => hr⟩
  case typeAssert => obtain ⟨v, rfl⟩ := typeAssert_val hr; exact ⟨v, rfl, fun _ => hr⟩
  case extract => obtain ⟨v, rfl⟩ := extract_val hr; exact ⟨v, rfl, fun _ => hr⟩

theorem builtin_look {h : Tr} {b : Builtin} (hb : b = .len ∨ b = .cap ∨ b = .min ∨ b = .max ∨ b = .unsafeSliceData) {ts : Array TypeId} {ty : TypeId} {l : List Value} (hr : builtinR P h b ts ty l = some res) : ∃ v, res = .val v := by
  rcases hb with rfl | rfl | rfl | rfl | rfl <;> simp only [builtinR] at hr
  all_goals (repeat' split at hr)
  all_goals first | (cases hr; done) | (cases hr; exact ⟨_, rfl⟩) | (obtain ⟨_, _, rfl⟩ := Option.map_eq_some_iff.1 hr; exact ⟨_, rfl⟩)

theorem look_val {fl : List TypeId} (hk : kindOf P o = .look) (hr : opR P fl m.t rs o = some res) : ∃ v, res = .val v := by
  unfold kindOf at hk
  unfold opR at hr
  simp only at hr
  cases ho : o.op <;> simp only [ho] at hk hr <;> try (cases hk; done)
  case load => exact load_val hr
  case slice => exact slice_val hr
  case lookup => exact lookup_val hr
  case entry => exact entry_val hr
  case convert s d x =>
    rcases convert_cases hr with h | ⟨e, _, _, h, _⟩
    · exact h
    · have h : P.underlying d = some (.slice e) := h
      rw [h] at hk; cases hk
  case call c =>
    unfold callOpR at hr
    simp only at hr
    split at hk
    · rename_i hc; rw [hc] at hr; exact builtin_look (.inl rfl) hr
    · rename_i hc; rw [hc] at hr; exact builtin_look (.inr (.inl rfl)) hr
    · rename_i hc; rw [hc] at hr; exact builtin_look (.inr (.inr (.inl rfl))) hr
    · rename_i hc; rw [hc] at hr; exact builtin_look (.inr (.inr (.inr (.inl rfl)))) hr
    · rename_i hc; rw [hc] at hr; exact builtin_look (.inr (.inr (.inr (.inr rfl)))) hr
    · cases hk

theorem alloc_sim (hP : PGood P) {fl : List TypeId} (ev : ∀ x, VRel r (eval P rs x) (a.eval x)) (hk : kindOf P o = .alloc) (hr : opR P fl m.t rs o = some res) : ∃ x v, res = .alloc x v ∧ AllocSim P r w (execOp a.eval o) x v := by
  unfold kindOf at hk
  unfold opR at hr
  simp only at hr
  cases ho : o.op <;> simp only [ho] at hk hr <;> try (cases hk; done)
  case call c => exfalso; revert hk; split <;> simp
  case convert s d x => exfalso; revert hk; split <;> simp
  case alloc => exact asim_alloc hP ho hr
  case box => exact asim_box ev ho hr
  case buildSlice => exact asim_buildSlice ev hP ho hr
  case makeSlice => exact asim_makeSlice ev hP ho hr

end
end Go.Am
/-
  THE ABSTRACT MACHINE, 21: one operation, and a region in its written order.
-/
namespace Go.Am

/-- What a call leaves. -/
def CallPost (P : Program) (r : Ren) (m : Mem) (w : World) (v : Value) (m' : Mem) : Ending → World → Prop
  | .returned v', w' => ∃ r', HRel P r' m' w' ∧ Evo r m w r' m' w' ∧ VRel r' v v'
  | .panicked _, _ => False
  | .outgrown, _ => False

/-- What answers calls there is right. -/
def CallOk (P : Program) (call : CallFn) : Prop :=
  ∀ f args m v m', call f args m = some (v, m') → ∀ r w args', HRel P r m w → VRelL r args args' → Calls P f ⟨args'⟩ w (CallPost P r m w v m')

/-- A frame's state is as the abstract one, from a start on. -/
def Post (P : Program) (r0 : Ren) (m0 : Mem) (w0 : World) (s : St) (a : Act) (w : World) : Prop :=
  ∃ r, HRel P r s.m w ∧ Evo r0 m0 w0 r s.m w ∧ RRel r s.n s.rs a.tmps ∧ a.defers = []

section
variable {P : Program} {C : Cfg} {call : CallFn} {r : Ren} {m : Mem} {w : World} {rs : Rs} {a : Act} {o : Oper} {K : Act → World → Prop} {Q : Exit → Act → World → Prop}

theorem upon_next {v : Value} {nx : Next} {w' : World} (hn : NRel r v nx) (h : ∀ v', VRel r v v' → K (a.put o.dst v') w') : o.upon P a K Q (.ok nx w') := by
  cases nx <;> first | exact False.elim hn | exact h _ hn

theorem oper_step (hP : PGood P) (hfl : ∀ t, C.flats.contains t = true → FlatOk P t) (hcall : CallOk P call) (hm : HRel P r m w) (ev : ∀ x, VRel r (eval P rs x) (a.eval x)) {v : Value} {m1 : Mem}
    (h : aOper P C call m rs o = some (v, m1)) (hK : ∀ r1 v' w', HRel P r1 m1 w' → Evo r m w r1 m1 w' → VRel r1 v v' → K (a.put o.dst v') w') : o.wp P a w K Q ∨ (o.asks P a w ∧ LetsOut Q) := by
  unfold aOper at h
  cases hres : opR P C.flats m.t rs o with
  | none => simp [hres] at h
  | some res =>
    have hs := op_sim hP hfl hm ev hres
    unfold Oper.wp
    cases res with
    | val u =>
      simp only [hres, Option.some.injEq, Prod.mk.injEq] at h
      obtain ⟨rfl, rfl⟩ := h
      obtain ⟨nx, h1, h2⟩ := hs
      rw [h1]
      exact .inl (upon_next h2 fun v' hv => hK r v' w hm (Evo.refl _ _ _) hv)
    | alloc x u =>
      simp only [hres, Option.some.injEq, Prod.mk.injEq] at h
      obtain ⟨rfl, rfl⟩ := h
      rcases hs with hs | ⟨nx, w', e, h1, h2, h3, h4⟩
      · exact hs.elim
      · rw [h1]
        exact .inl (upon_next h4 fun v' hv => hK _ v' w' h2 h3 hv)
    | step u t =>
      simp only [hres, Option.some.injEq, Prod.mk.injEq] at h
      obtain ⟨rfl, rfl⟩ := h
      obtain ⟨nx, w', h1, h2, h3, h4⟩ := hs
      rw [h1]
      exact .inl (upon_next h4 fun v' hv => hK _ v' w' h2 h3 hv)
    | stepNew u t x =>
      simp only [hres, Option.some.injEq, Prod.mk.injEq] at h
      obtain ⟨rfl, rfl⟩ := h
      rcases hs with hs | ⟨nx, w', e, h1, h2, h3, h4⟩
      · exact hs.elim
      · rw [h1]
        exact .inl (upon_next h4 fun v' hv => hK _ v' w' h2 h3 hv)
    | enter f args =>
      simp only [hres] at h
      obtain ⟨args', h1, h2⟩ := hs
      rw [h1, Oper.upon_enter]
      refine .inl (Calls.mono (hcall f args m v m1 h r w args'.toList hm h2) fun e w' he => ?_)
      cases e with
      | returned v' =>
        obtain ⟨r', h3, h4, h5⟩ := he
        exact hK r' v' w' h3 h4 h5
      | panicked c => exact False.elim he
      | outgrown => exact False.elim he

theorem want_rel {ops : Array Oper} {b : Bool} (h : wantA ops rs o = some b) (hr : ∀ d, (∃ j want, o.guard = some (j, want) ∧ (ops[j]?).bind (·.dst) = some d) → VRel r ((rs.get d).getD undef) (a.tmps.getD d undef)) :
    Region.wanted o (yielded ops a.tmps) = b := by
  unfold wantA at h
  unfold Region.wanted
  cases hg : o.guard with
  | none => simp only [hg, Option.some.injEq] at h; exact h
  | some gw =>
    obtain ⟨j, want⟩ := gw
    simp only [hg] at h
    unfold yielded
    cases hd : (ops[j]?).bind (·.dst) with
    | none => simp only [hd, Option.some.injEq] at h; subst h; simp [hd]
    | some d =>
      simp only [hd] at h
      have hv := hr d ⟨j, want, hg, hd⟩
      rw [Array.getD_eq_getD_getElem?] at hv
      split at h
      · rename_i b' hb'
        cases h
        rw [hb'] at hv
        cases ht : a.tmps[d]? with
        | none => rw [ht] at hv; cases hv
        | some u => rw [ht] at hv; cases hv; simp [hd, ht]
      · rename_i t' hb'
        cases h
        rw [hb'] at hv
        cases ht : a.tmps[d]? with
        | none => simp [hd, ht]
        | some u => rw [ht] at hv; cases hv; simp [hd, ht]
      · cases h

theorem aOps_cons (ops : Array Oper) (l : List Oper) (s : St) : aOps P C call ops (o :: l) s = aOps1 P C call ops o (aOps P C call ops l) s := rfl
theorem aOps_nil (ops : Array Oper) (s : St) : aOps P C call ops [] s = some s := rfl

theorem ops_sound (hP : PGood P) (hfl : ∀ t, C.flats.contains t = true → FlatOk P t) (hcall : CallOk P call) {ops : Array Oper} {r0 : Ren} {m0 : Mem} {w0 : World} {s' : St} (hend : ∀ a w, Post P r0 m0 w0 s' a w → Q .normal a w) :
    ∀ (l : List Oper) (idx : List Nat) (s : St) (a : Act) (w : World), idx.filterMap (fun i => ops[i]?) = l → (∀ i ∈ idx, (ops[i]?).isSome = true) → aOps P C call ops l s = some s' → Post P r0 m0 w0 s a w → wpOps P ops Q idx a w
  | [], idx, s, a, w, hidx, hin, h, hp => by
    have : idx = [] := by
      cases idx with
      | nil => rfl
      | cons i idx =>
        obtain ⟨o, ho⟩ := Option.isSome_iff_exists.1 (hin i (by simp))
        simp [ho] at hidx
    subst this
    cases h
    exact hend a w hp
  | o :: l, idx, s, a, w, hidx, hin, h, hp => by
    cases idx with
    | nil => simp at hidx
    | cons i idx =>
      obtain ⟨o', ho⟩ := Option.isSome_iff_exists.1 (hin i (by simp))
      simp only [List.filterMap_cons, ho, List.cons.injEq] at hidx
      obtain ⟨rfl, hidx⟩ := hidx
      obtain ⟨r, hm, he, hr, hd⟩ := hp
      rw [aOps_cons] at h
      unfold aOps1 at h
      have ev := eval_rel (P := P) hm hr
      simp only [wpOps, ho]
      cases hw : wantA ops s.rs o' with
      | none => simp [hw] at h
      | some b =>
        have hwant := want_rel (a := a) hw fun d _ => hr.get d
        simp only [hw] at h
        cases b with
        | true =>
          simp only at h
          cases hop : aOper P C call s.m s.rs o' with
          | none => simp [hop] at h
          | some vm =>
            obtain ⟨v, m1⟩ := vm
            simp only [hop] at h
            rw [hwant]
            simp only [if_true]
            refine oper_step hP hfl hcall hm ev hop (fun r1 v' w' h1 h2 h3 => ?_)
            refine ops_sound hP hfl hcall hend l idx _ _ _ hidx (fun j hj => hin j (by simp [hj])) h ⟨r1, h1, he.trans h2, (hr.mono h2.ext).put h3 o'.dst, ?_⟩
            cases hdst : o'.dst <;> simpa [Act.put] using hd
        | false =>
          rw [hwant]
          simp only [Bool.false_eq_true, if_false]
          refine ops_sound hP hfl hcall hend l idx _ _ _ hidx (fun j hj => hin j (by simp [hj])) h ⟨r, hm, he, hr.put (VRel.undef r) o'.dst, ?_⟩
          cases hdst : o'.dst <;> simpa [Act.put] using hd

end
end Go.Am
