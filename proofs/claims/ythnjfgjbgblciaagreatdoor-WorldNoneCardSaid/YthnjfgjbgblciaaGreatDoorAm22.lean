import Derived.Test.YthnjfgjbgblciaaGreatDoorAm21
/-
  THE ABSTRACT MACHINE, 22: what a region that draws its order leans on.
-/
namespace Go.Am

section
variable {P : Program} {r : Ren} {m : Mem} {w : World} {rs rs' : Rs} {a : Act} {o : Oper} {res : OpR}

theorem parts_congr {parts : Array (Nat × Operand)} (h : ∀ x ∈ (parts.toList.map (·.2)).toArray, eval P rs x = eval P rs' x) : (parts.toList.map fun x => (x.1, eval P rs x.2)) = (parts.toList.map fun x => (x.1, eval P rs' x.2)) := by
  apply List.map_congr_left
  intro x hx
  rw [h x.2 (by simp only [List.mem_toArray, List.mem_map]; exact ⟨x, hx, rfl⟩)]

theorem callOpR_congr {h : Tr} {ty : TypeId} {c : Call} (hc : ∀ x ∈ c.operands, eval P rs x = eval P rs' x) : callOpR P h rs ty c = callOpR P h rs' ty c := by
  have hargs : c.args.toList.map (eval P rs) = c.args.toList.map (eval P rs') := List.map_congr_left fun x hx => hc x (by simp [Call.operands]; exact .inr (by simpa using hx))
  unfold callOpR
  simp only [hargs]
  cases hcal : c.callee with
  | builtin b => rfl
  | value f => have hf : eval P rs f = eval P rs' f := hc f (by simp [Call.operands, hcal]); simp only [hf]
  | invoke rv name => have hf : eval P rs rv = eval P rs' rv := hc rv (by simp [Call.operands, hcal]); simp only [hf]

theorem opR_congr {fl : List TypeId} {h : Tr} (hx : ∀ x ∈ o.op.operands, eval P rs x = eval P rs' x) : opR P fl h rs o = opR P fl h rs' o := by
  obtain ⟨dst, op, type, pos, after, guard⟩ := o
  cases op <;> simp only [Op.operands] at hx <;> simp only [opR]
  case build t ps => simp only [buildR, parts_congr hx]
  case buildSlice t n ps => simp only [buildSliceR, parts_congr hx]
  case makeFunc fn first cap =>
    rw [List.map_congr_left (l := first.toList) fun x hx' => hx x (by simp; exact .inl (by simpa using hx')), List.map_congr_left (l := cap.toList) fun x hx' => hx x (by simp; exact .inr (by simpa using hx'))]
  case call c => exact callOpR_congr hx
  case slice t x lo hi mx => cases lo <;> cases hi <;> cases mx <;> simp_all [sliceR]
  case makeMap t x => cases x <;> rfl
  case move x => rw [hx x (by simp)]
  case assign x => rw [hx x (by simp)]
  case pick => simp_all [pickR]
  case box => simp_all [boxR]
  case makeSlice => simp_all [makeSliceR]
  case load => simp_all [loadR]
  case store => simp_all [storeR]
  case nilCheck => simp_all [nilCheckR]
  case fieldAddr => simp_all [fieldAddrR]
  case indexAddr => simp_all [indexAddrR]
  case field => simp_all [fieldR]
  case index => simp_all [indexR]
  case extract => simp_all [extractR]
  case makeInterface => simp_all [makeInterfaceR]
  case convert => simp_all [convertR]
  case lookup => simp_all [lookupR]
  case mapUpdate => simp_all [mapUpdateR]
  case insert => simp_all [mapUpdateR]
  case range => simp_all [rangeR]
  case next => simp_all [nextR]
  case entry => simp_all [entryR]
  case binOp => simp_all [binOpR]
  case unOp => simp_all [unOpR]
  case typeAssert => simp_all [typeAssertR]

theorem alloc_val {fl : List TypeId} {h : Tr} (hk : kindOf P o = .alloc) (hr : opR P fl h rs o = some res) : (∃ x v, res = .alloc x v) ∧ ∀ h', opR P fl h' rs o = some res := by
  unfold kindOf at hk
  unfold opR at hr ⊢
  simp only at hr ⊢
  cases ho : o.op <;> simp only [ho] at hk hr ⊢ <;> try (cases hk; done)
  case call c => exfalso; revert hk; split <;> simp
  case convert s d x => exfalso; revert hk; split <;> simp
  case alloc =>
    refine ⟨?_, fun _ => hr⟩
    obtain ⟨_, _, rfl⟩ := Option.map_eq_some_iff.1 hr; exact ⟨_, _, rfl⟩
  case box =>
    refine ⟨?_, fun _ => hr⟩
    unfold boxR at hr
    simp only at hr
    repeat' split at hr
    all_goals first | (cases hr; done) | (cases hr; exact ⟨_, _, rfl⟩)
  case buildSlice =>
    refine ⟨?_, fun _ => hr⟩
    unfold buildSliceR at hr
    simp only at hr
    repeat' split at hr
    all_goals first | (cases hr; done) | (obtain ⟨_, _, rfl⟩ := Option.map_eq_some_iff.1 hr; exact ⟨_, _, rfl⟩)
  case makeSlice =>
    refine ⟨?_, fun _ => hr⟩
    unfold makeSliceR at hr
    simp only at hr
    repeat' split at hr
    all_goals first | (cases hr; done) | (cases hr; exact ⟨_, _, rfl⟩)

/-- There, not yet here: an object more in the abstract heap. -/
theorem HRel.grow (h : HRel P r m w) (x : AObj) : HRel P r ⟨m.t.set m.n (some x), m.n + 1⟩ w ∧ Evo r m w r ⟨m.t.set m.n (some x), m.n + 1⟩ w := by
  have hne : ∀ id e, r id = some e → id ≠ m.n := fun id e hr he => by subst he; rw [h.fresh _ (Nat.le_refl _)] at hr; cases hr
  refine ⟨⟨?_, ?_, h.lt, ?_, ?_, h.glob⟩, ⟨Ext.refl r, Nat.le_succ _, rfl, rfl, rfl, Nat.le_refl _, fun _ _ _ => rfl, ?_, fun id hi hn => ⟨hn, Tri.get_set_ne _ _ (by omega)⟩⟩⟩
  · intro id e o hr hg
    replace hg : (m.t.set m.n (some x)).get id = some o := hg
    rw [Tri.get_set_ne _ _ (hne id e hr)] at hg
    exact h.obj _ _ _ hr hg
  · intro i j e e' o o' hij hi hj gi gj
    replace gi : (m.t.set m.n (some x)).get i = some o := gi
    replace gj : (m.t.set m.n (some x)).get j = some o' := gj
    rw [Tri.get_set_ne _ _ (hne i e hi)] at gi
    rw [Tri.get_set_ne _ _ (hne j e' hj)] at gj
    exact h.inj _ _ _ _ _ _ hij hi hj gi gj
  · intro id hi
    have hi : m.n + 1 ≤ id := hi
    exact h.fresh _ (by omega)
  · intro id hi
    have hi : m.n + 1 ≤ id := hi
    show (m.t.set m.n (some x)).get id = none
    rw [Tri.get_set_ne _ _ (by omega)]; exact h.none_ _ (by omega)
  · rintro b ⟨id, e, o, hr, hg, hro, hb⟩
    replace hg : (m.t.set m.n (some x)).get id = some o := hg
    rw [Tri.get_set_ne _ _ (hne id e hr)] at hg
    exact .inr ⟨id, e, o, hr, hg, hro, hb⟩

/-- There before, now here. -/
theorem HRel.late (h : HRel P r m w) {n : Nat} {x : AObj} {ob : Obj} {e : Ent} (d : Nat) (hr : r n = none) (hn : n < m.n) (hg : m.t.get n = some x) (hb : e.b = w.heap.size) (ho : ORel P (r.with n e) e (some ob) x) :
    HRel P (r.with n e) m { w with heap := w.heap.push ob, drawn := d } := by
  have hx : Ext r (r.with n e) := Ext.with e hr
  have hold : ∀ b, b < w.heap.size → (w.heap.push ob)[b]? = w.heap[b]? := fun b hb => by rw [Array.getElem?_push, if_neg (by omega)]
  have hnew : (w.heap.push ob)[e.b]? = some ob := by rw [hb]; simp
  refine ⟨?_, ?_, ?_, ?_, h.none_, ?_⟩
  · intro id e' o hi hgi
    by_cases hid : id = n
    · subst hid
      rw [Ren.with_same] at hi; cases hi
      rw [hg] at hgi; cases hgi
      show ORel P _ e (w.heap.push ob)[e.b]? x
      rw [hnew]; exact ho
    · rw [Ren.with_ne _ _ hid] at hi
      show ORel P _ e' (w.heap.push ob)[e'.b]? o
      rw [hold _ (h.lt _ _ hi)]
      exact (h.obj _ _ _ hi hgi).mono hx
  · intro i j e1 e2 o1 o2 hne hi hj gi gj
    by_cases ei : i = n
    · by_cases ej : j = n
      · omega
      · subst ei; rw [Ren.with_same] at hi; cases hi
        rw [Ren.with_ne _ _ ej] at hj
        have := h.lt _ _ hj; omega
    · by_cases ej : j = n
      · subst ej; rw [Ren.with_same] at hj; cases hj
        rw [Ren.with_ne _ _ ei] at hi
        have := h.lt _ _ hi; omega
      · rw [Ren.with_ne _ _ ei] at hi; rw [Ren.with_ne _ _ ej] at hj
        exact h.inj _ _ _ _ _ _ hne hi hj gi gj
  · intro id e' hi
    show e'.b < (w.heap.push ob).size
    by_cases hid : id = n
    · subst hid; rw [Ren.with_same] at hi; cases hi; simp [hb]
    · rw [Ren.with_ne _ _ hid] at hi; have := h.lt _ _ hi; simp; omega
  · intro id hi
    rw [Ren.with_ne _ _ (by omega)]; exact h.fresh _ hi
  · intro g hg'
    obtain ⟨e', h1, h2⟩ := h.glob g hg'
    exact ⟨e', hx _ _ h1, h2⟩

theorem Evo.late {r0 : Ren} {m0 : Mem} {w0 : World} (h : Evo r0 m0 w0 r m w) {n : Nat} {ob : Obj} {e : Ent} (d : Nat) (hr : r n = none) (hn : m0.n ≤ n) (hb : e.b = w.heap.size) :
    Evo r0 m0 w0 (r.with n e) m { w with heap := w.heap.push ob, drawn := d } := by
  refine ⟨h.ext.trans (Ext.with e hr), h.num, h.os, h.tape, h.output, by have := h.size; simp; omega, fun b hlt hwb => ?_, ?_, fun id hi hnone => ?_⟩
  · show (w.heap.push ob)[b]? = _
    rw [Array.getElem?_push, if_neg (by have := h.size; omega)]
    exact h.frame b hlt hwb
  · rintro b ⟨id, e', o, hi, hg, hro, hb'⟩
    by_cases hid : id = n
    · subst hid; rw [Ren.with_same] at hi; cases hi; left; have := h.size; omega
    · rw [Ren.with_ne _ _ hid] at hi
      exact h.shrink b ⟨id, e', o, hi, hg, hro, hb'⟩
  · obtain ⟨h1, h2⟩ := h.hid id hi hnone
    exact ⟨by rw [Ren.with_ne _ _ (by omega)]; exact h1, h2⟩

theorem sameAddr_eq : ∀ {a b : Option Addr}, sameAddr a b = true → a = b
  | none, none, _ => rfl
  | some ⟨x, y, z⟩, some ⟨x', y', z'⟩, h => by
    simp only [sameAddr, Bool.and_eq_true, beq_iff_eq] at h
    obtain ⟨⟨h1, h2⟩, rfl⟩ := h
    rw [Nat.eq_of_beq_eq_true h1, Nat.eq_of_beq_eq_true h2]
  | none, some _, h => by cases h
  | some _, none, h => by cases h

theorem same0_eq {x y : Value} (h : same0 x y = true) : x = y := by
  unfold same0 at h
  split at h
  · simp only [Bool.and_eq_true, decide_eq_true_eq] at h; obtain ⟨rfl, rfl⟩ := h; rfl
  · rename_i a b
    have : a = b := by
      apply ByteArray.ext; apply Array.ext'; simpa using h
    rw [this]
  · rename_i a b; have : a = b := by simpa using h
    rw [this]
  · rw [sameAddr_eq h]
  · simp only [Bool.and_eq_true] at h
    obtain ⟨⟨h1, h2⟩, h3⟩ := h
    rw [sameAddr_eq h1, Nat.eq_of_beq_eq_true h2, Nat.eq_of_beq_eq_true h3]
  · rfl
  · have := Nat.eq_of_beq_eq_true h; rw [this]
  · rfl
  · rfl
  · cases h

theorem sameL_eq : ∀ {x y : List Value}, sameL same0 x y = true → x = y
  | [], [], _ => rfl
  | a :: x, b :: y, h => by
    simp only [sameL, Bool.and_eq_true] at h
    rw [same0_eq h.1, sameL_eq h.2]
  | [], _ :: _, h => by cases h
  | _ :: _, [], h => by cases h

theorem sameV_eq {x y : Value} (h : sameV x y = true) : x = y := by
  unfold sameV at h
  split at h
  · rw [Array.ext' (sameL_eq h)]
  · rw [Array.ext' (sameL_eq h)]
  · exact same0_eq h

end
end Go.Am
