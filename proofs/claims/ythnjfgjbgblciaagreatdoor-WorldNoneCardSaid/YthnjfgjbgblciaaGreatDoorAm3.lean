import Derived.Test.YthnjfgjbgblciaaGreatDoorAm2
/-
  THE ABSTRACT MACHINE, 3: the heap's laws; when a world is as an abstract heap says.
-/
namespace Go.Am

section
variable {α : Type}
theorem wayF_succ (f k : Nat) : wayF (f + 1) (k + 1) = if k % 2 = 0 then .left (wayF f (k / 2)) else .right (wayF f (k / 2)) := by
  show Bool.rec (motive := fun _ => Way → Way) (fun p => .right p) (fun p => .left p) (Nat.beq (k % 2) 0) (wayF f (k / 2)) = _
  by_cases h : k % 2 = 0
  · rw [if_pos h, h]; rfl
  · rw [if_neg h, show Nat.beq (k % 2) 0 = false from by (have h1 : k % 2 = 1 := by omega); rw [h1]; rfl]

theorem wayF_enough : ∀ (f g k : Nat), k < f → k < g → wayF f k = wayF g k
  | 0, _, k, h, _ => absurd h (Nat.not_lt_zero k)
  | _, 0, k, _, h => absurd h (Nat.not_lt_zero k)
  | f + 1, g + 1, 0, _, _ => rfl
  | f + 1, g + 1, k + 1, h1, h2 => by
    rw [wayF_succ, wayF_succ, wayF_enough f g (k / 2) (by omega) (by omega)]

theorem wayOf_succ (k : Nat) : wayOf (k + 1) = if k % 2 = 0 then .left (wayOf (k / 2)) else .right (wayOf (k / 2)) := by
  show wayF (k + 1 + 1) (k + 1) = _
  rw [wayF_succ, wayF_enough (k + 1) (k / 2 + 1) (k / 2) (by omega) (by omega)]
  rfl

theorem wayOf_inj : ∀ (k j : Nat), wayOf k = wayOf j → k = j
  | 0, 0, _ => rfl
  | 0, j + 1, h => by rw [wayOf_succ] at h; split at h <;> cases h
  | k + 1, 0, h => by rw [wayOf_succ] at h; split at h <;> cases h
  | k + 1, j + 1, h => by
    rw [wayOf_succ, wayOf_succ] at h
    split at h <;> split at h
    · have := wayOf_inj (k / 2) (j / 2) (by injection h); omega
    · cases h
    · cases h
    · have := wayOf_inj (k / 2) (j / 2) (by injection h); omega

theorem Tri.getW_setW : ∀ (p q : Way) (t : Tri α) (x : Option α), (t.setW p x).getW q = if p = q then x else t.getW q := by
  have hnil : ∀ q : Way, (Tri.nil : Tri α).getW q = none := fun q => by cases q <;> rfl
  intro p
  induction p with
  | here =>
    intro q t x
    cases t <;> cases q <;> first | rfl | (rw [if_neg (by intro h; cases h)]; rfl) | (rw [if_neg (by intro h; cases h), hnil]; exact hnil _)
  | left p ih =>
    intro q t x
    cases q with
    | here => rw [if_neg (by intro h; cases h)]; cases t <;> rfl
    | right q =>
      rw [if_neg (by intro h; cases h)]
      cases t with
      | nil => exact hnil q
      | node v l r => rfl
    | left q =>
      have e : (Way.left p = Way.left q) = (p = q) := by simp
      simp only [e]
      cases t with
      | nil => exact (ih q .nil x).trans (by rw [hnil, hnil])
      | node v l r => exact ih q l x
  | right p ih =>
    intro q t x
    cases q with
    | here => rw [if_neg (by intro h; cases h)]; cases t <;> rfl
    | left q =>
      rw [if_neg (by intro h; cases h)]
      cases t with
      | nil => exact hnil q
      | node v l r => rfl
    | right q =>
      have e : (Way.right p = Way.right q) = (p = q) := by simp
      simp only [e]
      cases t with
      | nil => exact (ih q .nil x).trans (by rw [hnil, hnil])
      | node v l r => exact ih q r x

theorem Tri.get_nil (k : Nat) : (Tri.nil : Tri α).get k = none := by unfold Tri.get; cases wayOf k <;> rfl

theorem Tri.get_set (t : Tri α) (k j : Nat) (x : Option α) : (t.set k x).get j = if j = k then x else t.get j := by
  unfold Tri.get Tri.set
  rw [Tri.getW_setW]
  by_cases h : j = k
  · subst h; simp
  · rw [if_neg h, if_neg (fun e => h (wayOf_inj _ _ e.symm))]
theorem Tri.get_set_same (t : Tri α) (k : Nat) (x : Option α) : (t.set k x).get k = x := by rw [Tri.get_set, if_pos rfl]
theorem Tri.get_set_ne (t : Tri α) {k j : Nat} (x : Option α) (h : j ≠ k) : (t.set k x).get j = t.get j := by rw [Tri.get_set, if_neg h]
end

/-- It is never written. -/
def ro : AObj → Bool
  | .row cs _ fz => Nat.blt cs.length (fz / 2)
  | _ => false

structure ERel (r : Ren) (e e' : MapEntry) : Prop where
  key : VRel r e.key e'.key
  val : VRel r e.val e'.val
  born : e'.born = e.born

inductive ERelL (r : Ren) : List MapEntry → List MapEntry → Prop where
  | nil : ERelL r [] []
  | cons {e e' : MapEntry} {l l' : List MapEntry} (h : ERel r e e') (t : ERelL r l l') : ERelL r (e :: l) (e' :: l')

theorem ERel.mono {r r' : Ren} (hx : Ext r r') {e e' : MapEntry} (h : ERel r e e') : ERel r' e e' := ⟨h.key.mono hx, h.val.mono hx, h.born⟩
theorem ERelL.mono {r r' : Ren} (hx : Ext r r') {l l' : List MapEntry} (h : ERelL r l l') : ERelL r' l l' := by
  induction h with
  | nil => exact .nil
  | cons h _ ih => exact .cons (h.mono hx) ih

/-- What is frozen: no cell from the half of fz on; and of an even fz nothing behind. -/
structure FrzOk (e : Ent) (fz lo hi : Nat) : Prop where
  free : ∀ x, e.d + fz / 2 ≤ x → x < e.size → ¬ (lo ≤ x ∧ x < hi)
  even : fz % 2 = 0 → lo = hi ∨ hi ≤ e.d + fz / 2

def ORel (P : Program) (r : Ren) (e : Ent) (ob : Option Obj) : AObj → Prop
  | .row cs t fz => ∃ (c : Array Value) (lo hi : Nat), ob = some (.cells c t (lo, hi)) ∧ c.size = e.size ∧ e.d + cs.length ≤ c.size ∧
      VRelL r cs ((c.toList.drop e.d).take cs.length) ∧ FrzOk e fz lo hi ∧ sizeT P t = some e.es ∧ bytesT P t = some e.bs ∧ e.d % e.es = 0
  | .map es clock => ∃ es' : Array MapEntry, ob = some (.map es' clock) ∧ ERelL r es es'.toList
  | .siter s pos => ob = some (.stringIter s pos) ∧ e.d = 0
  | .miter m since seen stepped => e.d = 0 ∧ ∃ m', ob = some (.mapIter m' since seen.toArray stepped) ∧ VRel r (.map m) (.map m')

theorem ORel.mono {P : Program} {r r' : Ren} (hx : Ext r r') {e : Ent} {ob : Option Obj} : ∀ {o : AObj}, ORel P r e ob o → ORel P r' e ob o
  | .row _ _ _, ⟨c, lo, hi, h1, h2, h3, h4, h5⟩ => ⟨c, lo, hi, h1, h2, h3, h4.mono hx, h5⟩
  | .map _ _, ⟨es', h, h'⟩ => ⟨es', h, h'.mono hx⟩
  | .siter _ _, h => h
  | .miter _ _ _ _, ⟨hd, m', h, h'⟩ => ⟨hd, m', h, h'.mono hx⟩

/-- A world is as an abstract memory says. -/
structure HRel (P : Program) (r : Ren) (m : Mem) (w : World) : Prop where
  obj : ∀ id e o, r id = some e → m.t.get id = some o → ORel P r e w.heap[e.b]? o
  inj : ∀ i j e e' o o', i ≠ j → r i = some e → r j = some e' → m.t.get i = some o → m.t.get j = some o' → e.b ≠ e'.b
  lt : ∀ id e, r id = some e → e.b < w.heap.size
  fresh : ∀ id, m.n ≤ id → r id = none
  none_ : ∀ id, m.n ≤ id → m.t.get id = none
  glob : ∀ g, g < P.globals.size → ∃ e, r g = some e ∧ e.b = g ∧ e.d = 0

/-- A block that may be written. -/
def WB (r : Ren) (t : Tr) (b : Nat) : Prop := ∃ id e o, r id = some e ∧ t.get id = some o ∧ ro o = false ∧ e.b = b

/-- What a run does to the world. -/
structure Evo (r : Ren) (m : Mem) (w : World) (r' : Ren) (m' : Mem) (w' : World) : Prop where
  ext : Ext r r'
  num : m.n ≤ m'.n
  os : w'.os = w.os
  tape : w'.tape = w.tape
  output : w'.output = w.output
  size : w.heap.size ≤ w'.heap.size
  frame : ∀ b, b < w.heap.size → ¬ WB r m.t b → w'.heap[b]? = w.heap[b]?
  shrink : ∀ b, WB r' m'.t b → w.heap.size ≤ b ∨ WB r m.t b
  hid : ∀ id, id < m.n → r id = none → r' id = none ∧ m'.t.get id = m.t.get id

theorem Evo.refl (r : Ren) (m : Mem) (w : World) : Evo r m w r m w :=
  ⟨Ext.refl r, Nat.le_refl _, rfl, rfl, rfl, Nat.le_refl _, fun _ _ _ => rfl, fun _ h => .inr h, fun _ _ h => ⟨h, rfl⟩⟩

theorem Evo.trans {r r1 r2 : Ren} {m m1 m2 : Mem} {w w1 w2 : World} (h : Evo r m w r1 m1 w1) (k : Evo r1 m1 w1 r2 m2 w2) : Evo r m w r2 m2 w2 :=
  ⟨h.ext.trans k.ext, Nat.le_trans h.num k.num, k.os.trans h.os, k.tape.trans h.tape, k.output.trans h.output, Nat.le_trans h.size k.size,
   fun b hb hn => by
     rw [k.frame b (Nat.lt_of_lt_of_le hb h.size) (fun hw => by rcases h.shrink b hw with hh | hh; exact absurd hh (by omega); exact hn hh)]
     exact h.frame b hb hn,
   fun b hw => by
     rcases k.shrink b hw with hh | hh
     · exact .inl (Nat.le_trans h.size hh)
     · exact h.shrink b hh,
   fun id hi hn => by
     obtain ⟨h1, h2⟩ := h.hid id hi hn
     obtain ⟨h3, h4⟩ := k.hid id (Nat.lt_of_lt_of_le hi h.num) h1
     exact ⟨h3, h4.trans h2⟩⟩

/-- A draw alone. -/
theorem HRel.drawn {P : Program} {r : Ren} {m : Mem} {w : World} (h : HRel P r m w) (d : Nat) : HRel P r m { w with drawn := d } := ⟨h.obj, h.inj, h.lt, h.fresh, h.none_, h.glob⟩
theorem Evo.drawn (r : Ren) (m : Mem) (w : World) (d : Nat) : Evo r m w r m { w with drawn := d } :=
  ⟨Ext.refl r, Nat.le_refl _, rfl, rfl, rfl, Nat.le_refl _, fun _ _ _ => rfl, fun _ h => .inr h, fun _ _ h => ⟨h, rfl⟩⟩

/-- A renaming with one number more. -/
def Ren.with (r : Ren) (n : Nat) (e : Ent) : Ren := fun i => if i = n then some e else r i

theorem Ren.with_same (r : Ren) (n : Nat) (e : Ent) : r.with n e n = some e := by simp [Ren.with]
theorem Ren.with_ne (r : Ren) {n i : Nat} (e : Ent) (h : i ≠ n) : r.with n e i = r i := by simp [Ren.with, h]
theorem Ext.with {r : Ren} {n : Nat} (e : Ent) (h : r n = none) : Ext r (r.with n e) := fun i e' hi => by
  rw [Ren.with_ne]
  · exact hi
  · intro he; subst he; rw [h] at hi; cases hi

/-- A new object in a new block. -/
theorem HRel.alloc {P : Program} {r : Ren} {m : Mem} {w : World} (h : HRel P r m w) {x : AObj} {ob : Obj} {e : Ent} (d : Nat) (hb : e.b = w.heap.size)
    (ho : ORel P (r.with m.n e) e (some ob) x) :
    HRel P (r.with m.n e) ⟨m.t.set m.n (some x), m.n + 1⟩ { w with heap := w.heap.push ob, drawn := d } ∧
    Evo r m w (r.with m.n e) ⟨m.t.set m.n (some x), m.n + 1⟩ { w with heap := w.heap.push ob, drawn := d } := by
  have hx : Ext r (r.with m.n e) := Ext.with e (h.fresh _ (Nat.le_refl _))
  have hold : ∀ b, b < w.heap.size → (w.heap.push ob)[b]? = w.heap[b]? := fun b hb => by rw [Array.getElem?_push, if_neg (by omega)]
  have hnew : (w.heap.push ob)[e.b]? = some ob := by rw [hb]; simp
  refine ⟨⟨?_, ?_, ?_, ?_, ?_, ?_⟩, ⟨hx, Nat.le_succ _, rfl, rfl, rfl, by simp, fun b hb _ => hold b hb, ?_, fun id hi hn => ⟨by rw [Ren.with_ne _ _ (by omega)]; exact hn, Tri.get_set_ne _ _ (by omega)⟩⟩⟩
  · intro id e' o hr hg
    by_cases hi : id = m.n
    · subst hi
      rw [Ren.with_same] at hr; cases hr
      rw [Tri.get_set_same] at hg; cases hg
      show ORel P _ e (w.heap.push ob)[e.b]? x
      rw [hnew]; exact ho
    · rw [Ren.with_ne _ _ hi] at hr
      rw [Tri.get_set_ne _ _ hi] at hg
      show ORel P _ e' (w.heap.push ob)[e'.b]? o
      rw [hold _ (h.lt _ _ hr)]
      exact (h.obj _ _ _ hr hg).mono hx
  · intro i j e1 e2 o1 o2 hne hi hj gi gj
    by_cases ei : i = m.n
    · by_cases ej : j = m.n
      · omega
      · subst ei; rw [Ren.with_same] at hi; cases hi
        rw [Ren.with_ne _ _ ej] at hj
        have := h.lt _ _ hj; omega
    · by_cases ej : j = m.n
      · subst ej; rw [Ren.with_same] at hj; cases hj
        rw [Ren.with_ne _ _ ei] at hi
        have := h.lt _ _ hi; omega
      · rw [Ren.with_ne _ _ ei] at hi; rw [Ren.with_ne _ _ ej] at hj
        rw [Tri.get_set_ne _ _ ei] at gi; rw [Tri.get_set_ne _ _ ej] at gj
        exact h.inj _ _ _ _ _ _ hne hi hj gi gj
  · intro id e' hr
    show e'.b < (w.heap.push ob).size
    by_cases hi : id = m.n
    · subst hi; rw [Ren.with_same] at hr; cases hr; simp [hb]
    · rw [Ren.with_ne _ _ hi] at hr; have := h.lt _ _ hr; simp; omega
  · intro id hi
    have hi : m.n + 1 ≤ id := hi
    rw [Ren.with_ne _ _ (by omega)]; exact h.fresh _ (by omega)
  · intro id hi
    have hi : m.n + 1 ≤ id := hi
    show (m.t.set m.n (some x)).get id = none
    rw [Tri.get_set_ne _ _ (by omega)]; exact h.none_ _ (by omega)
  · intro g hg
    obtain ⟨e', h1, h2⟩ := h.glob g hg
    exact ⟨e', hx _ _ h1, h2⟩
  · rintro b ⟨id, e', o, hr, hg, hro, hb'⟩
    by_cases hi : id = m.n
    · subst hi; rw [Ren.with_same] at hr; cases hr; left; omega
    · rw [Ren.with_ne _ _ hi] at hr
      replace hg : (m.t.set m.n (some x)).get id = some o := hg
      rw [Tri.get_set_ne _ _ hi] at hg
      exact .inr ⟨id, e', o, hr, hg, hro, hb'⟩

/-- An object written in its block. -/
theorem HRel.write {P : Program} {r : Ren} {m : Mem} {w w' : World} (h : HRel P r m w) {id : Nat} {e : Ent} {o x : AObj} (hr : r id = some e) (hg : m.t.get id = some o) (hro : ro o = false)
    (hos : w'.os = w.os) (htape : w'.tape = w.tape) (hout : w'.output = w.output) (hsize : w'.heap.size = w.heap.size)
    (hoth : ∀ b, b ≠ e.b → w'.heap[b]? = w.heap[b]?) (ho : ORel P r e w'.heap[e.b]? x) :
    HRel P r ⟨m.t.set id (some x), m.n⟩ w' ∧ Evo r m w r ⟨m.t.set id (some x), m.n⟩ w' := by
  have hidn : id < m.n := by
    rcases Nat.lt_or_ge id m.n with hh | hh
    · exact hh
    · rw [h.fresh _ hh] at hr; cases hr
  refine ⟨⟨?_, ?_, ?_, h.fresh, ?_, h.glob⟩, ⟨Ext.refl r, Nat.le_refl _, hos, htape, hout, by omega, ?_, ?_, fun i _ hn => ⟨hn, Tri.get_set_ne _ _ (fun he => by subst he; rw [hr] at hn; cases hn)⟩⟩⟩
  · intro i e' o' hi hgi
    replace hgi : (m.t.set id (some x)).get i = some o' := hgi
    by_cases hii : i = id
    · subst hii; rw [hr] at hi; cases hi; rw [Tri.get_set_same] at hgi; cases hgi; exact ho
    · rw [Tri.get_set_ne _ _ hii] at hgi
      rw [hoth _ (h.inj _ _ _ _ _ _ hii hi hr hgi hg)]
      exact h.obj _ _ _ hi hgi
  · intro i j e1 e2 o1 o2 hne hi hj gi gj
    replace gi : (m.t.set id (some x)).get i = some o1 := gi
    replace gj : (m.t.set id (some x)).get j = some o2 := gj
    have live : ∀ k o, (m.t.set id (some x)).get k = some o → ∃ o', m.t.get k = some o' := fun k o hk => by
      by_cases e : k = id
      · subst e; exact ⟨_, hg⟩
      · rw [Tri.get_set_ne _ _ e] at hk; exact ⟨_, hk⟩
    obtain ⟨_, gi'⟩ := live _ _ gi
    obtain ⟨_, gj'⟩ := live _ _ gj
    exact h.inj _ _ _ _ _ _ hne hi hj gi' gj'
  · intro i e' hi; rw [hsize]; exact h.lt _ _ hi
  · intro i hi
    have hi : m.n ≤ i := hi
    show (m.t.set id (some x)).get i = none
    rw [Tri.get_set_ne _ _ (by omega)]; exact h.none_ _ hi
  · intro b hb hn
    exact hoth b fun he => hn ⟨id, e, o, hr, hg, hro, he.symm⟩
  · rintro b ⟨i, e', o', hi, hgi, hro', hb⟩
    replace hgi : (m.t.set id (some x)).get i = some o' := hgi
    by_cases hii : i = id
    · subst hii; rw [hr] at hi; cases hi; exact .inr ⟨i, e, o, hr, hg, hro, hb⟩
    · rw [Tri.get_set_ne _ _ hii] at hgi
      exact .inr ⟨i, e', o', hi, hgi, hro', hb⟩

/-- An object that is given up. -/
theorem HRel.kill {P : Program} {r : Ren} {m : Mem} {w : World} (h : HRel P r m w) {id : Nat} {e0 : Ent} (hr0 : r id = some e0) : HRel P r ⟨m.t.set id none, m.n⟩ w ∧ Evo r m w r ⟨m.t.set id none, m.n⟩ w := by
  have back : ∀ i o, (m.t.set id none).get i = some o → m.t.get i = some o := fun i o hi => by
    by_cases e : i = id
    · subst e; rw [Tri.get_set_same] at hi; cases hi
    · rwa [Tri.get_set_ne _ _ e] at hi
  refine ⟨⟨fun i e o hr hg => h.obj _ _ _ hr (back _ _ hg), fun i j e e' o o' hne hi hj gi gj => h.inj _ _ _ _ _ _ hne hi hj (back _ _ gi) (back _ _ gj), h.lt, h.fresh, fun i hi => ?_, h.glob⟩,
    ⟨Ext.refl r, Nat.le_refl _, rfl, rfl, rfl, Nat.le_refl _, fun _ _ _ => rfl, ?_, fun i _ hn => ⟨hn, Tri.get_set_ne _ _ (fun he => by subst he; rw [hr0] at hn; cases hn)⟩⟩⟩
  · show (m.t.set id none).get i = none
    by_cases e : i = id
    · subst e; rw [Tri.get_set_same]
    · rw [Tri.get_set_ne _ _ e]; exact h.none_ _ hi
  · rintro b ⟨i, e, o, hr, hg, hro, hb⟩
    exact .inr ⟨i, e, o, hr, back _ _ hg, hro, hb⟩

end Go.Am
