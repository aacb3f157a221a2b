import Derived.Test.YthnjfgjbgblciaaGreatDoorAm1
import Derived.Laws.Sem
import Derived.Below
/-
  THE ABSTRACT MACHINE, 2: when a world is as an abstract heap says.
-/
namespace Go.Am

/-- Where an abstract number stands: block, first cell; of a row: all cells of the block, cells and bytes of an element. -/
structure Ent where
  b : Nat
  d : Nat
  size : Nat
  es : Nat
  bs : Nat

abbrev Ren := Nat → Option Ent

mutual
inductive VRel (r : Ren) : Value → Value → Prop where
  | junk (v : Value) (h : v.oneCell' = true) : VRel r (.chan (some 0)) v
  | bad (v : Value) : VRel r (.chan (some 1)) v
  | bool (b : Bool) : VRel r (.bool b) (.bool b)
  | int (k : IntKind) (n : Int) : VRel r (.int k n) (.int k n)
  | float (k : FloatKind) (n : Nat) : VRel r (.float k n) (.float k n)
  | complex (k : FloatKind) (a b : Nat) : VRel r (.complex k a b) (.complex k a b)
  | string (s : ByteArray) : VRel r (.string s) (.string s)
  | pnil : VRel r (.pointer none) (.pointer none)
  | ptr {id off : Nat} {e : Ent} (h : r id = some e) : VRel r (.pointer (some ⟨id, off, none⟩)) (.pointer (some ⟨e.b, e.d + off, none⟩))
  | snil : VRel r (.slice none 0 0) (.slice none 0 0)
  | slice {id off off' len cap cap' : Nat} {sp : Option Nat} {e : Ent} (h : r id = some e) (ho : 0 < cap → off' = e.d + off) (hc : cap ≤ cap') (hl : len ≤ cap)
      (hx : sp = some 1 → cap' = cap) (hr : off' + cap' * e.es ≤ e.size) (hb : True) (ha : off' % e.es = 0) :
      VRel r (.slice (some ⟨id, off, sp⟩) len cap) (.slice (some ⟨e.b, off', none⟩) len cap')
  | mnil : VRel r (.map none) (.map none)
  | map {id : Nat} {e : Ent} (h : r id = some e) : VRel r (.map (some id)) (.map (some e.b))
  | chnil : VRel r (.chan none) (.chan none)
  | func (fn : Fn) {a b a' b' : Array Value} (h : VRelL r a.toList a'.toList) (h' : VRelL r b.toList b'.toList) : VRel r (.func fn a b) (.func fn a' b')
  | nilFunc : VRel r .nilFunc .nilFunc
  | iface (t : TypeId) {v v' : Value} (h : VRel r v v') : VRel r (.iface t v) (.iface t v')
  | nilIface : VRel r .nilIface .nilIface
  | agg {a a' : Array Value} (h : VRelL r a.toList a'.toList) : VRel r (.agg a) (.agg a')
  | tuple {a a' : Array Value} (h : VRelL r a.toList a'.toList) : VRel r (.tuple a) (.tuple a')
inductive VRelL (r : Ren) : List Value → List Value → Prop where
  | nil : VRelL r [] []
  | cons {v v' : Value} {l l' : List Value} (h : VRel r v v') (t : VRelL r l l') : VRelL r (v :: l) (v' :: l')
end

/-- A renaming that knows more. -/
def Ext (r r' : Ren) : Prop := ∀ id e, r id = some e → r' id = some e

theorem Ext.refl (r : Ren) : Ext r r := fun _ _ h => h
theorem Ext.trans {a b c : Ren} (h : Ext a b) (k : Ext b c) : Ext a c := fun _ _ x => k _ _ (h _ _ x)

mutual
theorem VRel.mono {r r' : Ren} (hx : Ext r r') : ∀ {v v' : Value}, VRel r v v' → VRel r' v v'
  | _, _, .junk v h => .junk v h
  | _, _, .bad v => .bad v
  | _, _, .bool b => .bool b
  | _, _, .int k n => .int k n
  | _, _, .float k n => .float k n
  | _, _, .complex k a b => .complex k a b
  | _, _, .string s => .string s
  | _, _, .pnil => .pnil
  | _, _, .ptr h => .ptr (hx _ _ h)
  | _, _, .snil => .snil
  | _, _, .slice h ho hc hl hs hr hb ha => .slice (hx _ _ h) ho hc hl hs hr hb ha
  | _, _, .mnil => .mnil
  | _, _, .map h => .map (hx _ _ h)
  | _, _, .chnil => .chnil
  | _, _, .func fn h h' => .func fn (h.mono hx) (h'.mono hx)
  | _, _, .nilFunc => .nilFunc
  | _, _, .iface t h => .iface t (h.mono hx)
  | _, _, .nilIface => .nilIface
  | _, _, .agg h => .agg (h.mono hx)
  | _, _, .tuple h => .tuple (h.mono hx)
theorem VRelL.mono {r r' : Ren} (hx : Ext r r') : ∀ {l l' : List Value}, VRelL r l l' → VRelL r' l l'
  | _, _, .nil => .nil
  | _, _, .cons h t => .cons (h.mono hx) (t.mono hx)
end

/-! lists -/

theorem VRelL.length {r : Ren} {l l' : List Value} (h : VRelL r l l') : l.length = l'.length := by
  induction l generalizing l' with
  | nil => cases h; rfl
  | cons a l ih => cases h with | cons _ t => simp [ih t]

theorem VRelL.get {r : Ren} {l l' : List Value} (h : VRelL r l l') {i : Nat} {v : Value} (hv : l[i]? = some v) : ∃ v', l'[i]? = some v' ∧ VRel r v v' := by
  induction l generalizing l' i with
  | nil => simp at hv
  | cons a l ih =>
    cases h with
    | cons h t =>
      cases i with
      | zero => simp at hv; subst hv; exact ⟨_, rfl, h⟩
      | succ i => simp at hv; simpa using ih t hv

theorem VRelL.append {r : Ren} {a a' b b' : List Value} (h : VRelL r a a') (k : VRelL r b b') : VRelL r (a ++ b) (a' ++ b') := by
  induction a generalizing a' with
  | nil => cases h; simpa using k
  | cons x l ih => cases h with | cons h t => exact .cons h (ih t)

theorem VRelL.take {r : Ren} {a a' : List Value} (h : VRelL r a a') (n : Nat) : VRelL r (a.take n) (a'.take n) := by
  induction a generalizing a' n with
  | nil => cases h; simp; exact .nil
  | cons x l ih => cases h with | cons h t => cases n with | zero => exact .nil | succ n => exact .cons h (ih t n)

theorem VRelL.drop {r : Ren} {a a' : List Value} (h : VRelL r a a') (n : Nat) : VRelL r (a.drop n) (a'.drop n) := by
  induction a generalizing a' n with
  | nil => cases h; simp; exact .nil
  | cons x l ih => cases h with | cons h t => cases n with | zero => exact .cons h t | succ n => exact ih t n

theorem VRelL.of_get {r : Ren} : ∀ {l l' : List Value}, l.length = l'.length → (∀ (i : Nat) (v v' : Value), l[i]? = some v → l'[i]? = some v' → VRel r v v') → VRelL r l l'
  | [], [], _, _ => .nil
  | a :: l, b :: l', hl, h => .cons (h 0 a b rfl rfl) (VRelL.of_get (by simpa using hl) fun i v v' x y => h (i + 1) v v' (by simpa using x) (by simpa using y))
  | [], _ :: _, hl, _ => by simp at hl
  | _ :: _, [], hl, _ => by simp at hl

theorem VRelL.map {r : Ren} {α : Type} (f g : α → Value) (h : ∀ x, VRel r (f x) (g x)) : ∀ l : List α, VRelL r (l.map f) (l.map g)
  | [] => .nil
  | x :: l => .cons (h x) (VRelL.map f g h l)

theorem VRelL.replicate_junk {r : Ren} : ∀ (n : Nat) (l : List Value), l.length = n → (∀ v ∈ l, v.oneCell' = true) → VRelL r (List.replicate n junk) l
  | 0, [], _, _ => .nil
  | n + 1, v :: l, h, k => .cons (.junk v (k v (by simp))) (VRelL.replicate_junk n l (by simpa using h) (fun u hu => k u (by simp [hu])))
  | 0, _ :: _, h, _ => by simp at h
  | _ + 1, [], h, _ => by simp at h

mutual
theorem VRel.ground {r : Ren} : ∀ {v v' : Value}, ground v = true → VRel r v v' → v' = v
  | _, _, h, .junk v _ => by simp [Am.ground] at h
  | _, _, h, .bad v => by simp [Am.ground] at h
  | _, _, _, .bool b => rfl
  | _, _, _, .int k n => rfl
  | _, _, _, .float k n => rfl
  | _, _, _, .complex k a b => rfl
  | _, _, _, .string s => rfl
  | _, _, _, .pnil => rfl
  | _, _, h, .ptr _ => by simp [Am.ground] at h
  | _, _, _, .snil => rfl
  | _, _, h, .slice .. => by simp [Am.ground] at h
  | _, _, _, .mnil => rfl
  | _, _, h, .map _ => by simp [Am.ground] at h
  | _, _, _, .chnil => rfl
  | .func fn a b, .func _ a' b', h, .func _ h1 h2 => by
    simp only [Am.ground, Bool.and_eq_true] at h
    have e1 := VRelL.ground (l := a.toList) (by cases a; simpa [groundA] using h.1) h1
    have e2 := VRelL.ground (l := b.toList) (by cases b; simpa [groundA] using h.2) h2
    cases a; cases b; cases a'; cases b'; simp at e1 e2; simp [e1, e2]
  | _, _, _, .nilFunc => rfl
  | .iface t v, .iface _ v', h, .iface _ h1 => by
    simp only [Am.ground] at h
    rw [VRel.ground h h1]
  | _, _, _, .nilIface => rfl
  | .agg a, .agg a', h, .agg h1 => by
    simp only [Am.ground] at h
    have e1 := VRelL.ground (l := a.toList) (by cases a; simpa [groundA] using h) h1
    cases a; cases a'; simp at e1; simp [e1]
  | .tuple a, .tuple a', h, .tuple h1 => by
    simp only [Am.ground] at h
    have e1 := VRelL.ground (l := a.toList) (by cases a; simpa [groundA] using h) h1
    cases a; cases a'; simp at e1; simp [e1]
theorem VRelL.ground {r : Ren} : ∀ {l l' : List Value}, groundL l = true → VRelL r l l' → l' = l
  | _, _, _, .nil => rfl
  | _, _, h, .cons h1 t => by
    simp only [groundL, Bool.and_eq_true] at h
    rw [VRel.ground h.1 h1, VRelL.ground h.2 t]
end

end Go.Am
