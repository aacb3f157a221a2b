import Derived.Test.YthnjfgjbgblciaaGreatDoorAm32
import Derived.Below
/-
  THE ABSTRACT MACHINE, 33: from a run that answers true to the call; the start.
-/
namespace Go.Am
open Go.RowKit

/-- It answers true. -/
noncomputable def isTrueR (r : Option (Value × Mem)) : Bool :=
  Option.rec (motive := fun _ => Bool) false (fun p => Prod.rec (motive := fun _ => Bool) (fun v _ => Option.rec (motive := fun _ => Bool) false (fun b => b) (vBool v)) p) r

theorem isTrueR_ok {r : Option (Value × Mem)} (h : isTrueR r = true) : ∃ m, r = some (.bool true, m) := by
  cases r with
  | none => cases h
  | some p =>
    obtain ⟨v, m⟩ := p
    replace h : Option.rec (motive := fun _ => Bool) false (fun b => b) (vBool v) = true := h
    cases hv : vBool v with
    | none => rw [hv] at h; cases h
    | some b =>
      rw [hv] at h
      replace h : b = true := h
      subst h
      exact ⟨m, by rw [vBool_some hv]⟩

/-- What is known at the start: a number an entry. -/
noncomputable def renOf (l : List Ent) : Ren := fun i => l[i]?

/-- Every known object is never written. -/
def AllRo (t : Tr) : Prop := ∀ i o, t.get i = some o → ro o = true

theorem true_calls {P : Program} {C : Cfg} (hP : PGood P) (hfl : ∀ t, C.flats.contains t = true → FlatOk P t) (hprim : PrimOk P C) (hplans : AllPlans P C) {k : Nat} {f : FuncId} {args args' : List Value} {r : Ren} {m : Mem} {W : World}
    (hE : isTrueR (fCall P C k f args m) = true) (hH : HRel P r m W) (hro : AllRo m.t) (hargs : VRelL r args args') :
    Calls P f ⟨args'⟩ W fun e W' => e = .returned (.bool true) ∧ Below W.heap.size W W' := by
  obtain ⟨m', hm'⟩ := isTrueR_ok hE
  rw [fCall_eq] at hm'
  refine (call_sound hP hfl hprim hplans k f args m _ m' hm' r W args' hH hargs).mono fun e W' he => ?_
  cases e with
  | returned v' =>
    obtain ⟨r', h1, h2, h3⟩ := he
    cases h3
    refine ⟨rfl, h2.os, h2.tape, h2.output, h2.size, fun b hb => h2.frame b hb ?_⟩
    rintro ⟨id, e, o, _, h5, h6, _⟩
    rw [hro id o h5] at h6
    cases h6
  | panicked c => exact he.elim
  | outgrown => exact he.elim

/-- Where a known object lies. -/
structure StartOk (P : Program) (W : World) (l : List Ent) (t : Tr) : Prop where
  lt : ∀ e ∈ l, e.b < W.heap.size
  glob : ∀ g, g < P.globals.size → ∃ e, l[g]? = some e ∧ e.b = g ∧ e.d = 0
  objs : ∀ i o, t.get i = some o → i < P.globals.size ∧ ∃ e, l[i]? = some e ∧ e.b = i ∧ ORel P (renOf l) e W.heap[i]? o

theorem StartOk.rel {P : Program} {W : World} {l : List Ent} {t : Tr} (h : StartOk P W l t) (hl : P.globals.size ≤ l.length) : HRel P (renOf l) ⟨t, l.length⟩ W := by
  refine ⟨?_, ?_, ?_, ?_, ?_, h.glob⟩
  · intro id e o hr ho
    obtain ⟨_, e', h1, h2, h3⟩ := h.objs id o ho
    have : e' = e := Option.some.inj (h1.symm.trans hr)
    subst this
    rw [h2]; exact h3
  · intro i j e e' o o' hij hi hj ho ho'
    obtain ⟨_, e1, h1, h2, _⟩ := h.objs i o ho
    obtain ⟨_, e2, k1, k2, _⟩ := h.objs j o' ho'
    have a1 : e1 = e := Option.some.inj (h1.symm.trans hi)
    have a2 : e2 = e' := Option.some.inj (k1.symm.trans hj)
    subst a1 a2
    omega
  · intro id e hr
    exact h.lt e (List.mem_of_getElem? hr)
  · intro id hid
    exact List.getElem?_eq_none hid
  · intro id hid
    cases ho : t.get id with
    | none => rfl
    | some o =>
      have := (h.objs id o ho).1
      simp only at hid
      omega

/-- A row of the start that is never written. -/
theorem row_start {P : Program} {r : Ren} {e : Ent} {ob : Option Obj} {cs : List Value} {c : Array Value} {t : TypeId} {fz : Nat} (hob : ob = some (.cells c t)) (hc : c.toList = cs) (hcs : VRelL r cs cs) (_hfz : cs.length < fz / 2)
    (hd : e.d = 0) (hs : e.size = cs.length) (h1 : sizeT P t = some e.es) (h2 : bytesT P t = some e.bs) (hodd : fz % 2 = 1) : ORel P r e ob (.row cs t fz) := by
  have hl : c.size = cs.length := by rw [← hc]; simp
  refine ⟨c, 0, 0, hob, by omega, by omega, ?_, ⟨fun x h3 h4 => by omega, fun h => by omega⟩, h1, h2, by rw [hd]; simp⟩
  rw [hd, List.drop_zero, hc, List.take_length]
  exact hcs

end Go.Am
