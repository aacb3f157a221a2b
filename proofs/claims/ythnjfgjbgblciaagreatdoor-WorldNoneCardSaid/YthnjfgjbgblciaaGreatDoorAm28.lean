import Derived.Test.YthnjfgjbgblciaaGreatDoorAm27
/-
  THE ABSTRACT MACHINE, 28: the test of what is taken of the program.
-/
namespace Go.Am

/-- Of each number below n. -/
noncomputable def allN (f : Nat → Bool) : Nat → Bool
  | 0 => true
  | n + 1 => f n && allN f n

theorem allN_ok {f : Nat → Bool} : ∀ {n : Nat}, allN f n = true → ∀ i, i < n → f i = true
  | 0, _, i, h => by omega
  | n + 1, h, i, hi => by
    simp only [allN, Bool.and_eq_true] at h
    by_cases e : i = n
    · subst e; exact h.1
    · exact allN_ok h.2 i (by omega)

/-- A type's zero value is plain and of the type's size; a struct's fields have sizes. -/
noncomputable def typeB (P : Program) (t : TypeId) : Bool :=
  (match zeroT P t with
  | some z => goodZ z && (match sizeT P t with | some s => Nat.beq z.cells.size s | none => true)
  | none => true) &&
  (match under P t with
  | some (.struct fs) => allL (fun f => (sizeT P f.type).isSome) fs.toList
  | _ => true)

/-- What the three functions of the library's without a body are in the table. -/
noncomputable def nextB (fn : Func) : Bool :=
  fn.body.isSome || !(fn.name == "internal/abi.NoEscape" || fn.name == "internal/bytealg.MakeNoZero" || fn.name == "internal/bytealg.abigen_runtime_cmpstring") || (Extern.findNext fn).isNone

theorem pgood_of {P : Program} (hm : P.follows .mixedOrders = true) (ht : allN (typeB P) P.types.size = true) (hn : allL nextB P.funcs.toList = true) : PGood P := by
  have one : ∀ t z, zeroT P t = some z → goodZ z = true ∧ (∀ s, sizeT P t = some s → z.cells.size = s) ∧ ∀ fs, under P t = some (.struct fs) → ∀ f ∈ fs.toList, (sizeT P f.type).isSome = true := by
    intro t z hz
    have h := allN_ok ht t (zeroT_info hz).1
    unfold typeB at h
    rw [hz] at h
    simp only [Bool.and_eq_true] at h
    obtain ⟨⟨h1, h2⟩, h3⟩ := h
    refine ⟨h1, fun s hs => ?_, fun fs hf => ?_⟩
    · rw [hs] at h2; exact Nat.eq_of_beq_eq_true h2
    · rw [hf] at h3; exact allL_mem h3
  refine ⟨fun t z hz => (one t z hz).1, fun t z s hz hs => (one t z hz).2.1 s hs, fun t fs z hz hu => (one t z hz).2.2 fs hu, hm, fun f fn hf hb hname => ?_⟩
  have h := allL_mem hn fn (by rw [← Array.getElem?_toList] at hf; exact List.mem_of_getElem? hf)
  unfold nextB at h
  cases hbo : fn.body with
  | some c => rw [hbo] at hb; cases hb
  | none =>
    rw [hbo] at h
    cases hfn : Extern.findNext fn with
    | none => rfl
    | some x =>
      rw [hfn] at h
      rcases hname with e | e | e <;> rw [e] at h <;> simp at h

theorem allPlans_congr {P : Program} {C C' : Cfg} (h : C'.plan = C.plan) (hp : AllPlans P C) : AllPlans P C' := by
  have code : ∀ f c, PlansOk P C f c → PlansOk P C' f c := by
    intro f c
    induction c with
    | region id ops draw =>
      intro hc
      cases draw with
      | false => trivial
      | true => intro plan ps hpl; rw [h] at hpl; exact hc plan ps hpl
    | seq a b iha ihb => exact fun hc => ⟨iha hc.1, ihb hc.2⟩
    | cond c a b iha ihb => exact fun hc => ⟨iha hc.1, ihb hc.2⟩
    | block id a ih => exact fun hc => ih hc
    | loop a ih => exact fun hc => ih hc
    | _ => exact fun _ => trivial
  exact fun f fn c hf hb => code f c (hp f fn c hf hb)

end Go.Am
