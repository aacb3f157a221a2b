import Derived.Test.YthnjfgjbgblciaaGreatDoorAm35
import GoSem.ClaimWide
/-
  THE ABSTRACT MACHINE, 37: arguments by their kinds.
-/
namespace Go.Am

section
variable {P : Program} {w : World} {t : TypeId} {v : Value} {b : Nat}

theorem arg_int {k : IntKind} (hu : P.underlying t = some (.int k)) (h : Cell.okWide P w .any b t v) : ∃ n, v = .int k n := by
  unfold Cell.okWide at h
  rw [hu] at h
  unfold Cell.ok at h
  cases v <;> simp [hu] at h
  obtain ⟨rfl, _⟩ := h
  exact ⟨_, rfl⟩

theorem arg_bool (hu : P.underlying t = some .bool) (h : Cell.okWide P w .any b t v) : ∃ n, v = .bool n := by
  unfold Cell.okWide at h
  rw [hu] at h
  unfold Cell.ok at h
  cases v <;> simp [hu] at h
  exact ⟨_, rfl⟩

theorem arg_string (hu : P.underlying t = some .string) (h : Cell.okWide P w .any b t v) : ∃ n, v = .string n := by
  unfold Cell.okWide at h
  rw [hu] at h
  unfold Cell.ok at h
  cases v <;> simp [hu] at h
  exact ⟨_, rfl⟩

/-- Where a slice that came in lies. -/
def sliceEnt : Value → Ent
  | .slice (some a) _ c => ⟨a.block, a.off, a.off + c, 1, 1⟩
  | _ => ⟨0, 0, 0, 0, 0⟩
/-- Its name. -/
def sliceAs (i : Nat) : Value → Value
  | .slice (some _) l c => .slice (some ⟨i, 0, none⟩) l c
  | _ => .slice none 0 0

theorem arg_slice {e : TypeId} (hu : P.underlying t = some (.slice e)) (h : Cell.okWide P w .any b t v) (h0 : 0 < w.heap.size) : (sliceEnt v).b < w.heap.size ∧ ∀ (r : Ren) (i : Nat), r i = some (sliceEnt v) → VRel r (sliceAs i v) v := by
  unfold Cell.okWide at h
  rw [hu] at h
  unfold Cell.ok at h
  cases v <;> simp [hu] at h
  case slice a l c =>
    cases a with
    | none =>
      cases l <;> cases c <;> first | exact ⟨h0, fun r i _ => .snil⟩ | (simp at h)
    | some a =>
      obtain ⟨h1, h2, h3, h4, row, cells, h5, _⟩ := h
      refine ⟨?_, fun r i hr => ?_⟩
      · show a.block < w.heap.size
        unfold World.shape? at h5
        cases hh : w.heap[a.block]? with
        | none => rw [hh] at h5; simp at h5
        | some o => exact (Array.getElem?_eq_some_iff.1 hh).1
      · obtain ⟨ab, ao, as_⟩ := a
        simp only at h4
        subst h4
        exact VRel.slice (id := i) (e := ⟨ab, ao, ao + c, 1, 1⟩) hr (fun _ => by simp) (Nat.le_refl _) h1 (fun h => by cases h) (by simp) trivial (Nat.mod_one _)

end
end Go.Am
