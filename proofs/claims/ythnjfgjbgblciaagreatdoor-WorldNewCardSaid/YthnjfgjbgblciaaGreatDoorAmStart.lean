import Derived.Test.YthnjfgjbgblciaaGreatDoorAmSeat3
import Derived.Test.YthnjfgjbgblciaaGreatDoorAmSeat1
import Derived.Test.YthnjfgjbgblciaaGreatDoorGE
import Derived.KernelRfl
import Derived.Test.YthnjfgjbgblciaaGreatDoorTie
/-
  THE START: a world that holds the two tables is as the abstract memory says.
-/
namespace Go.Proofs.YthnjfgjbgblciaaGreatDoor
open Go Go.Am Go.RowKit
set_option maxRecDepth 100000

theorem flats_ok : allL (fun t => !Tryz.prog.stoodInHeld t && !Tryz.prog.eqGuardType Tryz.prog.depth t && (match under Tryz.prog t with | some (.struct fs) => allL (fun f => !decide (f.name = "_")) fs.toList | _ => true)) cfg.flats = true := by kernel_rfl
theorem flatOk : ∀ t, cfg.flats.contains t = true → FlatOk Tryz.prog t := by
  intro t ht
  have h := allL_mem flats_ok t (List.contains_iff_mem.1 ht)
  simp only [Bool.and_eq_true, Bool.not_eq_true'] at h
  obtain ⟨⟨h1, h2⟩, h3⟩ := h
  refine ⟨h1, h2, fun fs hf f hm => ?_⟩
  rw [hf] at h3
  have := allL_mem h3 f hm
  simpa using this
theorem plans : AllPlans Tryz.prog cfg := allPlans_congr (C := cfg0) rfl (allPlans_of plansB_ok)
theorem primOk : PrimOk Tryz.prog cfg := fun _ _ _ _ _ h => by cases h

noncomputable def entsG : List Ent := [⟨0, 0, 256, 256, 256⟩, ⟨1, 0, 32, 32, 32⟩, ⟨2, 0, 0, 0, 0⟩]
noncomputable def rowFirst : List Value := n8s Go.Pinned.utf8FirstZ
noncomputable def rowAcc : List Value := u8s accL
theorem gsize : Tryz.prog.globals.size = 3 := by kernel_rfl

/-- Both tables, as the rows list them. -/
def laid2 : List (String × DataW Unit) := [("unicode/utf8.acceptRanges", Rows.laid_unicode_utf8_acceptRanges), ("unicode/utf8.first", Rows.laid_unicode_utf8_first)]

theorem heap_glob {W : World} (hsh : W.ShapedOpen Tryz.prog) (g : Nat) (hg : g < 3) : g < W.heap.size := by
  obtain ⟨h1, _⟩ := hsh
  have h2 : ∀ g, g < 3 → ∃ zero t, ((begin Tryz.prog (fun _ _ => 0) default).world.heap[g]?).bind Obj.row? = some (zero, t) := by
    have h3 : allN (fun g => (((begin Tryz.prog (fun _ _ => 0) default).world.heap[g]?).bind Obj.row?).isSome) 3 = true := by kernel_rfl
    intro g hg
    have := allN_ok h3 g hg
    obtain ⟨⟨a, b⟩, hx⟩ := Option.isSome_iff_exists.1 this
    exact ⟨a, b, hx⟩
  obtain ⟨zero, t, h3⟩ := h2 g hg
  obtain ⟨cs, h4, _⟩ := h1 g zero t (by rw [gsize]; exact hg) h3
  exact (Array.getElem?_eq_some_iff.1 h4).1

theorem heap_type {W : World} (hsh : W.ShapedOpen Tryz.prog) {g : Nat} {t : TypeId} (hg : g < 3) (ht : (((begin Tryz.prog (fun _ _ => 0) default).world.heap[g]?).bind Obj.row?).map (·.2) = some t) {c : Array Value} {u : TypeId} {fr : Nat × Nat}
    (hc : W.heap[g]? = some (.cells c u fr)) : u = t ∧ fr = (0, 0) := by
  obtain ⟨h1, _⟩ := hsh
  cases hx : ((begin Tryz.prog (fun _ _ => 0) default).world.heap[g]?).bind Obj.row? with
  | none => rw [hx] at ht; cases ht
  | some p =>
    obtain ⟨zero, t'⟩ := p
    rw [hx] at ht
    cases ht
    obtain ⟨cs, h4, _⟩ := h1 g zero _ (by rw [gsize]; exact hg) hx
    rw [h4] at hc
    cases hc
    exact ⟨rfl, rfl⟩

theorem tr0_get (i : Nat) (o : AObj) (h : tr0.get i = some o) : (i = 0 ∧ o = .row rowFirst 305 515) ∨ (i = 1 ∧ o = .row rowAcc 308 67) := by
  unfold tr0 at h
  rw [Tri.get_set] at h
  by_cases h2 : i = 1
  · rw [if_pos h2] at h; cases h; exact .inr ⟨h2, rfl⟩
  · rw [if_neg h2, Tri.get_set] at h
    by_cases h1 : i = 0
    · rw [if_pos h1] at h; cases h; exact .inl ⟨h1, rfl⟩
    · rw [if_neg h1, Tri.get_nil] at h; cases h

theorem tr0_ro : AllRo tr0 := by
  intro i o h
  rcases tr0_get i o h with ⟨_, rfl⟩ | ⟨_, rfl⟩ <;> kernel_rfl

theorem row1 {W : World} (hsh : W.ShapedOpen Tryz.prog) {ps : List MemPlace} (hL : DataW.LaidVars Tryz.prog W laid2 ps) (r : Ren) : ORel Tryz.prog r ⟨0, 0, 256, 256, 256⟩ W.heap[0]? (.row rowFirst 305 515) := by
  obtain ⟨c, u, fr, hc, hl⟩ := laid_var hL (n := "unicode/utf8.first") (d := Rows.laid_unicode_utf8_first) (v := rowFirst) (g := 0) (k := 4) (t := 305) (by simp [laid2]) (by kernel_rfl) (by kernel_rfl) (by kernel_rfl) (by kernel_rfl)
  obtain ⟨rfl, rfl⟩ := heap_type hsh (g := 0) (t := 305) (by decide) (by kernel_rfl) hc
  exact row_start hc hl (allL_rel (by kernel_rfl)) (by decide +kernel) rfl (show 256 = rowFirst.length by kernel_rfl) (show sizeT Tryz.prog 305 = some 256 by kernel_rfl) (show bytesT Tryz.prog 305 = some 256 by kernel_rfl) rfl

theorem row2 {W : World} (hsh : W.ShapedOpen Tryz.prog) {ps : List MemPlace} (hL : DataW.LaidVars Tryz.prog W laid2 ps) (r : Ren) : ORel Tryz.prog r ⟨1, 0, 32, 32, 32⟩ W.heap[1]? (.row rowAcc 308 67) := by
  obtain ⟨c, u, fr, hc, hl⟩ := laid_var hL (n := "unicode/utf8.acceptRanges") (d := Rows.laid_unicode_utf8_acceptRanges) (v := rowAcc) (g := 1) (k := 4) (t := 308) (by simp [laid2]) (by kernel_rfl) (by kernel_rfl) (by kernel_rfl) (by kernel_rfl)
  obtain ⟨rfl, rfl⟩ := heap_type hsh (g := 1) (t := 308) (by decide) (by kernel_rfl) hc
  exact row_start hc hl (allL_rel (by kernel_rfl)) (by decide +kernel) rfl (show 32 = rowAcc.length by kernel_rfl) (show sizeT Tryz.prog 308 = some 32 by kernel_rfl) (show bytesT Tryz.prog 308 = some 32 by kernel_rfl) rfl

/-- With what else lies in memory (of the arguments). -/
theorem start {W : World} (hsh : W.ShapedOpen Tryz.prog) {ps : List MemPlace} (hL : DataW.LaidVars Tryz.prog W laid2 ps) (ex : List Ent) (hex : ∀ e ∈ ex, e.b < W.heap.size) : HRel Tryz.prog (renOf (entsG ++ ex)) ⟨tr0, (entsG ++ ex).length⟩ W := by
  refine StartOk.rel ⟨?_, ?_, ?_⟩ (by rw [gsize]; simp [entsG])
  · intro e he
    rcases List.mem_append.1 he with he | he
    · have h9 := heap_glob hsh
      simp only [entsG, List.mem_cons, List.mem_nil_iff, or_false] at he
      rcases he with rfl | rfl | rfl <;> exact h9 _ (by decide)
    · exact hex e he
  · intro g hg
    rw [gsize] at hg
    have : ∀ g, g < 3 → ∃ e : Ent, entsG[g]? = some e ∧ e.b = g ∧ e.d = 0 := by
      intro g hg
      match g, hg with
      | 0, _ => exact ⟨_, rfl, rfl, rfl⟩
      | 1, _ => exact ⟨_, rfl, rfl, rfl⟩
      | 2, _ => exact ⟨_, rfl, rfl, rfl⟩
      | n + 3, h => omega
    obtain ⟨e, h1, h2, h3⟩ := this g hg
    exact ⟨e, by rw [List.getElem?_append_left (by simp [entsG]; omega)]; exact h1, h2, h3⟩
  · intro i o hi
    rw [gsize]
    rcases tr0_get i o hi with ⟨rfl, rfl⟩ | ⟨rfl, rfl⟩
    · exact ⟨by decide, _, rfl, rfl, row1 hsh hL _⟩
    · exact ⟨by decide, _, rfl, rfl, row2 hsh hL _⟩

end Go.Proofs.YthnjfgjbgblciaaGreatDoor
