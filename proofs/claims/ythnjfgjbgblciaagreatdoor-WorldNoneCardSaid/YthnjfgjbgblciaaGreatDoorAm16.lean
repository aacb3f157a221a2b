import Derived.Test.YthnjfgjbgblciaaGreatDoorAm15
import Derived.Lib.ConvBytes
import Derived.Room.MakeNoZero
import Derived.Lib.UnsafeStr
/-
  THE ABSTRACT MACHINE, 16: a string's bytes as a slice; the library's entries; calls.
-/
namespace Go.Am

section
variable {P : Program} {r : Ren} {m : Mem} {w : World} {rs : Rs} {a : Act} {o : Oper} {A : Prop} {res : OpR}

theorem convert_cases {t : Tr} {src dst : TypeId} {x : Operand} (h : convertR P t rs src dst x = some res) : (∃ v, res = .val v) ∨ ∃ e s, under P src = some .string ∧ under P dst = some (.slice e) ∧ eval P rs x = .string s ∧
    under P e = some (.int .u8) ∧ sizeT P e = some 1 ∧ res = .alloc (.row (cellsOfBytes s.data.toList) e 1) (.slice (some ⟨0, 0, none⟩) s.size s.size) := by
  unfold convertR at h
  simp only at h
  split at h
  case h_3 e s h1 h2 h3 =>
    right
    cases hue : under P e with
    | none => simp [hue] at h
    | some d =>
      cases d <;> (try simp [hue] at h)
      rename_i k
      cases k <;> (try simp at h)
      obtain ⟨h1', rfl⟩ := h
      exact ⟨e, s, h1, h2, h3, hue, h1', rfl⟩
  all_goals
    left
    first
    | (cases h; done)
    | (cases h; exact ⟨_, rfl⟩)
    | (split at h
       · first | (cases h; exact ⟨_, rfl⟩) | (obtain ⟨_, _, rfl⟩ := Option.map_eq_some_iff.1 h; exact ⟨_, rfl⟩) | (split at h <;> cases h <;> exact ⟨_, rfl⟩)
       · cases h)

variable (ev : ∀ x, VRel r (eval P rs x) (a.eval x))
include ev

theorem sim_convert (hm : HRel P r m w) {src dst : TypeId} {x : Operand} (ho : o.op = .convert src dst x) (h : convertR P m.t rs src dst x = some res) : OpSim P r m w (execOp a.eval o) A res := by
  rcases convert_cases h with ⟨v, rfl⟩ | ⟨e, s, h1, h2, h3, h4, h5, rfl⟩
  · exact sim_convert_val ev hm ho h
  · have hx := ev x
    rw [h3] at hx
    generalize hcv : a.eval x = vc at hx
    cases hx
    obtain ⟨b, hb⟩ := bytes_of_size h5
    have hc := Lib.run_convert_string_bytes (P := P) w src dst e s h1 h2 h4
    have hge := grownCap_ge w s.size 0 e
    have hsz : (Lib.bytesCells w e s).size = grownCap w s.size 0 e := by
      simp [Lib.bytesCells]
      have : s.data.size = s.size := rfl
      omega
    have hcl : (cellsOfBytes s.data.toList).length = s.size := by simp [cellsOfBytes]
    have htk : (Lib.bytesCells w e s).toList.take s.size = cellsOfBytes s.data.toList := by
      simp only [Lib.bytesCells, Array.toList_append, Array.toList_map]
      rw [List.take_left' (by simp)]; rfl
    let ob : Obj := .cells (Lib.bytesCells w e s) e ((Lib.bytesCells w e s).size, (Lib.bytesCells w e s).size + 1)
    have hw : Lib.bytesWorld w e s = { w with heap := w.heap.push ob, drawn := w.drawn + 1 } := by
      have hheap : (Lib.bytesWorld w e s).heap = w.heap.push ob := by
        apply Array.ext
        · rw [Lib.bytesWorld_size]; simp
        · intro i hi hi2
          have hi3 : i < w.heap.size + 1 := by rw [← Lib.bytesWorld_size w e s]; exact hi
          have : (Lib.bytesWorld w e s).heap[i]? = (w.heap.push ob)[i]? := by
            rcases Nat.lt_or_ge i w.heap.size with hlt | hge'
            · rw [Lib.bytesWorld_at_old w e s i hlt, Array.getElem?_push, if_neg (by omega)]
            · have : i = w.heap.size := by omega
              subst this
              rw [Lib.bytesWorld_at_new]; simp [ob]
          rw [Array.getElem?_eq_getElem hi, Array.getElem?_eq_getElem hi2] at this
          exact Option.some.inj this
      have : Lib.bytesWorld w e s = { w with heap := (Lib.bytesWorld w e s).heap, drawn := w.drawn + 1 } := by
        simp [Lib.bytesWorld, World.freeze, World.alloc, World.drew, -World.alloc_eq, -World.drew_eq]
      rw [this, hheap]
    have hh := hm.alloc (x := .row (cellsOfBytes s.data.toList) e 1) (ob := ob) (e := ⟨w.heap.size, 0, (Lib.bytesCells w e s).size, 1, b⟩) (w.drawn + 1) rfl (by
      refine ⟨Lib.bytesCells w e s, _, _, rfl, rfl, by rw [hcl, hsz]; simpa using hge, ?_, ⟨fun x _ hx h => by simp only at hx; omega, fun h => by cases h⟩, h5, hb, by simp⟩
      rw [hcl, List.drop_zero, htk]
      exact VRelL.map _ _ (fun _ => .int _ _) _)
    refine OpSim.mkAlloc (v' := .slice (some ⟨w.heap.size, 0, none⟩) s.size (grownCap w s.size 0 e)) (w' := Lib.bytesWorld w e s) ?_ (by rw [hw]; exact hh) (slice_new hge (Nat.le_refl _) (fun h => by cases h) (by rw [hsz, Nat.mul_one]; exact Nat.le_refl _) trivial)
    simp only [execOp, ho, hcv, Sem.run_bind, hc, Result.andThen_ok, Sem.run_pure]

end
end Go.Am
