import Derived.Test.YthnjfgjbgblciaaGreatDoorAm18
/-
  THE ABSTRACT MACHINE, 19: each operation.
-/
namespace Go.Am

section
variable {P : Program} {r : Ren} {m : Mem} {w : World} {rs : Rs} {a : Act} {o : Oper} {res : OpR}

theorem op_sim (hP : PGood P) {fl : List TypeId} (hfl : ∀ t, fl.contains t = true → FlatOk P t) (hm : HRel P r m w) (ev : ∀ x, VRel r (eval P rs x) (a.eval x)) (h : opR P fl m.t rs o = some res) :
    OpSim P r m w (execOp a.eval o) False res := by
  unfold opR at h
  simp only at h
  cases ho : o.op <;> simp only [ho] at h <;> try (cases h; done)
  case move x => cases h; exact sim_move ev ho
  case assign x => cases h; exact sim_assign ev ho
  case pick c x y => exact sim_pick ev ho h
  case alloc e => obtain ⟨_, _, rfl, hh⟩ := asim_alloc (r := r) (w := w) (a := a) hP ho h; exact hh.op hm
  case box e x => obtain ⟨_, _, rfl, hh⟩ := asim_box (w := w) ev ho h; exact hh.op hm
  case build t parts => exact sim_build ev hP ho h
  case buildSlice t len parts => obtain ⟨_, _, rfl, hh⟩ := asim_buildSlice (w := w) ev hP ho h; exact hh.op hm
  case load t x => exact sim_load ev hm ho h
  case store t p x => exact sim_store ev hm ho h
  case nilCheck x => exact sim_nilCheck ev ho h
  case binOp op t x y yt => exact sim_binOp ev hfl ho h
  case unOp op t x => exact sim_unOp ev ho h
  case convert src dst x => exact sim_convert ev hm ho h
  case makeInterface t x => exact sim_makeInterface ev ho h
  case makeFunc fn first cap => cases h; exact sim_makeFunc ev ho
  case makeMap t c =>
    cases c with
    | none => cases h; exact sim_makeMap hm ho
    | some _ => cases h
  case makeSlice t l c => obtain ⟨_, _, rfl, hh⟩ := asim_makeSlice (w := w) ev hP ho h; exact hh.op hm
  case slice t x lo hi mx => exact sim_slice ev hm ho h
  case fieldAddr s x f => exact sim_fieldAddr ev ho h
  case field t x f => exact sim_field ev ho h
  case indexAddr t x ix => exact sim_indexAddr ev ho h
  case index t x ix => exact sim_index ev ho h
  case lookup t x ix ok => exact sim_lookup ev hP hm ho h
  case mapUpdate t mp k x => exact sim_mapUpdate ev hm (.inl ho) h
  case insert t mp k x => exact sim_mapUpdate ev hm (.inr ho) h
  case range t x => exact sim_range_alloc ev hm ho h
  case next it s => exact sim_next ev hm ho h
  case entry it => exact sim_entry ev hm ho h
  case typeAssert x xt t ok => exact sim_typeAssert ev (fun z hz => goodZ_rel (hP.zero t z hz)) ho h
  case extract x i => exact sim_extract ev ho h
  case call c => exact sim_callOp hP hm ev ho h

end
end Go.Am
