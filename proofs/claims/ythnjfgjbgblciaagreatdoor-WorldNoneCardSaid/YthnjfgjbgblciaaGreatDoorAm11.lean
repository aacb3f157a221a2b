import Derived.Test.YthnjfgjbgblciaaGreatDoorAm10
import Derived.IntWalk
/-
  THE ABSTRACT MACHINE, 11: what makes memory.
-/
namespace Go.Am

section
variable {P : Program} {r : Ren} {m : Mem} {w : World} {rs : Rs} {a : Act} {o : Oper} {A : Prop} {res : OpR}

theorem bytes_of_size {t : TypeId} {s : Nat} (h : sizeT P t = some s) : ∃ b, bytesT P t = some b := by
  unfold sizeT at h
  cases hi : P.info? t with
  | none => simp [hi] at h
  | some i => exact ⟨i.bytes, by simp [bytesT, hi]⟩

theorem size_of_zero {t : TypeId} {z : Value} (h : zeroT P t = some z) : ∃ s, sizeT P t = some s := by
  replace h := (zeroT_info h).2
  cases hi : P.info? t with
  | none => simp [hi] at h
  | some i => exact ⟨i.size, by simp [sizeT, hi]⟩

theorem run_bytesT {t : TypeId} {b : Nat} (h : bytesT P t = some b) : ∃ i, P.info? t = some i ∧ i.bytes = b := by
  unfold bytesT at h
  cases hi : P.info? t with
  | none => simp [hi] at h
  | some i => simp [hi] at h; exact ⟨i, rfl, h⟩

theorem HRel.newRow (hm : HRel P r m w) {t : TypeId} {es bs : Nat} (hs : sizeT P t = some es) (hb : bytesT P t = some bs) {cs cs' : List Value} (hrel : VRelL r cs (cs'.take cs.length)) (hlen : cs.length ≤ cs'.length)
    {lo hi : Nat} (hfz : lo = hi) (d : Nat) :
    HRel P (r.with m.n ⟨w.heap.size, 0, cs'.length, es, bs⟩) ⟨m.t.set m.n (some (.row cs t 0)), m.n + 1⟩ { w with heap := w.heap.push (.cells ⟨cs'⟩ t (lo, hi)), drawn := d } ∧
    Evo r m w (r.with m.n ⟨w.heap.size, 0, cs'.length, es, bs⟩) ⟨m.t.set m.n (some (.row cs t 0)), m.n + 1⟩ { w with heap := w.heap.push (.cells ⟨cs'⟩ t (lo, hi)), drawn := d } := by
  refine hm.alloc d rfl ⟨⟨cs'⟩, lo, hi, rfl, by simp, by simpa using hlen, ?_, ⟨fun x _ _ => by omega, fun _ => .inl hfz⟩, hs, hb, by simp⟩
  have := hrel.mono (Ext.with (r := r) ⟨w.heap.size, 0, cs'.length, es, bs⟩ (hm.fresh _ (Nat.le_refl _)))
  simpa using this

theorem OpSim.mkAlloc {s : Sem Next} {x : AObj} {v v' : Value} {w' : World} {e : Ent} (h : s.run P w = .ok (.value v') w') (hh : HRel P (r.with m.n e) ⟨m.t.set m.n (some x), m.n + 1⟩ w' ∧ Evo r m w (r.with m.n e) ⟨m.t.set m.n (some x), m.n + 1⟩ w')
    (hv : VRel (r.with m.n e) (numbered m.n v) v') : OpSim P r m w s A (.alloc x v) :=
  .inr ⟨.value v', w', e, h, hh.1, hh.2, hv⟩

theorem ptr_new {n : Nat} {b size es bs : Nat} : VRel (r.with n ⟨b, 0, size, es, bs⟩) (numbered n (.pointer (some ⟨0, 0, none⟩))) (.pointer (some ⟨b, 0, none⟩)) := by
  exact VRel.ptr (r := r.with n ⟨b, 0, size, es, bs⟩) (id := n) (off := 0) (Ren.with_same _ _ _)

theorem slice_new {n : Nat} {b size es bs len cap cap' : Nat} {sp : Option Nat} (hc : cap ≤ cap') (hl : len ≤ cap) (hx : sp = some 1 → cap' = cap) (hr : cap' * es ≤ size) (_hb : True) :
    VRel (r.with n ⟨b, 0, size, es, bs⟩) (numbered n (.slice (some ⟨0, 0, sp⟩) len cap)) (.slice (some ⟨b, 0, none⟩) len cap') := by
  exact VRel.slice (r := r.with n ⟨b, 0, size, es, bs⟩) (id := n) (off := 0) (off' := 0) (Ren.with_same _ _ _) (fun _ => rfl) hc hl hx (by simpa using hr) trivial (by simp)

theorem zero_cells (hP : PGood P) {t : TypeId} {z : Value} (h : zeroT P t = some z) : VRelL r z.cells.toList z.cells.toList := by
  have := hP.zero t z h
  exact VRel.cells (goodZ_rel this) (goodZ_junk this)

/-- What an operation does that makes one object, whatever number it is to bear. -/
def AllocSim (P : Program) (r : Ren) (w : World) (s : Sem Next) (x : AObj) (v : Value) : Prop :=
  ∃ v' ob e d, s.run P w = .ok (.value v') { w with heap := w.heap.push ob, drawn := d } ∧ e.b = w.heap.size ∧ ∀ n, r n = none → ORel P (r.with n e) e (some ob) x ∧ VRel (r.with n e) (numbered n v) v'

theorem AllocSim.op {s : Sem Next} {x : AObj} {v : Value} (h : AllocSim P r w s x v) (hm : HRel P r m w) : OpSim P r m w s A (.alloc x v) := by
  obtain ⟨v', ob, e, d, h1, h2, h3⟩ := h
  obtain ⟨h4, h5⟩ := h3 m.n (hm.fresh _ (Nat.le_refl _))
  exact OpSim.mkAlloc h1 (hm.alloc d h2 h4) h5

theorem AllocSim.row {s : Sem Next} {t : TypeId} {es bs : Nat} (hs : sizeT P t = some es) (hb : bytesT P t = some bs) {cs cs' : List Value} (hrel : VRelL r cs (cs'.take cs.length)) (hlen : cs.length ≤ cs'.length) {v v' : Value} {d : Nat}
    (hrun : s.run P w = .ok (.value v') { w with heap := w.heap.push (.cells ⟨cs'⟩ t (0, 0)), drawn := d }) (hv : ∀ n, VRel (r.with n ⟨w.heap.size, 0, cs'.length, es, bs⟩) (numbered n v) v') : AllocSim P r w s (.row cs t 0) v := by
  refine ⟨v', _, ⟨w.heap.size, 0, cs'.length, es, bs⟩, d, hrun, rfl, fun n hn => ⟨⟨⟨cs'⟩, 0, 0, rfl, by simp, by simpa using hlen, ?_, ⟨fun x _ _ => by omega, fun _ => .inl rfl⟩, hs, hb, by simp⟩, hv n⟩⟩
  have := hrel.mono (Ext.with (r := r) ⟨w.heap.size, 0, cs'.length, es, bs⟩ hn)
  simpa using this

theorem asim_alloc (hP : PGood P) {e : TypeId} (ho : o.op = .alloc e) (h : allocR P e = some res) : ∃ x v, res = .alloc x v ∧ AllocSim P r w (execOp a.eval o) x v := by
  unfold allocR at h
  cases hz : zeroT P e with
  | none => simp [hz] at h
  | some z =>
    simp [hz] at h; subst h
    obtain ⟨s, hs⟩ := size_of_zero hz
    obtain ⟨b, hb⟩ := bytes_of_size hs
    refine ⟨_, _, rfl, AllocSim.row hs hb (cs := z.cells.toList) (cs' := z.cells.toList) (v' := .pointer (some ⟨w.heap.size, 0, none⟩)) (d := w.drawn) (by rw [List.take_length]; exact zero_cells hP hz) (Nat.le_refl _) ?_ fun n => ptr_new⟩
    simp only [execOp, ho, Instr.alloc, Sem.run_bind, run_zeroT hz, Result.andThen_ok, newVar, newRow, run_newObj, Sem.run_pure]

variable (ev : ∀ x, VRel r (eval P rs x) (a.eval x))
include ev

theorem asim_box {e : TypeId} {x : Operand} (ho : o.op = .box e x) (h : boxR P rs e x = some res) : ∃ x v, res = .alloc x v ∧ AllocSim P r w (execOp a.eval o) x v := by
  have hx := ev x
  unfold boxR at h
  simp only at h
  split at h
  · cases h
  · rename_i hj
    split at h <;> cases h
    rename_i hs
    obtain ⟨b, hb⟩ := bytes_of_size hs
    have hc := hx.cells (by simpa using hj)
    have hl := hc.length
    refine ⟨_, _, rfl, AllocSim.row hs hb (cs := (eval P rs x).cells.toList) (cs' := (a.eval x).cells.toList) (v' := .pointer (some ⟨w.heap.size, 0, none⟩)) (d := w.drawn) (by rw [hl, List.take_length]; exact hc) (by omega) ?_ fun n => ptr_new⟩
    simp only [execOp, ho, Instr.box, Sem.run_bind, Result.andThen_ok, newVar, newRow, run_newObj, Sem.run_pure]

omit ev in
theorem rep_rel {z : List Value} (h : VRelL r z z) (n : Nat) : VRelL r (repCells z n) (repCells z n) := by
  unfold repCells
  apply VRelL.of_get rfl
  intro i v v' h1 h2
  rw [h1] at h2; cases h2
  rw [List.getElem?_map] at h1
  cases hr : (List.range (n * z.length))[i]? with
  | none => rw [hr] at h1; cases h1
  | some k =>
    rw [hr] at h1
    simp only [Option.map_some, Option.some.injEq] at h1
    have hk : k < n * z.length := by
      have := List.mem_of_getElem? hr
      simpa using this
    have hz : 0 < z.length := by
      rcases Nat.eq_zero_or_pos z.length with e | e
      · rw [e] at hk; simp at hk
      · exact e
    have hlt : k % z.length < z.length := Nat.mod_lt _ hz
    have hget : z[k % z.length]? = some v := by
      rw [← h1, getElem!_pos z _ hlt, List.getElem?_eq_getElem hlt]
    obtain ⟨v2, h3, h4⟩ := h.get hget
    rw [hget] at h3; cases h3; exact h4

omit ev in
theorem rep_array (z : Array Value) (n : Nat) : ((Array.range (n * z.size)).map fun i => z[i % z.size]!).toList = repCells z.toList n := by
  unfold repCells
  simp only [Array.toList_map, Array.toList_range, Array.length_toList]
  apply List.map_congr_left
  intro i _
  cases z; simp

omit ev in
theorem rep_length (z : List Value) (n : Nat) : (repCells z n).length = n * z.length := by simp [repCells]

theorem asim_buildSlice (hP : PGood P) {t : TypeId} {len : Nat} {parts : Array (Nat × Operand)} (ho : o.op = .buildSlice t len parts) (h : buildSliceR P rs t len parts = some res) : ∃ x v, res = .alloc x v ∧ AllocSim P r w (execOp a.eval o) x v := by
  unfold buildSliceR at h
  simp only at h
  cases hu : under P t with
  | none => simp [hu] at h
  | some d =>
    cases d <;> try (simp [hu] at h; done)
    rename_i el
    simp only [hu] at h
    cases hs : sizeT P el with
    | none => simp [hs] at h
    | some s =>
      cases hz : zeroT P el with
      | none => simp [hs, hz] at h
      | some z =>
        simp only [hs, hz] at h
        split at h
        · cases h
        · rename_i hbig
          obtain ⟨b, hb⟩ := bytes_of_size hs
          rw [hb] at h
          simp only [Option.getD_some] at h
          split at h
          · cases h
          rename_i hroom
          have hbs : len * b ≤ 140737488355328 := by
            have : roomy (len * b) = true := by simpa using hroom
            simpa [roomy] using this
          have hzs := hP.zsize el z s hz hs
          cases hf : fillL (fun i => some (i * s, s)) (repCells z.cells.toList len) (parts.toList.map fun (i, x) => (i, eval P rs x)) with
          | none => rw [hf] at h; cases h
          | some l =>
            rw [hf] at h; cases h
            have hzr := zero_cells (r := r) hP hz
            have hpl : (parts.map fun (i, x) => (i, a.eval x)).toList = parts.toList.map fun (i, x) => (i, a.eval x) := by simp
            obtain ⟨out, h1, h2, h3⟩ := fill_rel (pl' := fun i => some (i * s, s)) (fun _ _ hx => hx) _ (parts.toList.map fun (i, x) => (i, a.eval x)) _ ((Array.range (len * z.cells.size)).map fun i => z.cells[i % z.cells.size]!) _ (parts_fst _) (parts_rel ev _)
              (by rw [rep_array]; exact rep_rel hzr len) hf
            have hlen : out.toList.length = l.length := h2.length.symm
            have hll : l.length = len * s := by rw [h3, rep_length]; simp [hzs]
            have hrun : (execOp a.eval o).run P w = .ok (.value (.slice (some ⟨w.heap.size, 0, none⟩) len len)) { w with heap := w.heap.push (.cells ⟨out.toList⟩ el (0, 0)), drawn := w.drawn } := by
              have hfill : Instr.fill (fun i => some (i * s, s)) ((Array.range (len * s)).map ((if len * s = 0 then #[] else z.cells)[· % (if len * s = 0 then #[] else z.cells).size]!)) (parts.toList.map fun (i, x) => (i, a.eval x)) = some out := by
                rw [← h1]
                congr 1
                by_cases h0 : len * s = 0
                · rw [hzs, h0]; simp
                · rw [if_neg h0, hzs]
              have hbig' : ¬ (len * s > 2 ^ 24) := hbig
              simp only [execOp, ho, Instr.buildSlice, Sem.run_bind, run_under hu, Result.andThen_ok, run_sizeT hs, Sem.run_ite, if_neg hbig']
              by_cases h0 : len * s = 0
              · rw [if_pos h0] at hfill
                simp only [if_pos h0, Sem.run_pure, Result.andThen_ok, hpl, hfill, Sem.run_bind, newRow, run_newObj]
              · rw [if_neg h0] at hfill
                simp only [if_neg h0, run_zeroT hz, Sem.run_pure, Result.andThen_ok, hpl, hfill, Sem.run_bind, newRow, run_newObj]
            exact ⟨_, _, rfl, AllocSim.row hs hb (cs := l) (cs' := out.toList) (by rw [← hlen, List.take_length]; exact h2) (by omega) hrun fun n => slice_new (Nat.le_refl _) (Nat.le_refl _) (fun _ => rfl) (by omega) trivial⟩

theorem asim_makeSlice (hP : PGood P) {t : TypeId} {l c : Operand} (ho : o.op = .makeSlice t l c) (h : makeSliceR P rs t l c = some res) : ∃ x v, res = .alloc x v ∧ AllocSim P r w (execOp a.eval o) x v := by
  have hl := ev l
  have hc := ev c
  unfold makeSliceR at h
  simp only at h
  generalize hlv : a.eval l = lv at hl
  generalize hcv : a.eval c = cv at hc
  generalize eval P rs l = lu at h hl
  generalize eval P rs c = cu at h hc
  cases hu : under P t with
  | none => simp [hu] at h
  | some d =>
    cases d <;> try (simp [hu] at h; done)
    rename_i el
    cases hl <;> try (simp [hu] at h; done)
    rename_i k1 n1
    cases hc <;> try (simp [hu] at h; done)
    rename_i k2 n2
    simp only [hu] at h
    cases hb : bytesT P el with
    | none => simp [hb] at h
    | some b =>
      cases hz : zeroT P el with
      | none => simp [hb, hz] at h
      | some z =>
        simp only [hb, hz] at h
        split at h <;> cases h
        rename_i hcond
        obtain ⟨h1, h2, h3, h4⟩ := hcond
        obtain ⟨s, hs⟩ := size_of_zero hz
        have hzs := hP.zsize el z s hz hs
        have hroom : n2.toNat * b ≤ 140737488355328 := by simpa [roomy] using h4
        have hw1 : IntKind.i64.wrap n1 = n1 := IntWalk.i64_in _ (by omega)
        have hw2 : IntKind.i64.wrap n2 = n2 := IntWalk.i64_in _ (by omega)
        have hrl := rep_length z.cells.toList n2.toNat
        refine ⟨_, _, rfl, AllocSim.row hs hb (cs := repCells z.cells.toList n2.toNat) (cs' := repCells z.cells.toList n2.toNat) (v' := .slice (some ⟨w.heap.size, 0, none⟩) n1.toNat n2.toNat) (d := w.drawn) (by rw [List.take_length]; exact rep_rel (zero_cells hP hz) _) (Nat.le_refl _) ?_
          fun n => slice_new (Nat.le_refl _) (by omega) (fun _ => rfl) (by rw [hrl, Array.length_toList, hzs]; omega) trivial⟩
        obtain ⟨i, hi, hib⟩ := run_bytesT hb
        have hbig : ¬ ((b : Int) * n2 > 281474976710656) := by
          have e1 : (n2.toNat : Int) = n2 := Int.toNat_of_nonneg (by omega)
          have e2 : (b : Int) * n2 = ((n2.toNat * b : Nat) : Int) := by rw [Int.natCast_mul, e1, Int.mul_comm]
          rw [e2]
          generalize n2.toNat * b = q at hroom
          omega
        have hcells : ∀ (q : Array Value), (q = if n2.toNat * s = 0 then #[] else z.cells) → ((Array.range (n2.toNat * s)).map (q[· % q.size]!)) = ⟨repCells z.cells.toList n2.toNat⟩ := by
          rintro q rfl
          apply Array.ext'
          rw [← rep_array, hzs]
          by_cases h0 : n2.toNat * s = 0
          · rw [h0]; simp
          · rw [if_neg h0, hzs]
        have hbig' : ¬ ((b : Int) * n2 > 2 ^ 48) := hbig
        have htl : (decide (n2 < 0) || decide ((b : Int) * n2 > 2 ^ 48) || decide (n1 < 0) || decide (n1 > n2)) = false := by
          simp only [Bool.or_eq_false_iff, decide_eq_false_iff_not]
          exact ⟨⟨⟨by omega, hbig'⟩, by omega⟩, by omega⟩
        simp only [execOp, ho, hlv, hcv, Instr.makeSlice, asInt, asIntOf, typeInfo, Sem.run_bind, Sem.run_pure, run_under hu, Result.andThen_ok, run_program, hi, hw1, hw2, hib]
        rw [if_neg (by rw [htl]; simp)]
        simp only [Sem.run_bind, Go.run_askRoom, Result.andThen_ok, run_sizeT hs]
        by_cases h0 : n2.toNat * s = 0
        · have := hcells #[] (by rw [if_pos h0])
          simp only [if_pos h0, Sem.run_pure, Result.andThen_ok, Sem.run_bind, newRow, run_newObj, this]
        · have := hcells z.cells (by rw [if_neg h0])
          simp only [if_neg h0, run_zeroT hz, Sem.run_pure, Result.andThen_ok, Sem.run_bind, newRow, run_newObj, this]

omit ev in
theorem HRel.newObj (hm : HRel P r m w) {x : AObj} {ob : Obj} (hr : ∀ e : Ent, e.d = 0 → ORel P (r.with m.n e) e (some ob) x) (d : Nat) :
    HRel P (r.with m.n ⟨w.heap.size, 0, 0, 0, 0⟩) ⟨m.t.set m.n (some x), m.n + 1⟩ { w with heap := w.heap.push ob, drawn := d } ∧
    Evo r m w (r.with m.n ⟨w.heap.size, 0, 0, 0, 0⟩) ⟨m.t.set m.n (some x), m.n + 1⟩ { w with heap := w.heap.push ob, drawn := d } :=
  hm.alloc d rfl (hr _ rfl)

omit ev in
theorem sim_makeMap (hm : HRel P r m w) {t : TypeId} (ho : o.op = .makeMap t none) : OpSim P r m w (execOp a.eval o) A (.alloc (.map [] 0) (.map (some 0))) := by
  have hh := hm.newObj (x := .map [] 0) (ob := .map #[] 0) (fun e _ => ⟨#[], rfl, .nil⟩) w.drawn
  refine OpSim.mkAlloc (v' := .map (some w.heap.size)) ?_ hh (VRel.map (r := r.with m.n ⟨w.heap.size, 0, 0, 0, 0⟩) (id := m.n) (Ren.with_same _ _ _))
  simp only [execOp, ho, Instr.makeMap, Option.map_none, Sem.run_bind, run_newObj, Result.andThen_ok, Sem.run_pure]

theorem sim_range_alloc (hm : HRel P r m w) {t : TypeId} {x : Operand} (ho : o.op = .range t x) (h : rangeR P m.t rs t x = some res) : OpSim P r m w (execOp a.eval o) A res := by
  have hx := ev x
  unfold rangeR at h
  simp only at h
  generalize hcv : a.eval x = vc at hx
  generalize eval P rs x = v at h hx
  cases hu : under P t with
  | none => simp [hu] at h
  | some d =>
    cases d <;> try (simp [hu] at h; done)
    case string =>
      cases hx <;> try (simp [hu] at h; done)
      simp only [hu] at h
      cases h
      rename_i s
      have hh := hm.newObj (x := .siter s 0) (ob := .stringIter s 0) (fun e he => ⟨rfl, he⟩) w.drawn
      refine OpSim.mkAlloc (v' := .pointer (some ⟨w.heap.size, 0, none⟩)) ?_ hh ptr_new
      simp only [execOp, ho, hcv, Instr.range, Sem.run_bind, run_under hu, Result.andThen_ok, run_newObj, Sem.run_pure]
    case map k el =>
      cases hx <;> try (simp [hu] at h; done)
      case mnil =>
        simp only [hu] at h
        cases h
        have hh := hm.newObj (x := .miter none 0 [] 0) (ob := .mapIter none 0 #[] 0) (fun e he => ⟨he, none, rfl, .mnil⟩) w.drawn
        refine OpSim.mkAlloc (v' := .pointer (some ⟨w.heap.size, 0, none⟩)) ?_ hh ptr_new
        simp only [execOp, ho, hcv, Instr.range, Sem.run_bind, run_under hu, Result.andThen_ok, run_newObj, Sem.run_pure]
      case map id e hr =>
        simp only [hu] at h
        cases hmap : mapAt m.t id with
        | none => simp [hmap] at h
        | some q =>
          obtain ⟨es, c⟩ := q
          simp [hmap] at h
          subst h
          obtain ⟨es', h1, h2⟩ := map_of hm hr hmap
          have hh := hm.newObj (x := .miter (some id) c [] c) (ob := .mapIter (some e.b) c #[] c) (fun e' he => ⟨he, some e.b, rfl, VRel.map (by
            rw [Ren.with_ne]
            · exact hr
            · intro hid; subst hid; rw [hm.fresh _ (Nat.le_refl _)] at hr; cases hr)⟩) w.drawn
          refine .inr ⟨.value (.pointer (some ⟨w.heap.size, 0, none⟩)), _, _, ?_, hh.1, hh.2, ptr_new⟩
          simp only [execOp, ho, hcv, Instr.range, Sem.run_bind, run_under hu, Result.andThen_ok, run_getObj_map h1, run_newObj, Sem.run_pure]

end
end Go.Am
