import Derived.Test.YthnjfgjbgblciaaGreatDoorAm11
/-
  THE ABSTRACT MACHINE, 12: what writes memory.
-/
namespace Go.Am

section
variable {P : Program} {r : Ren} {m : Mem} {w : World} {rs : Rs} {a : Act} {o : Oper} {A : Prop} {res : OpR}

theorem oneC_rel {v v' : Value} (h : oneC v = true) (hv : VRel r v v') : v'.oneCell' = true := by
  cases hv <;> first | rfl | assumption | (simp [oneC] at h)

theorem oneC_relL : ∀ {l l' : List Value}, allL oneC l = true → VRelL r l l' → ∀ v ∈ l', v.oneCell' = true
  | [], _, _, .nil, v, hv => by simp at hv
  | x :: l, _, h, .cons hx ht, v, hv => by
    simp only [allL, Bool.and_eq_true] at h
    rcases List.mem_cons.1 hv with rfl | hv
    · exact oneC_rel h.1 hx
    · exact oneC_relL h.2 ht v hv

/-- What a world is behind some stores into one block. -/
structure Wrote (w w' : World) (b : Nat) : Prop where
  os : w'.os = w.os
  tape : w'.tape = w.tape
  output : w'.output = w.output
  size : w'.heap.size = w.heap.size
  other : ∀ b', b' ≠ b → w'.heap[b']? = w.heap[b']?

theorem Wrote.refl (w : World) (b : Nat) : Wrote w w b := ⟨rfl, rfl, rfl, rfl, fun _ _ => rfl⟩
theorem Wrote.trans {w w1 w2 : World} {b : Nat} (h : Wrote w w1 b) (k : Wrote w1 w2 b) : Wrote w w2 b :=
  ⟨k.os.trans h.os, k.tape.trans h.tape, k.output.trans h.output, k.size.trans h.size, fun b' hb => (k.other b' hb).trans (h.other b' hb)⟩

theorem Wrote.setCell (w : World) (a : Addr) (v : Value) : Wrote w (w.setCell a v) a.block := by
  refine ⟨rfl, rfl, rfl, by simp [World.setCell], fun b' hb => ?_⟩
  simp only [World.setCell, Array.getElem?_modify]
  rw [if_neg (Ne.symm hb)]

theorem heap_setCell {b off : Nat} {c : Array Value} {t : TypeId} {fz : Nat × Nat} (h : w.heap[b]? = some (.cells c t fz)) (v : Value) :
    (w.setCell ⟨b, off, none⟩ v).heap[b]? = some (.cells (c.setIfInBounds off v) t fz) := by
  simp [World.setCell, Array.getElem?_modify, h]

theorem splice_cons {cs : List Value} {off : Nat} (v : Value) (l : List Value) (h : off < cs.length) : splice (cs.set off v) (off + 1) l = splice cs off (v :: l) := by
  have := foldl_set off [v] 0 ⟨cs⟩
  simp only [splice, List.length_cons]
  rw [List.take_add_one, List.getElem?_set_self (by omega), List.take_set_of_le (Nat.le_refl _), List.drop_set_of_lt (by omega)]
  simp only [Option.toList_some, List.append_assoc, List.singleton_append]
  rw [show off + 1 + l.length = off + (l.length + 1) from by omega]

theorem run_storeCells (b off : Nat) {t : TypeId} {lo hi : Nat} : ∀ (l : List Value) (i : Nat) (w : World) (c : Array Value), w.heap[b]? = some (.cells c t (lo, hi)) → off + i + l.length ≤ c.size →
    (∀ x, off + i ≤ x → x < c.size → ¬ (lo ≤ x ∧ x < hi)) → (∀ v ∈ l, v.oneCell' = true) →
    ∃ (w' : World) (c' : Array Value), (storeCells ⟨b, off, none⟩ l i).run P w = .ok () w' ∧ w'.heap[b]? = some (.cells c' t (lo, hi)) ∧ c'.toList = splice c.toList (off + i) l ∧ Wrote w w' b
  | [], i, w, c, h, _, _, _ => ⟨w, c, by simp [storeCells], h, by simp [splice], Wrote.refl w b⟩
  | v :: l, i, w, c, h, hl, hf, h1 => by
    simp only [List.length_cons] at hl
    have hcell : w.cell? ⟨b, off + i, none⟩ = some (c[off + i]'(by omega)) := by
      simp only [World.cell?, h]
      simp
    have hfz : w.frozen? ⟨b, off + i, none⟩ = false := by
      simp only [World.frozen?, h]
      have := hf (off + i) (Nat.le_refl _) (by omega)
      simpa using this
    obtain ⟨w', c', h2, h3, h4, h5⟩ := run_storeCells b off l (i + 1) (w.setCell ⟨b, off + i, none⟩ v) (c.setIfInBounds (off + i) v) (heap_setCell h v) (by simp; omega)
      (fun x hx hx2 => hf x (by omega) (by simpa using hx2)) (fun u hu => h1 u (by simp [hu]))
    refine ⟨w', c', ?_, h3, ?_, (Wrote.setCell w ⟨b, off + i, none⟩ v).trans h5⟩
    · simp only [storeCells, Sem.run_bind, add_none, run_store P w _ v .plain (h1 v (by simp)), hcell, hfz, Bool.false_eq_true, if_false, Result.andThen_ok, h2]
    · rw [h4, Array.toList_setIfInBounds, ← Nat.add_assoc, splice_cons v l (by simp; omega)]

theorem splice_get {cs vs : List Value} {o : Nat} (h : o + vs.length ≤ cs.length) (i : Nat) : (splice cs o vs)[i]? = if i < o then cs[i]? else if i < o + vs.length then vs[i - o]? else cs[i]? := by
  unfold splice
  by_cases h1 : i < o
  · rw [if_pos h1, List.append_assoc, List.getElem?_append_left (by simp; omega), List.getElem?_take_of_lt h1]
  · rw [if_neg h1]
    by_cases h2 : i < o + vs.length
    · rw [if_pos h2, List.getElem?_append_left (by simp; omega), List.getElem?_append_right (by simp; omega)]
      simp only [List.length_take]
      rw [Nat.min_eq_left (by omega)]
    · rw [if_neg h2, List.getElem?_append_right (by simp; omega)]
      simp only [List.length_append, List.length_take, List.getElem?_drop]
      rw [Nat.min_eq_left (by omega)]
      congr 1; omega

theorem splice_window {c vs : List Value} {d n off : Nat} (h : off + vs.length ≤ n) (h2 : d + n ≤ c.length) : ((splice c (d + off) vs).drop d).take n = splice ((c.drop d).take n) off vs := by
  apply List.ext_getElem?
  intro i
  rw [splice_get (by simp; omega)]
  rw [List.getElem?_take, List.getElem?_drop, splice_get (by omega)]
  rw [List.getElem?_take, List.getElem?_drop]
  by_cases h1 : i < n
  · simp only [if_pos h1]
    by_cases h3 : i < off
    · rw [if_pos (by omega), if_pos h3]
    · rw [if_neg (by omega), if_neg h3]
      by_cases h4 : i < off + vs.length
      · rw [if_pos (by omega), if_pos h4]; congr 1; omega
      · rw [if_neg (by omega), if_neg h4]
  · simp only [if_neg h1]
    rw [if_neg (by omega), if_neg (by omega)]

/-- A row written, there and in the world. -/
theorem store_row (hm : HRel P r m w) {id off : Nat} {e : Ent} {vs vs' : List Value} {t' : Tr} (hr : r id = some e) (h : storeAt m.t id off vs = some t') (hv : VRelL r vs vs') {off' : Nat} (ho : vs ≠ [] → off' = e.d + off) :
    ∃ w', (storeCells ⟨e.b, off', none⟩ vs').run P w = .ok () w' ∧ HRel P r ⟨t', m.n⟩ w' ∧ Evo r m w r ⟨t', m.n⟩ w' := by
  unfold storeAt at h
  split at h
  · rename_i cs t fz hrow
    split at h <;> cases h
    rename_i hc
    obtain ⟨hc1, hc2, hc3⟩ := hc
    have hget := rowAt_get hrow
    obtain ⟨c, lo, hi, h1, h2, h3, h4, h5, h6⟩ := hm.obj _ _ _ hr hget
    by_cases hne : vs = []
    · subst hne
      cases hv
      have hsp : splice cs off [] = cs := by simp [splice]
      rw [hsp]
      refine ⟨w, by simp [storeCells], ?_⟩
      refine hm.write hr hget (by simp only [ro]; cases hb : Nat.blt cs.length (fz / 2) with | false => rfl | true => (have := Nat.le_of_ble_eq_true hb; simp at hc1; omega)) rfl rfl rfl rfl (fun _ _ => rfl) ⟨c, lo, hi, h1, h2, h3, h4, h5, h6⟩
    · have hoff := ho hne
      subst hoff
      have hvl := hv.length
      obtain ⟨w', c', h7, h8, h9, h10⟩ := run_storeCells (P := P) e.b (e.d + off) vs' 0 w c h1 (by omega) (fun x hx hx2 => h5.free x (by omega) (by omega)) (oneC_relL hc3 hv)
      refine ⟨w', h7, ?_⟩
      have hvpos : 0 < vs.length := by cases vs with | nil => exact absurd rfl hne | cons _ _ => simp
      refine hm.write hr hget (by simp only [ro]; cases hb : Nat.blt cs.length (fz / 2) with | false => rfl | true => (have := Nat.le_of_ble_eq_true hb; omega)) h10.os h10.tape h10.output h10.size h10.other ⟨c', lo, hi, h8, ?_, ?_, ?_, h5, h6⟩
      · have : c'.toList.length = c.toList.length := by rw [h9]; apply splice_length; simp; omega
        simpa [h2] using this
      · have : c'.toList.length = c.toList.length := by rw [h9]; apply splice_length; simp; omega
        simp only [Array.length_toList] at this
        rw [splice_length (by omega), this]; exact h3
      · rw [splice_length (by omega), h9]
        have := h4.splice hv off
        rw [Nat.add_zero, splice_window (by omega) (by simp; omega)]
        exact this
  · cases h

theorem OpSim.mkStep {s : Sem Next} {t : Tr} {v : Value} {nx : Next} {w' : World} (h : s.run P w = .ok nx w') (hh : HRel P r ⟨t, m.n⟩ w' ∧ Evo r m w r ⟨t, m.n⟩ w') (hv : NRel r v nx) : OpSim P r m w s A (.step v t) :=
  ⟨nx, w', h, hh.1, hh.2, hv⟩

variable (ev : ∀ x, VRel r (eval P rs x) (a.eval x))
include ev

theorem sim_store (hm : HRel P r m w) {t : TypeId} {p x : Operand} (ho : o.op = .store t p x) (h : storeR P m.t rs t p x = some res) : OpSim P r m w (execOp a.eval o) A res := by
  have hp := ev p
  have hx := ev x
  unfold storeR at h
  simp only at h
  generalize hcv : a.eval p = vc at hp
  generalize eval P rs p = v at h hp
  cases hp <;> try (cases h; done)
  case ptr id off e hr =>
    simp only at h
    split at h
    · rename_i hc
      cases hs : storeAt m.t id off (eval P rs x).cells.toList with
      | none => simp [hs] at h
      | some t' =>
        simp [hs] at h; subst h
        have hcl := hx.cells hc.1
        obtain ⟨w', h1, h2⟩ := store_row (P := P) hm hr hs hcl (off' := e.d + off) (fun _ => rfl)
        refine OpSim.mkStep (nx := .skip) ?_ h2 (VRel.undef r)
        have hsz : (a.eval x).cells.size = (eval P rs x).cells.size := by have := hcl.length; simpa using this.symm
        simp only [execOp, ho, hcv, Instr.storeAt, Instr.sureAddr, storeVar, Sem.run_bind, Sem.run_pure, Result.andThen_ok, run_sizeT hc.2]
        rw [if_neg (by rw [hsz]; simp)]
        rw [h1]; rfl
    · cases h

end
end Go.Am
