import Derived.Test.YthnjfgjbgblciaaGreatDoorAm16
import Derived.KernelRfl
import Derived.Laws.Externs
/-
  THE ABSTRACT MACHINE, 17: the library's entries without a body; calls.
-/
namespace Go.Am

theorem find_noEscape {fn : Func} (h : fn.name = "internal/abi.NoEscape") : Extern.find fn = some Extern.AbiNoEscape.same := by
  cases fn; simp only at h; subst h; kernel_rfl
theorem find_makeNoZero {fn : Func} (h : fn.name = "internal/bytealg.MakeNoZero") : Extern.find fn = some (Extern.BytealgMakeNoZero.makeNoZero fn.params fn.resultTypes) := by
  cases fn; simp only at h; subst h; kernel_rfl
theorem find_cmpstring {fn : Func} (h : fn.name = "internal/bytealg.abigen_runtime_cmpstring") : Extern.find fn = some Extern.BytealgCompare.compare := by
  cases fn; simp only at h; subst h; kernel_rfl

theorem find_cons (p : Nat → Bool) (n : Nat) : (List.range (n + 1)).find? p = if p 0 then some 0 else ((List.range n).find? fun i => p (i + 1)).map (· + 1) := by
  rw [List.range_succ_eq_map, List.find?_cons]
  cases hp : p 0 with
  | true => simp
  | false => simp [List.find?_map, Function.comp_def]

/-- What the model's entry compares by. -/
def cmpF (x y : List UInt8) : Int :=
  match (List.range (min x.length y.length)).find? fun i => x.getD i 0 != y.getD i 0 with
  | some i => if x.getD i 0 < y.getD i 0 then -1 else 1
  | none => if x.length < y.length then -1 else if x.length > y.length then 1 else 0

theorem cmpF_eq : ∀ x y : List UInt8, cmpF x y = cmpL x y
  | [], [] => rfl
  | [], _ :: _ => rfl
  | _ :: _, [] => rfl
  | a :: x, b :: y => by
    have ih := cmpF_eq x y
    unfold cmpF at ih ⊢
    have hmin : min (a :: x).length (b :: y).length = min x.length y.length + 1 := by simp
    rw [hmin, find_cons]
    simp only [cmpL]
    by_cases hab : a = b
    · subst hab
      simp only [List.getD_cons_zero, bne_self_eq_false, Bool.false_eq_true, if_false, if_true, List.getD_cons_succ]
      rw [← ih]
      cases (List.range (min x.length y.length)).find? fun i => x.getD i 0 != y.getD i 0 with
      | none => simp
      | some i => simp
    · simp only [List.getD_cons_zero]
      rw [if_pos (by simpa using hab), if_neg hab]
      rfl

theorem get_getD (s : ByteArray) (i : Nat) : s[i]! = s.data.toList.getD i 0 := by
  rw [List.getD_eq_getElem?_getD, Array.getElem?_toList]
  by_cases hi : i < s.size
  · rw [getElem!_pos s i hi, Array.getElem?_eq_getElem (show i < s.data.size from hi)]; rfl
  · rw [getElem!_neg s i hi, Array.getElem?_eq_none (by have : s.data.size = s.size := rfl; omega)]; rfl

theorem cmp_eq (a b : ByteArray) : Extern.BytealgCompare.cmp a b = cmpL a.data.toList b.data.toList := by
  rw [← cmpF_eq]
  unfold Extern.BytealgCompare.cmp cmpF
  simp only [get_getD]
  have h1 : ∀ s : ByteArray, s.data.toList.length = s.size := fun s => by simp
  rw [h1, h1]
  cases List.find? (fun i => a.data.toList.getD i 0 != b.data.toList.getD i 0) (List.range (min a.size b.size)) <;> rfl

section
variable {P : Program} {r : Ren} {m : Mem} {w : World} {rs : Rs} {a : Act} {o : Oper} {A : Prop} {res : OpR}

theorem digits_bytes : ∀ (n t : Nat) (acc : Array Value), (∀ v ∈ acc.toList, v.oneCell' = true) → ∀ v ∈ (Extern.BytealgMakeNoZero.digits n t acc).toList, v.oneCell' = true
  | 0, _, _, h => h
  | n + 1, t, acc, h => by
    rw [Extern.BytealgMakeNoZero.digits]
    refine digits_bytes n _ _ fun v hv => ?_
    simp only [Array.toList_push, List.mem_append, List.mem_singleton] at hv
    rcases hv with hv | rfl
    · exact h v hv
    · rfl

theorem run_makeNoZero_any (ps rts : Array TypeId) (t e : TypeId) (h0 : rts[0]? = some t) (ht : under P t = some (.slice e)) (n : Nat) (hn : n ≤ 281474976710656) :
    ∃ cs : Array Value, (Extern.BytealgMakeNoZero.makeNoZero ps rts #[.int .i64 n]).run P w = .ok (.slice (some ⟨w.heap.size, 0, none⟩) n cs.size) { w with heap := w.heap.push (.cells cs e), drawn := w.drawn + 2 } ∧ n ≤ cs.size ∧ ∀ v ∈ cs.toList, v.oneCell' = true := by
  have ht : P.underlying t = some (.slice e) := ht
  have hdef : Extern.BytealgMakeNoZero.makeNoZero ps rts #[.int .i64 n] =
      (do
        let some t := rts[0]? | stuck "bytealg.MakeNoZero: no result type"
        let .slice elem ← underlying t | stuck "bytealg.MakeNoZero: slice type expected"
        if (n : Int) < 0 || (n : Int) > 2 ^ 48 then runtimePanic (.error "makeslice: len out of range")
        let cap ← choose (.appendCap (n : Int).toNat 0 elem)
        askRoom cap
        let bytes ← choose (.extern "internal/bytealg.MakeNoZero.bytes" 0)
        let a ← newRow elem (Extern.BytealgMakeNoZero.digits cap bytes #[])
        pure (.slice (some a) (n : Int).toNat cap)) := rfl
  refine ⟨Extern.BytealgMakeNoZero.digits (grownCap w n 0 e) ((Question.extern "internal/bytealg.MakeNoZero.bytes" 0).cut (w.tape (w.drawn + 1) (.extern "internal/bytealg.MakeNoZero.bytes" 0))) #[], ?_, ?_, digits_bytes _ _ _ (by simp)⟩
  · rw [hdef]
    have h1 : ¬ (n : Int) < 0 := by omega
    have h2 : ¬ (281474976710656 : Int) < (n : Int) := by omega
    simp [h0, run_underlying ht, h1, h2, Question.forced, newRow, Lib.size_digits, grownCap]
    rfl
  · rw [Lib.size_digits]
    simpa using grownCap_ge w n 0 e

theorem run_cmpstring (x y : ByteArray) : (Extern.BytealgCompare.compare #[.string x, .string y]).run P w = .ok (.int .i64 (cmpL x.data.toList y.data.toList)) w := by
  rw [← cmp_eq]; rfl

theorem OpSim.of_eq {s s' : Sem Next} (he : s = s') (h : OpSim P r m w s' A res) : OpSim P r m w s A res := he ▸ h

theorem sim_callFunc (hP : PGood P) (hm : HRel P r m w) {f : FuncId} {args args' : List Value} (hl : VRelL r args args') (h : callR P f args = some res) : OpSim P r m w (callFunc f ⟨args'⟩) A res := by
  unfold callR at h
  cases hf : P.funcs[f]? with
  | none => simp [hf] at h
  | some fn =>
    simp only [hf] at h
    split at h
    · rename_i hb
      unfold externR at h
      split at h
      · rename_i hname
        cases hl with
        | nil => cases h
        | cons hx ht =>
          cases ht with
          | cons _ _ => cases h
          | nil =>
            cases h
            refine OpSim.mk hx ?_
            rw [run_callFunc_extern hf (by rw [hname]; decide) hb (hP.next f fn hf hb (.inl hname)) (find_noEscape hname)]
            rfl
      · split at h
        · rename_i hname
          cases hl with
          | nil => cases h
          | cons hx ht =>
            rename_i x x' l l'
            cases ht with
            | cons _ _ => split at h <;> first | (cases h; done) | simp_all
            | nil =>
              split at h
              · rename_i n elem hq1 hq2
                simp only [List.cons.injEq, and_true] at hq1
                subst hq1
                cases hx
                split at h <;> cases h
                rename_i hc
                obtain ⟨hc1, hc2, hc3⟩ := hc
                cases hr0 : fn.resultTypes[0]? with
                | none => simp [hr0] at hq2
                | some t =>
                  simp only [hr0, Option.bind_some] at hq2
                  obtain ⟨k, rfl⟩ := Int.eq_ofNat_of_zero_le hc1
                  obtain ⟨b, hb'⟩ := bytes_of_size hc3
                  obtain ⟨cs, h1, h2, h3⟩ := run_makeNoZero_any (P := P) (w := w) fn.params fn.resultTypes t elem hr0 hq2 k (by simp [roomy] at hc2; omega)
                  have hh := hm.newRow (cs := List.replicate k junk) (cs' := cs.toList) hc3 hb' (by
                    rw [List.length_replicate]
                    refine VRelL.replicate_junk k _ (by simp; omega) fun v hv => h3 v (List.mem_of_mem_take hv)) (by simp; omega) (lo := 0) (hi := 0) rfl (w.drawn + 2)
                  refine OpSim.mkAlloc (v' := .slice (some ⟨w.heap.size, 0, none⟩) k cs.size) ?_ hh (slice_new h2 (Nat.le_refl _) (fun h => by cases h) (by simp) trivial)
                  rw [run_callFunc_extern hf (by rw [hname]; decide) hb (hP.next f fn hf hb (.inr (.inl hname))) (find_makeNoZero hname), h1]
                  rfl
              · cases h
        · split at h
          · rename_i hname
            cases hl with
            | nil => cases h
            | cons hx ht =>
              cases ht with
              | nil => split at h <;> simp_all
              | cons hy ht =>
                cases ht with
                | cons _ _ => split at h <;> simp_all
                | nil =>
                  split at h
                  · rename_i hq
                    simp only [List.cons.injEq, and_true] at hq
                    obtain ⟨rfl, rfl⟩ := hq
                    cases hx; cases hy
                    cases h
                    refine OpSim.mk (.int _ _) ?_
                    rw [run_callFunc_extern hf (by rw [hname]; decide) hb (hP.next f fn hf hb (.inr (.inr hname))) (find_cmpstring hname), run_cmpstring]
                    rfl
                  · cases h
          · cases h
    · rename_i hb
      split at h
      · cases h
      · rename_i hn
        cases h
        refine ⟨⟨args'⟩, ?_, hl⟩
        have hb' : fn.body ≠ none := by simpa using hb
        simp [callFunc, hf, hn, hb']

end
end Go.Am
