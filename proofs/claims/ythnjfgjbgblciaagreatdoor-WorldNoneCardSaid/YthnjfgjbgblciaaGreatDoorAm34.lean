import Derived.Test.YthnjfgjbgblciaaGreatDoorAm33
import GoSem.ClaimJoined
/-
  THE ABSTRACT MACHINE, 34: the cells of a variable whose content is listed.
-/
namespace Go.Am

mutual
/-- The cells of a plain datum. -/
def flatD : DataW Unit → Option (List Value)
  | .lit (.int k n) => some [.int k n]
  | .lit (.bool b) => some [.bool b]
  | .lit (.string l) => some [.string ⟨⟨l⟩⟩]
  | .agg ds => flatDs ds
  | _ => none
def flatDs : List (DataW Unit) → Option (List Value)
  | [] => some []
  | d :: r =>
    match flatD d, flatDs r with
    | some a, some b => some (a ++ b)
    | _, _ => none
end

def fieldsB (P : Program) (rec_ : TypeId → Bool) (total : Nat) : Nat → List Field → Bool
  | acc, [] => Nat.beq acc total
  | acc, f :: fs => Nat.beq f.offset acc && rec_ f.type && fieldsB P rec_ total (acc + P.cellsOf f.type) fs

/-- Plain cells side by side. -/
def tightB (P : Program) : Nat → TypeId → Bool
  | 0, _ => false
  | n + 1, t =>
    match P.underlying t with
    | some .bool | some (.int _) | some .string => true
    | some (.struct fs) => fieldsB P (tightB P n) (P.cellsOf t) 0 fs.toList
    | some (.array k e) => Nat.beq (P.cellsOf t) (k * P.cellsOf e) && tightB P n e
    | _ => false

section
variable {P : Program} {w : World}

theorem flatDs_cons {d : DataW Unit} {r : List (DataW Unit)} {l : List Value} (h : flatDs (d :: r) = some l) : ∃ a b, flatD d = some a ∧ flatDs r = some b ∧ l = a ++ b := by
  rw [flatDs] at h
  split at h
  · rename_i a b h1 h2; cases h; exact ⟨a, b, h1, h2, rfl⟩
  · cases h

theorem mapM_cons_some {α β : Type} {f : α → Option β} {x : α} {l : List α} {r : List β} (h : (x :: l).mapM f = some r) : ∃ y ys, f x = some y ∧ l.mapM f = some ys ∧ r = y :: ys := by
  rw [List.mapM_cons] at h
  cases h1 : f x with
  | none => rw [h1] at h; cases h
  | some y =>
    rw [h1] at h
    cases h2 : l.mapM f with
    | none => rw [h2] at h; cases h
    | some ys =>
      rw [h2] at h
      cases h
      exact ⟨y, ys, rfl, rfl, rfl⟩

theorem take_drop_split (cs : List Value) (a s : Nat) : cs.drop a = (cs.drop a).take s ++ cs.drop (a + s) := by
  rw [← List.drop_drop, List.take_append_drop]

theorem flat_fields {rec_ : TypeId → Bool} {total : Nat} {g : Field → Option (DataW Unit × List MemPlace)} {cs : List Value} (hlen : cs.length = total)
    (ih : ∀ f x a, g f = some x → flatD x.1 = some a → rec_ f.type = true → (cs.drop f.offset).take (P.cellsOf f.type) = a) :
    ∀ (fs : List Field) (acc : Nat) (xs : List (DataW Unit × List MemPlace)) (l : List Value), fs.mapM g = some xs → flatDs (xs.map (·.1)) = some l → fieldsB P rec_ total acc fs = true → cs.drop acc = l
  | [], acc, xs, l, h1, h2, h3 => by
    cases h1
    cases h2
    have := Nat.eq_of_beq_eq_true (show Nat.beq acc total = true from h3)
    exact List.drop_eq_nil_of_le (by omega)
  | f :: fs, acc, xs, l, h1, h2, h3 => by
    obtain ⟨x, xs', e1, e2, rfl⟩ := mapM_cons_some h1
    obtain ⟨a, b, k1, k2, rfl⟩ := flatDs_cons h2
    simp only [fieldsB, Bool.and_eq_true] at h3
    obtain ⟨⟨h4, h5⟩, h6⟩ := h3
    have ho := Nat.eq_of_beq_eq_true h4
    have hb := flat_fields hlen ih fs _ xs' b e2 k2 h6
    have ha := ih f x a e1 k1 h5
    rw [take_drop_split cs acc (P.cellsOf f.type), hb, ← ho, ha]

theorem flat_array {s n : Nat} {g : Nat → Option (DataW Unit × List MemPlace)} {cs : List Value} (hlen : cs.length = n * s) (ih : ∀ i x a, g i = some x → flatD x.1 = some a → (cs.drop (i * s)).take s = a) :
    ∀ (m i : Nat) (xs : List (DataW Unit × List MemPlace)) (l : List Value), i + m = n → (List.range' i m).mapM g = some xs → flatDs (xs.map (·.1)) = some l → cs.drop (i * s) = l
  | 0, i, xs, l, hn, h1, h2 => by
    cases h1
    cases h2
    have : i = n := by omega
    subst this
    exact List.drop_eq_nil_of_le (by omega)
  | m + 1, i, xs, l, hn, h1, h2 => by
    rw [List.range'_succ] at h1
    obtain ⟨x, xs', e1, e2, rfl⟩ := mapM_cons_some h1
    obtain ⟨a, b, k1, k2, rfl⟩ := flatDs_cons h2
    have hb := flat_array hlen ih m (i + 1) xs' b (by omega) e2 k2
    have ha := ih i x a e1 k1
    rw [take_drop_split cs (i * s) s, ha, show i * s + s = (i + 1) * s by rw [Nat.add_mul, Nat.one_mul], hb]

theorem trod_flat {enc : TypeId × Value → Unit} {base : Nat} {sp : Nat → Bool} {held : Bool} : ∀ (fuel n : Nat) (t : TypeId) (cs : List Value) (d : DataW Unit) (ps : List MemPlace) (l : List Value),
    DataW.trod enc P w base sp held fuel t cs = some (d, ps) → flatD d = some l → tightB P n t = true → cs = l
  | 0, _, _, _, _, _, _, h, _, _ => by cases h
  | _ + 1, 0, _, _, _, _, _, _, _, h => by cases h
  | fuel + 1, n + 1, t, cs, d, ps, l, h, hd, ht => by
    unfold DataW.trod at h
    unfold tightB at ht
    cases hu : P.underlying t with
    | none => rw [hu] at ht; cases ht
    | some td =>
      rw [hu] at h ht
      cases td <;> try (simp at ht; done)
      case bool =>
        rcases cs with _ | ⟨c, _ | ⟨c2, r⟩⟩ <;> try (simp at h; done)
        cases c <;> try (simp at h; done)
        simp only [Option.some.injEq, Prod.mk.injEq] at h
        obtain ⟨rfl, _⟩ := h
        exact Option.some.inj hd
      case int k =>
        rcases cs with _ | ⟨c, _ | ⟨c2, r⟩⟩ <;> try (simp at h; done)
        cases c <;> try (simp at h; done)
        simp only at h
        split at h
        · rename_i hk
          obtain ⟨rfl, _⟩ := hk
          simp only [Option.some.injEq, Prod.mk.injEq] at h
          obtain ⟨rfl, _⟩ := h
          exact Option.some.inj hd
        · cases h
      case string =>
        rcases cs with _ | ⟨c, _ | ⟨c2, r⟩⟩ <;> try (simp at h; done)
        cases c <;> try (simp at h; done)
        simp only at h
        split at h
        · simp only [Option.some.injEq, Prod.mk.injEq] at h
          obtain ⟨rfl, _⟩ := h
          exact Option.some.inj hd
        · cases h
      case array k e =>
        simp only [Bool.and_eq_true] at ht
        obtain ⟨h1, h2⟩ := ht
        have hc := Nat.eq_of_beq_eq_true h1
        simp only at h
        split at h
        · rename_i hl
          obtain ⟨xs, hm, hx⟩ := Option.map_eq_some_iff.1 h
          cases hx
          rw [List.range_eq_range'] at hm
          have := flat_array (s := P.cellsOf e) (n := k) (hl.trans hc) (fun i x a hx ha => trod_flat fuel n e _ x.1 x.2 a hx ha h2) k 0 xs l (by omega) hm hd
          simpa using this
        · cases h
      case struct fs =>
        simp only at h
        split at h
        · rename_i hl
          obtain ⟨xs, hm, hx⟩ := Option.map_eq_some_iff.1 h
          cases hx
          have := flat_fields (P := P) (rec_ := tightB P n) hl (fun f x a hx ha hr => trod_flat fuel n f.type _ x.1 x.2 a hx ha hr) fs.toList 0 xs l hm hd ht
          simpa using this
        · cases h

/-- What a list of variables says of one of them. -/
theorem laid_var : ∀ {l : List (String × DataW Unit)} {ps : List MemPlace}, DataW.LaidVars P w l ps → ∀ {n : String} {d : DataW Unit} {v : List Value} {g k : Nat} {t : TypeId}, (n, d) ∈ l → flatD d = some v →
    P.globalNamed n = some g → (P.globals[g]?).map (·.type) = some t → tightB P k t = true → ∃ c u fr, w.heap[g]? = some (.cells c u fr) ∧ c.toList = v
  | [], _, _, _, _, _, _, _, _, h, _, _, _, _ => by cases h
  | (n', d') :: r, ps, h, n, d, v, g, k, t, hin, hv, hg, ht, hk => by
    obtain ⟨g', t', cs, fuel, p, q, h1, h2, h3, h4, h5, _⟩ := h
    rcases List.mem_cons.1 hin with e | hin
    · cases e
      rw [hg] at h1; cases h1
      rw [ht] at h2; cases h2
      have hcs := trod_flat fuel k t _ _ _ _ h4 hv hk
      unfold World.var? at h3
      rw [hg] at h3
      simp only [Option.bind_some] at h3
      cases hh : w.heap[g]? with
      | none => rw [hh] at h3; cases h3
      | some ob =>
        rw [hh] at h3
        cases ob <;> try (cases h3; done)
        cases h3
        exact ⟨_, _, _, rfl, hcs⟩
    · exact laid_var h5 hin hv hg ht hk

end
end Go.Am
