import Derived.Test.YthnjfgjbgblciaaGreatDoorAm30
/-
  THE ABSTRACT MACHINE, 31: operations, every branch a closed term.
-/
namespace Go.Am

/-! types -/

noncomputable def tInt (d : Option TypeDesc) : Option IntKind := match d with | some (.int k) => some k | _ => none
noncomputable def isIntT (P : Program) (t : TypeId) : Bool := (tInt (under P t)).isSome
noncomputable def intT (P : Program) (t : TypeId) : Option IntKind := tInt (under P t)
noncomputable def fldOff (P : Program) (s : TypeId) (f : Nat) : Option Nat :=
  match under P s with
  | some (.struct fields) => match fields[f]? with
    | some fl => match sizeT P fl.type with
      | some (_ + 1) => some fl.offset
      | _ => none
    | none => none
  | _ => none
noncomputable def elSize (P : Program) (t : TypeId) : Option Nat := match under P t with | some (.slice e) => sizeT P e | _ => none
noncomputable def isStrT (P : Program) (t : TypeId) : Bool := match under P t with | some .string => true | _ => false
noncomputable def size1 (P : Program) (t : TypeId) : Bool := match sizeT P t with | some n => Nat.beq n 1 | none => false
/-- 1: a string's, 2: a slice's length is asked. -/
noncomputable def lenKind (P : Program) (ts : Array TypeId) : Nat := match (ts[0]?).bind (under P) with | some .string => 1 | some (.slice _) => 2 | _ => 0

/-! lists -/

noncomputable def setO (v : Value) (cs : List Value) : Nat → Option (List Value) :=
  List.rec (motive := fun _ => Nat → Option (List Value)) (fun _ => none)
    (fun c l ih n => Nat.rec (motive := fun _ => Option (List Value)) (some (v :: l)) (fun n _ => Option.rec (motive := fun _ => Option (List Value)) none (fun l' => some (c :: l')) (ih n)) n) cs

theorem setO_eq (v : Value) : ∀ (cs : List Value) (n : Nat), setO v cs n = if n + 1 ≤ cs.length then some (splice cs n [v]) else none
  | [], n => by rw [if_neg (by simp)]; rfl
  | c :: l, 0 => by rw [if_pos (by simp)]; rfl
  | c :: l, n + 1 => by
    show Option.rec (motive := fun _ => Option (List Value)) none (fun l' => some (c :: l')) (setO v l n) = _
    rw [setO_eq v l n]
    by_cases h : n + 1 ≤ l.length
    · rw [if_pos h, if_pos (by simpa using h)]; simp [splice]
    · rw [if_neg h, if_neg (by simpa using h)]

noncomputable def getB (cs : List UInt8) : Nat → Option UInt8 :=
  List.rec (motive := fun _ => Nat → Option UInt8) (fun _ => none) (fun c _ ih n => Nat.rec (motive := fun _ => Option UInt8) (some c) (fun n _ => ih n) n) cs
theorem getB_eq : ∀ (cs : List UInt8) (n : Nat), getB cs n = cs[n]?
  | [], n => by simp [getB]
  | c :: l, 0 => rfl
  | c :: l, n + 1 => by show getB l n = _; rw [getB_eq l n]; simp

/-- Surely a single cell. -/
noncomputable def oneF (v : Value) : Bool :=
  Value.rec (motive_1 := fun _ => Bool) (motive_2 := fun _ => Unit) (motive_3 := fun _ => Unit)
    (fun _ => true) (fun _ _ => true) (fun _ _ => true) (fun _ _ _ => true) (fun _ => true) (fun _ => true) (fun _ _ _ => true) (fun _ => true) (fun _ => false)
    (fun _ _ _ _ _ => true) true (fun _ _ _ => true) true (fun _ _ => false) (fun _ _ => false) (fun _ _ => ()) () (fun _ _ _ _ => ()) v
theorem oneF_ok {v : Value} (h : oneF v = true) : isJunk v = false ∧ v.cells = #[v] ∧ oneC v = true := by
  cases v <;> first | (cases h; done) | exact ⟨rfl, rfl, rfl⟩

section
variable (P : Program) (fl : List TypeId) (h : Tr) (rs : Rs) (o : Oper)

noncomputable def convF (src dst : TypeId) (x : Operand) : Option OpR :=
  Option.rec (motive := fun _ => Program → Tr → Rs → TypeId → TypeId → Operand → Option OpR)
    (fun P h rs src dst x => convertR P h rs src dst x)
    (fun p P h rs src dst x => Option.rec (motive := fun _ => IntKind × Int → Program → Tr → Rs → TypeId → TypeId → Operand → Option OpR) (fun _ P h rs src dst x => convertR P h rs src dst x)
      (fun k p P h rs src dst x => Bool.rec (motive := fun _ => IntKind → IntKind × Int → Program → Tr → Rs → TypeId → TypeId → Operand → Option OpR) (fun _ _ P h rs src dst x => convertR P h rs src dst x)
        (fun k p _ _ _ _ _ _ => Prod.rec (motive := fun _ => IntKind → Option OpR) (fun _ n k => some (.val (.int k (wrapF k n)))) p k) (isIntT P src) k p P h rs src dst x) (intT P dst) p P h rs src dst x)
    (vInt (evalF P rs x)) P h rs src dst x

theorem convF_eq (src dst : TypeId) (x : Operand) : convF P h rs src dst x = convertR P h rs src dst x := by
  unfold convF
  cases hx : vInt (evalF P rs x) with
  | none => rfl
  | some p =>
    dsimp only
    cases hk : intT P dst with
    | none => rfl
    | some k =>
      dsimp only
      cases hs : isIntT P src with
      | false => rfl
      | true =>
        dsimp only
        have e1 := vInt_some hx
        rw [evalF_eq] at e1
        unfold isIntT tInt at hs
        unfold intT tInt at hk
        cases hu : under P src with
        | none => rw [hu] at hs; cases hs
        | some d =>
          cases hv : under P dst with
          | none => rw [hv] at hk; cases hk
          | some d' =>
            rw [hu] at hs; rw [hv] at hk
            cases d <;> simp at hs
            cases d' <;> simp at hk
            subst hk
            simp only [convertR, e1, hu, hv, wrapF_eq]

noncomputable def fieldAddrF (s : TypeId) (x : Operand) (f : Nat) : Option OpR :=
  Option.rec (motive := fun _ => Program → TypeId → Nat → Option OpR) (fun _ _ _ => none)
    (fun a P s f => Option.rec (motive := fun _ => Addr → Option OpR) (fun _ => none) (fun off a => Addr.rec (motive := fun _ => Nat → Option OpR) (fun b o _ off => some (.val (.pointer (some ⟨b, Nat.add o off, none⟩)))) a off) (fldOff P s f) a)
    (vPtr (evalF P rs x)) P s f

theorem vPtr_none {v : Value} (h : vPtr v = none) : ∀ a, v ≠ .pointer (some a) := by
  rintro a rfl; cases h

theorem fieldAddrF_eq (s : TypeId) (x : Operand) (f : Nat) : fieldAddrF P rs s x f = fieldAddrR P rs s x f := by
  unfold fieldAddrF
  cases hx : vPtr (evalF P rs x) with
  | none =>
    rw [evalF_eq] at hx
    have hn := vPtr_none hx
    unfold fieldAddrR
    simp only
    split
    · rename_i fields a _ he; exact absurd he (hn a)
    · rfl
  | some a =>
    have e := vPtr_some hx
    rw [evalF_eq] at e
    dsimp only
    unfold fldOff fieldAddrR
    simp only [e]
    cases hu : under P s with
    | none => rfl
    | some d =>
      cases d <;> first | rfl | skip
      rename_i fields
      dsimp only
      cases hf : fields[f]? with
      | none => rfl
      | some fl =>
        dsimp only
        cases hs : sizeT P fl.type with
        | none => rfl
        | some n => cases n <;> rfl

noncomputable def indexAddrF (t : TypeId) (x : Operand) (ix : Operand) : Option OpR :=
  Option.rec (motive := fun _ => Program → Rs → TypeId → Operand → Operand → Option OpR) (fun P rs t x ix => indexAddrR P rs t x ix)
    (fun sl P rs t x ix => Option.rec (motive := fun _ => Addr × Nat → Program → Rs → TypeId → Operand → Operand → Option OpR) (fun _ P rs t x ix => indexAddrR P rs t x ix)
      (fun q sl P rs t x ix => Option.rec (motive := fun _ => Addr × Nat → Program → Rs → TypeId → Operand → Operand → Option OpR) (fun _ P rs t x ix => indexAddrR P rs t x ix)
        (fun i sl P rs t x ix => Option.rec (motive := fun _ => Nat → Addr × Nat → Program → Rs → TypeId → Operand → Operand → Option OpR) (fun _ _ P rs t x ix => indexAddrR P rs t x ix)
          (fun es i sl _ _ _ _ _ => Prod.rec (motive := fun _ => Nat → Nat → Option OpR) (fun a len i es => bif Nat.blt i len then Addr.rec (motive := fun _ => Nat → Nat → Option OpR)
            (fun b o _ i es => some (.val (.pointer (some ⟨b, Nat.add o (Nat.mul i es), none⟩)))) a i es else none) sl i es) (elSize P t) i sl P rs t x ix) (zOf q.2) sl P rs t x ix)
      (vInt (evalF P rs ix)) sl P rs t x ix)
    (vSlice (evalF P rs x)) P rs t x ix

theorem zOf_some {z : Int} {n : Nat} (h : zOf z = some n) : z = n := by
  cases z <;> cases h; rfl

theorem indexAddrF_eq (t : TypeId) (x : Operand) (ix : Operand) : indexAddrF P rs t x ix = indexAddrR P rs t x ix := by
  unfold indexAddrF
  cases hx : vSlice (evalF P rs x) with
  | none => rfl
  | some sl =>
    dsimp only
    cases hi : vInt (evalF P rs ix) with
    | none => rfl
    | some q =>
      dsimp only
      cases hz : zOf q.2 with
      | none => rfl
      | some i =>
        dsimp only
        cases he : elSize P t with
        | none => rfl
        | some es =>
          dsimp only
          obtain ⟨c, e1⟩ := vSlice_some hx
          have e2 := vInt_some hi
          have e3 := zOf_some hz
          rw [evalF_eq] at e1 e2
          obtain ⟨⟨b, o, sp⟩, len⟩ := sl
          unfold elSize at he
          unfold indexAddrR
          simp only [e1, e2, e3]
          cases hu : under P t with
          | none => rw [hu] at he; cases he
          | some d =>
            rw [hu] at he
            cases d <;> first | (cases he; done) | skip
            dsimp only at he ⊢
            rw [he]
            dsimp only
            cases hb : Nat.blt i len with
            | true =>
              have : i < len := by simpa [Nat.blt_eq] using hb
              rw [cond_true, if_pos (by omega)]
              rfl
            | false =>
              have : ¬ i < len := by intro hc; rw [show Nat.blt i len = true by simpa [Nat.blt_eq] using hc] at hb; cases hb
              rw [cond_false, if_neg (by omega)]

noncomputable def indexF (t : TypeId) (x : Operand) (ix : Operand) : Option OpR :=
  Option.rec (motive := fun _ => Program → Rs → TypeId → Operand → Operand → Option OpR) (fun P rs t x ix => indexR P rs t x ix)
    (fun s P rs t x ix => Option.rec (motive := fun _ => List UInt8 → Program → Rs → TypeId → Operand → Operand → Option OpR) (fun _ P rs t x ix => indexR P rs t x ix)
      (fun q s P rs t x ix => Option.rec (motive := fun _ => List UInt8 → Program → Rs → TypeId → Operand → Operand → Option OpR) (fun _ P rs t x ix => indexR P rs t x ix)
        (fun i s P rs t x ix => Bool.rec (motive := fun _ => Nat → List UInt8 → Program → Rs → TypeId → Operand → Operand → Option OpR) (fun _ _ P rs t x ix => indexR P rs t x ix)
          (fun i s _ _ _ _ _ => Option.rec (motive := fun _ => Option OpR) none (fun b => some (.val (.int .u8 (Int.ofNat b.toNat)))) (getB s i)) (isStrT P t) i s P rs t x ix) (zOf q.2) s P rs t x ix)
      (vInt (evalF P rs ix)) s P rs t x ix)
    (vStr (evalF P rs x)) P rs t x ix

theorem indexF_eq (t : TypeId) (x : Operand) (ix : Operand) : indexF P rs t x ix = indexR P rs t x ix := by
  unfold indexF
  cases hx : vStr (evalF P rs x) with
  | none => rfl
  | some l =>
    dsimp only
    cases hi : vInt (evalF P rs ix) with
    | none => rfl
    | some q =>
      dsimp only
      cases hz : zOf q.2 with
      | none => rfl
      | some i =>
        dsimp only
        cases he : isStrT P t with
        | false => rfl
        | true =>
          dsimp only
          obtain ⟨s, e1, e4⟩ := vStr_some hx
          have e2 := vInt_some hi
          have e3 := zOf_some hz
          rw [evalF_eq] at e1 e2
          unfold isStrT at he
          unfold indexR
          simp only [e1, e2, e3]
          cases hu : under P t with
          | none => rw [hu] at he; cases he
          | some d =>
            rw [hu] at he
            cases d <;> first | (cases he; done) | skip
            dsimp only
            rw [if_pos (by omega), getB_eq, ← e4]
            simp only [Int.toNat_natCast]
            cases s.data.toList[i]? <;> rfl

noncomputable def storeF (t : TypeId) (a : Operand) (x : Operand) : Option OpR :=
  Option.rec (motive := fun _ => Program → Tr → Rs → TypeId → Operand → Operand → Option OpR) (fun _ _ _ _ _ _ => none)
    (fun ad P h rs t a x => Bool.rec (motive := fun _ => Value → Addr → Program → Tr → Rs → TypeId → Operand → Operand → Option OpR) (fun _ _ P h rs t a x => storeR P h rs t a x)
      (fun v ad _ h _ _ _ _ => Option.rec (motive := fun _ => Value → Addr → Tr → Option OpR) (fun _ _ _ => none)
        (fun ob v ad h => AObj.rec (motive := fun _ => Value → Addr → Tr → Option OpR)
          (fun cs e fz v ad h => Option.rec (motive := fun _ => TypeId → Nat → Addr → Tr → Option OpR) (fun _ _ _ _ => none)
            (fun cs' e fz ad h => bif Nat.ble (fz / 2) ad.off then some (.step undef (h.set ad.block (some (.row cs' e fz)))) else none) (setO v cs ad.off) e fz ad h)
          (fun _ _ _ _ _ => none) (fun _ _ _ _ _ => none) (fun _ _ _ _ _ _ _ => none) ob v ad h) (h.get ad.block) v ad h)
      (oneF (evalF P rs x) && size1 P t) (evalF P rs x) ad P h rs t a x)
    (vPtr (evalF P rs a)) P h rs t a x

theorem storeF_eq (t : TypeId) (a : Operand) (x : Operand) : storeF P h rs t a x = storeR P h rs t a x := by
  unfold storeF
  cases hx : vPtr (evalF P rs a) with
  | none =>
    rw [evalF_eq] at hx
    have hn := vPtr_none hx
    show (none : Option OpR) = storeR P h rs t a x
    unfold storeR
    dsimp only
    split
    · rename_i ad he; exact absurd he (hn ad)
    · rfl
  | some ad =>
    have e := vPtr_some hx
    rw [evalF_eq] at e
    dsimp only
    cases hb : (oneF (evalF P rs x) && size1 P t) with
    | false => rfl
    | true =>
      dsimp only
      simp only [Bool.and_eq_true] at hb
      obtain ⟨h1, h2⟩ := hb
      obtain ⟨g1, g2, g3⟩ := oneF_ok h1
      have hs : sizeT P t = some 1 := by
        unfold size1 at h2
        cases hs : sizeT P t with
        | none => rw [hs] at h2; cases h2
        | some n => rw [hs] at h2; rw [Nat.eq_of_beq_eq_true h2]
      rw [evalF_eq] at *
      unfold storeR
      simp only [e]
      rw [if_pos ⟨g1, by rw [g2, hs]; rfl⟩, g2]
      unfold storeAt rowAt
      cases hg : h.get ad.block with
      | none => rfl
      | some ob =>
        cases ob with
        | row cs el fz =>
          dsimp only
          rw [setO_eq]
          simp only [allL, g3, Bool.and_true, and_true, List.length_singleton]
          by_cases hl : ad.off + 1 ≤ cs.length
          · rw [if_pos hl]
            dsimp only
            by_cases hf : fz / 2 ≤ ad.off
            · rw [if_pos ⟨hl, hf⟩, show Nat.ble (fz / 2) ad.off = true from Nat.ble_eq_true_of_le hf]; rfl
            · rw [if_neg (fun hh => hf hh.2)]
              have : Nat.ble (fz / 2) ad.off = false := by
                cases hh : Nat.ble (fz / 2) ad.off with
                | false => rfl
                | true => exact absurd (Nat.le_of_ble_eq_true hh) hf
              rw [this]; rfl
          · rw [if_neg hl, if_neg (fun hh => hl hh.1)]; rfl
        | _ => rfl

end
end Go.Am
