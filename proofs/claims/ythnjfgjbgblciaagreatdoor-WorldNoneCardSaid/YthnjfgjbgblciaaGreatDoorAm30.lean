import Derived.Test.YthnjfgjbgblciaaGreatDoorAm29
/-
  THE ABSTRACT MACHINE, 30: operators and operations, every branch a closed term.
-/
namespace Go.Am

noncomputable def kindIx (k : IntKind) : Nat := IntKind.rec (motive := fun _ => Nat) 0 1 2 3 4 5 6 7 k
noncomputable def kindEq (k j : IntKind) : Bool := Nat.beq (kindIx k) (kindIx j)
theorem kindEq_iff (k j : IntKind) : kindEq k j = decide (k = j) := by cases k <;> cases j <;> rfl
theorem bif_kind {α : Type} (k j : IntKind) (x y : α) : (bif kindEq k j then x else y) = if k = j then x else y := by
  rw [kindEq_iff]; by_cases h : k = j <;> simp [h]

noncomputable def kindBits (k : IntKind) : Nat := IntKind.rec (motive := fun _ => Nat) 256 65536 4294967296 18446744073709551616 256 65536 4294967296 18446744073709551616 k
theorem kindBits_eq (k : IntKind) : kindBits k = 2 ^ k.bits := by cases k <;> rfl

noncomputable def logF (f : Nat → Nat → Nat) (k : IntKind) (a b : Int) : Int := wrapF k (Int.ofNat (f (modN (kindBits k) a) (modN (kindBits k) b)))

theorem modN_toNat (k : IntKind) (a : Int) : modN (kindBits k) a = (BitVec.ofInt k.bits a).toNat := by
  have hp : 0 < kindBits k := by cases k <;> decide
  have h := modN_eq hp a
  rw [BitVec.toNat_ofInt, ← kindBits_eq k, ← h]
  rfl

noncomputable def kindB (k : IntKind) : Nat := IntKind.rec (motive := fun _ => Nat) 8 16 32 64 8 16 32 64 k
theorem kindB_eq (k : IntKind) : kindB k = k.bits := by cases k <;> rfl
noncomputable def powN (k : IntKind) (n : Nat) : Nat := Nat.pow 2 (bif Nat.ble n (kindB k) then n else kindB k)
theorem powN_eq (k : IntKind) (n : Nat) : ((powN k n : Nat) : Int) = 2 ^ (min n k.bits) := by
  unfold powN
  rw [kindB_eq]
  have : (bif Nat.ble n k.bits then n else k.bits) = min n k.bits := by
    cases h : Nat.ble n k.bits with
    | true => have := Nat.le_of_ble_eq_true h; rw [cond_true]; omega
    | false =>
      have : ¬ n ≤ k.bits := fun hh => by rw [Nat.ble_eq_true_of_le hh] at h; cases h
      rw [cond_false]; omega
  rw [this]
  show ((2 ^ (min n k.bits) : Nat) : Int) = _
  simp

noncomputable def shrF (k : IntKind) (a : Int) (j : IntKind) (b : Int) : Option Value :=
  Int.rec (motive := fun _ => IntKind → IntKind → Int → Option Value)
    (fun m k j b => Int.rec (motive := fun _ => IntKind → IntKind → Nat → Option Value)
      (fun n k _ m => some (.int k (Int.ofNat (Nat.div m (powN k n))))) (fun n k j m => intR .shr k (Int.ofNat m) j (Int.negSucc n)) b k j m)
    (fun m k j b => intR .shr k (Int.negSucc m) j b) a k j b

theorem shrF_eq (k : IntKind) (a : Int) (j : IntKind) (b : Int) : shrF k a j b = intR .shr k a j b := by
  cases a with
  | negSucc m => rfl
  | ofNat m =>
    cases b with
    | negSucc n => rfl
    | ofNat n =>
      show some (Value.int k (Int.ofNat (m / powN k n))) = if (Int.ofNat n) < 0 then none else some (.int k ((Int.ofNat m).fdiv (2 ^ (min (Int.ofNat n).toNat k.bits))))
      rw [if_neg (by simp), show (Int.ofNat n).toNat = n from rfl, ← powN_eq, Int.fdiv_eq_ediv_of_nonneg _ (by omega)]
      rfl

noncomputable def shlF (k : IntKind) (a : Int) (j : IntKind) (b : Int) : Option Value :=
  Int.rec (motive := fun _ => IntKind → IntKind → Int → Option Value)
    (fun m k j b => Int.rec (motive := fun _ => IntKind → IntKind → Nat → Option Value)
      (fun n k _ m => some (.int k (wrapF k (Int.ofNat (Nat.mul m (powN k n)))))) (fun n k j m => intR .shl k (Int.ofNat m) j (Int.negSucc n)) b k j m)
    (fun m k j b => intR .shl k (Int.negSucc m) j b) a k j b

theorem shlF_eq (k : IntKind) (a : Int) (j : IntKind) (b : Int) : shlF k a j b = intR .shl k a j b := by
  cases a with
  | negSucc m => rfl
  | ofNat m =>
    cases b with
    | negSucc n => rfl
    | ofNat n =>
      show some (Value.int k (wrapF k (Int.ofNat (m * powN k n)))) = if (Int.ofNat n) < 0 then none else some (.int k (k.wrap ((Int.ofNat m) * (2 ^ (min (Int.ofNat n).toNat k.bits)))))
      rw [if_neg (by simp), show (Int.ofNat n).toNat = n from rfl, ← powN_eq, wrapF_eq]
      rfl

noncomputable def intF (op : BinOp) (k : IntKind) (a : Int) (j : IntKind) (b : Int) : Option Value :=
  BinOp.rec (motive := fun _ => IntKind → Int → IntKind → Int → Option Value)
    (fun k a j b => bif kindEq k j then some (.int k (wrapF k (addZ a b))) else none)
    (fun k a j b => bif kindEq k j then some (.int k (wrapF k (subZ a b))) else none)
    (fun k a j b => bif kindEq k j then some (.int k (wrapF k (mulZ a b))) else none)
    (fun k a j b => intR .quo k a j b)
    (fun k a j b => intR .rem k a j b)
    (fun k a j b => bif kindEq k j then some (.int k (logF Nat.land k a b)) else none)
    (fun k a j b => bif kindEq k j then some (.int k (logF Nat.lor k a b)) else none)
    (fun k a j b => bif kindEq k j then some (.int k (logF Nat.xor k a b)) else none)
    (fun k a j b => shlF k a j b)
    (fun k a j b => shrF k a j b)
    (fun k a j b => intR .andNot k a j b)
    (fun k a j b => bif kindEq k j then some (.bool (eqZ a b)) else none)
    (fun k a j b => bif kindEq k j then some (.bool (!(eqZ a b))) else none)
    (fun k a j b => bif kindEq k j then some (.bool (ltZ a b)) else none)
    (fun k a j b => bif kindEq k j then some (.bool (!(ltZ b a))) else none)
    (fun k a j b => bif kindEq k j then some (.bool (ltZ b a)) else none)
    (fun k a j b => bif kindEq k j then some (.bool (!(ltZ a b))) else none)
    op k a j b

theorem intF_eq (op : BinOp) (k : IntKind) (a : Int) (j : IntKind) (b : Int) : intF op k a j b = intR op k a j b := by
  cases op <;> first
    | rfl
    | exact shlF_eq k a j b
    | exact shrF_eq k a j b
    | (show (bif kindEq k j then _ else _) = intR _ k a j b
       rw [bif_kind]
       by_cases h : k = j
       · subst h
         simp only [intR, if_true, addZ_eq, subZ_eq, mulZ_eq, wrapF_eq, eqZ_eq, ltZ_eq, logF, modN_toNat]
         all_goals first
           | rfl
           | (congr 2; rw [Bool.eq_iff_iff]; simp [Int.not_lt])
           | (simp [Int.not_lt])
       · simp [intR, h])

/-! values -/

noncomputable def vInt (v : Value) : Option (IntKind × Int) :=
  Value.rec (motive_1 := fun _ => Option (IntKind × Int)) (motive_2 := fun _ => Unit) (motive_3 := fun _ => Unit)
    (fun _ => none) (fun k n => some (k, n)) (fun _ _ => none) (fun _ _ _ => none) (fun _ => none) (fun _ => none) (fun _ _ _ => none) (fun _ => none) (fun _ => none)
    (fun _ _ _ _ _ => none) none (fun _ _ _ => none) none (fun _ _ => none) (fun _ _ => none) (fun _ _ => ()) () (fun _ _ _ _ => ()) v

noncomputable def vPtr (v : Value) : Option Addr :=
  Value.rec (motive_1 := fun _ => Option Addr) (motive_2 := fun _ => Unit) (motive_3 := fun _ => Unit)
    (fun _ => none) (fun _ _ => none) (fun _ _ => none) (fun _ _ _ => none) (fun _ => none) (fun a => a) (fun _ _ _ => none) (fun _ => none) (fun _ => none)
    (fun _ _ _ _ _ => none) none (fun _ _ _ => none) none (fun _ _ => none) (fun _ _ => none) (fun _ _ => ()) () (fun _ _ _ _ => ()) v

noncomputable def vSlice (v : Value) : Option (Addr × Nat) :=
  Value.rec (motive_1 := fun _ => Option (Addr × Nat)) (motive_2 := fun _ => Unit) (motive_3 := fun _ => Unit)
    (fun _ => none) (fun _ _ => none) (fun _ _ => none) (fun _ _ _ => none) (fun _ => none) (fun _ => none)
    (fun a n _ => Option.rec (motive := fun _ => Nat → Option (Addr × Nat)) (fun _ => none) (fun a n => some (a, n)) a n) (fun _ => none) (fun _ => none)
    (fun _ _ _ _ _ => none) none (fun _ _ _ => none) none (fun _ _ => none) (fun _ _ => none) (fun _ _ => ()) () (fun _ _ _ _ => ()) v

noncomputable def vStr (v : Value) : Option (List UInt8) :=
  Value.rec (motive_1 := fun _ => Option (List UInt8)) (motive_2 := fun _ => Unit) (motive_3 := fun _ => Unit)
    (fun _ => none) (fun _ _ => none) (fun _ _ => none) (fun _ _ _ => none) (fun s => some s.data.toList) (fun _ => none) (fun _ _ _ => none) (fun _ => none) (fun _ => none)
    (fun _ _ _ _ _ => none) none (fun _ _ _ => none) none (fun _ _ => none) (fun _ _ => none) (fun _ _ => ()) () (fun _ _ _ _ => ()) v

noncomputable def vBool (v : Value) : Option Bool :=
  Value.rec (motive_1 := fun _ => Option Bool) (motive_2 := fun _ => Unit) (motive_3 := fun _ => Unit)
    (fun b => some b) (fun _ _ => none) (fun _ _ => none) (fun _ _ _ => none) (fun _ => none) (fun _ => none) (fun _ _ _ => none) (fun _ => none) (fun _ => none)
    (fun _ _ _ _ _ => none) none (fun _ _ _ => none) none (fun _ _ => none) (fun _ _ => none) (fun _ _ => ()) () (fun _ _ _ _ => ()) v

theorem vInt_some {v : Value} {p : IntKind × Int} (h : vInt v = some p) : v = .int p.1 p.2 := by
  cases v <;> first | cases h; rfl | cases h
theorem vPtr_some {v : Value} {a : Addr} (h : vPtr v = some a) : v = .pointer (some a) := by
  cases v <;> first | (cases h; done) | skip
  case pointer b => cases b <;> cases h; rfl
theorem vSlice_some {v : Value} {p : Addr × Nat} (h : vSlice v = some p) : ∃ c, v = .slice (some p.1) p.2 c := by
  cases v <;> first | (cases h; done) | skip
  case slice a n c => cases a <;> cases h; exact ⟨c, rfl⟩
theorem vStr_some {v : Value} {l : List UInt8} (h : vStr v = some l) : ∃ s : ByteArray, v = .string s ∧ s.data.toList = l := by
  cases v <;> first | (cases h; done) | skip
  case string s => cases h; exact ⟨s, rfl, rfl⟩
theorem vBool_some {v : Value} {b : Bool} (h : vBool v = some b) : v = .bool b := by
  cases v <;> first | cases h; rfl | cases h

noncomputable def getO (cs : List Value) : Nat → Option Value :=
  List.rec (motive := fun _ => Nat → Option Value) (fun _ => none) (fun c _ ih n => Nat.rec (motive := fun _ => Option Value) (some c) (fun n _ => ih n) n) cs
theorem getO_eq : ∀ (cs : List Value) (n : Nat), getO cs n = cs[n]?
  | [], n => by simp [getO]
  | c :: l, 0 => rfl
  | c :: l, n + 1 => by show getO l n = _; rw [getO_eq l n]; simp

/-- Either what a test found, or the slow way. -/
noncomputable def orElse {α β : Type} (slow : β) (f : α → β) (x : Option α) : β := Option.rec (motive := fun _ => β) slow f x

section
variable (P : Program) (fl : List TypeId) (h : Tr) (rs : Rs) (o : Oper)

noncomputable def evalF (x : Operand) : Value :=
  Operand.rec (motive := fun _ => Program → Rs → Value) (fun t _ rs => Option.rec (motive := fun _ => Value) undef (fun v => v) (rs.get t)) (fun v P rs => eval P rs (.const v)) (fun g P rs => eval P rs (.global g)) (fun f P rs => eval P rs (.func f)) x P rs

theorem evalF_eq (x : Operand) : evalF P rs x = eval P rs x := by
  cases x with
  | tmp t => show Option.rec (motive := fun _ => Value) undef (fun v => v) (rs.get t) = (rs.get t).getD undef; cases rs.get t <;> rfl
  | _ => rfl

noncomputable def binF (op : BinOp) (t : TypeId) (x y : Operand) : Option OpR :=
  Option.rec (motive := fun _ => Program → List TypeId → Rs → BinOp → TypeId → Operand → Operand → Option OpR)
    (fun P fl rs op t x y => binOpR P fl rs op t x y)
    (fun p P fl rs op t x y => Option.rec (motive := fun _ => IntKind × Int → Program → List TypeId → Rs → BinOp → TypeId → Operand → Operand → Option OpR)
      (fun _ P fl rs op t x y => binOpR P fl rs op t x y)
      (fun q p _ _ _ op _ _ _ => Prod.rec (motive := fun _ => IntKind × Int → BinOp → Option OpR) (fun k a q op => Prod.rec (motive := fun _ => IntKind → Int → BinOp → Option OpR)
        (fun j b k a op => Option.rec (motive := fun _ => Option OpR) none (fun v => some (.val v)) (intF op k a j b)) q k a op) p q op)
      (vInt (evalF P rs y)) p P fl rs op t x y)
    (vInt (evalF P rs x)) P fl rs op t x y

theorem binF_eq (op : BinOp) (t : TypeId) (x y : Operand) : binF P fl rs op t x y = binOpR P fl rs op t x y := by
  unfold binF
  cases hx : vInt (evalF P rs x) with
  | none => rfl
  | some p =>
    dsimp only
    cases hy : vInt (evalF P rs y) with
    | none => rfl
    | some q =>
      have e1 := vInt_some hx
      have e2 := vInt_some hy
      rw [evalF_eq] at e1 e2
      obtain ⟨k, a⟩ := p
      obtain ⟨j, b⟩ := q
      dsimp only
      rw [intF_eq]
      simp only [binOpR, e1, e2, binR]
      cases intR op k a j b <;> rfl

/-- A load of one cell, or of some. -/
noncomputable def loadF (t : TypeId) (a : Operand) : Option OpR :=
  Option.rec (motive := fun _ => Program → Tr → TypeId → Option OpR) (fun _ _ _ => none)
    (fun a P h t => Option.rec (motive := fun _ => Program → Tr → TypeId → Addr → Option OpR) (fun _ _ _ _ => none)
      (fun g P h t a => Bool.rec (motive := fun _ => Program → Tr → TypeId → Addr → Option OpR)
        (fun _ h _ a => Option.rec (motive := fun _ => Addr → Option OpR) (fun _ => none)
          (fun ob a => AObj.rec (motive := fun _ => Addr → Option OpR)
            (fun cs _ _ a => Option.rec (motive := fun _ => Option OpR) none (fun v => some (.val v)) (getO cs a.off)) (fun _ _ _ => none) (fun _ _ _ => none) (fun _ _ _ _ _ => none) ob a) (h.get a.block) a)
        (fun P h t a => (loadT P h t a.block a.off).map .val) g P h t a)
      (aggT P t) P h t a)
    (vPtr (evalF P rs a)) P h t

theorem loadF_eq (t : TypeId) (a : Operand) : loadF P h rs t a = loadR P h rs t a := by
  unfold loadF loadR
  simp only
  cases hv : vPtr (evalF P rs a) with
  | none =>
    show (none : Option OpR) = _
    rw [evalF_eq] at hv
    split
    · rename_i ad he; rw [he] at hv; cases hv
    · rfl
  | some ad =>
    have e := vPtr_some hv
    rw [evalF_eq] at e
    rw [e]
    show Option.rec (motive := fun _ => Program → Tr → TypeId → Addr → Option OpR) _ _ (aggT P t) P h t ad = (loadT P h t ad.block ad.off).map .val
    cases hg : aggT P t with
    | none => simp [loadT, hg]
    | some b =>
      cases b with
      | true => rfl
      | false =>
        simp only [loadT, hg, rowAt]
        cases ho : h.get ad.block with
        | none => rfl
        | some ob =>
          cases ob with
          | row cs e fz =>
            show Option.rec (motive := fun _ => Option OpR) none (fun v => some (.val v)) (getO cs ad.off) = (cs[ad.off]?).map .val
            rw [getO_eq]
            cases cs[ad.off]? <;> rfl
          | _ => rfl

end
end Go.Am
