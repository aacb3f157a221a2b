import Derived.Test.YthnjfgjbgblciaaGreatDoorGD
import Derived.Below
import GoSem.ClaimJoined
import Derived.Carry
import Derived.ChangeSame
import Derived.OpenShut
import Derived.RowKit
import Derived.JoinedCond
import GoSem.ClaimSeven
import GoSem.ClaimWide
/-
  THE ABSTRACT MACHINE, 29: the same machine, written so that the kernel reckons it with little memory: every branch is a closed term.
-/
namespace Go.Am

/-! numbers -/

noncomputable def zOf (z : Int) : Option Nat := Int.rec (motive := fun _ => Option Nat) (fun n => some n) (fun _ => none) z

noncomputable def addZ (a b : Int) : Int :=
  Int.rec (motive := fun _ => Int → Int) (fun m b => Int.rec (motive := fun _ => Nat → Int) (fun n m => Int.ofNat (Nat.add m n)) (fun n m => Int.subNatNat m (Nat.succ n)) b m)
    (fun m b => Int.add (Int.negSucc m) b) a b
theorem addZ_eq (a b : Int) : addZ a b = a + b := by cases a <;> cases b <;> rfl

noncomputable def subZ (a b : Int) : Int :=
  Int.rec (motive := fun _ => Int → Int) (fun m b => Int.rec (motive := fun _ => Nat → Int) (fun n m => bif Nat.ble n m then Int.ofNat (Nat.sub m n) else Int.sub (Int.ofNat m) (Int.ofNat n)) (fun n m => Int.ofNat (Nat.add m (Nat.succ n))) b m)
    (fun m b => Int.sub (Int.negSucc m) b) a b
theorem subZ_eq (a b : Int) : subZ a b = a - b := by
  cases a with
  | ofNat m =>
    cases b with
    | ofNat n =>
      show (bif Nat.ble n m then Int.ofNat (Nat.sub m n) else Int.sub (Int.ofNat m) (Int.ofNat n)) = _
      cases h : Nat.ble n m with
      | false => rfl
      | true =>
        have : n ≤ m := Nat.le_of_ble_eq_true h
        show ((m - n : Nat) : Int) = (m : Int) - n
        omega
    | negSucc n => rfl
  | negSucc m => rfl

noncomputable def mulZ (a b : Int) : Int :=
  Int.rec (motive := fun _ => Int → Int) (fun m b => Int.rec (motive := fun _ => Nat → Int) (fun n m => Int.ofNat (Nat.mul m n)) (fun n m => Int.mul (Int.ofNat m) (Int.negSucc n)) b m)
    (fun m b => Int.mul (Int.negSucc m) b) a b
theorem mulZ_eq (a b : Int) : mulZ a b = a * b := by cases a <;> cases b <;> rfl

noncomputable def ltZ (a b : Int) : Bool :=
  Int.rec (motive := fun _ => Int → Bool) (fun m b => Int.rec (motive := fun _ => Nat → Bool) (fun n m => Nat.blt m n) (fun _ _ => false) b m)
    (fun m b => Int.rec (motive := fun _ => Nat → Bool) (fun _ _ => true) (fun n m => Nat.blt n m) b m) a b
theorem ltZ_eq (a b : Int) : ltZ a b = decide (a < b) := by
  cases a with
  | ofNat m =>
    cases b with
    | ofNat n => show Nat.blt m n = decide ((m : Int) < n); rw [Bool.eq_iff_iff, Nat.blt_eq, decide_eq_true_eq]; omega
    | negSucc n => show false = _; symm; rw [decide_eq_false_iff_not]; show ¬ ((m : Int) < _); omega
  | negSucc m =>
    cases b with
    | ofNat n => show true = _; symm; rw [decide_eq_true_eq]; show _ < (n : Int); omega
    | negSucc n => show Nat.blt n m = _; rw [Bool.eq_iff_iff, Nat.blt_eq, decide_eq_true_eq]; omega

noncomputable def eqZ (a b : Int) : Bool :=
  Int.rec (motive := fun _ => Int → Bool) (fun m b => Int.rec (motive := fun _ => Nat → Bool) (fun n m => Nat.beq m n) (fun _ _ => false) b m)
    (fun m b => Int.rec (motive := fun _ => Nat → Bool) (fun _ _ => false) (fun n m => Nat.beq m n) b m) a b
theorem eqZ_eq (a b : Int) : eqZ a b = (a == b) := by
  cases a with
  | ofNat m =>
    cases b with
    | ofNat n => show Nat.beq m n = _; rw [Bool.eq_iff_iff, Nat.beq_eq, beq_iff_eq]; exact ⟨fun h => by rw [h], fun h => by injection h⟩
    | negSucc n => show false = _; symm; rw [beq_eq_false_iff_ne]; intro h; cases h
  | negSucc m =>
    cases b with
    | ofNat n => show false = _; symm; rw [beq_eq_false_iff_ne]; intro h; cases h
    | negSucc n => show Nat.beq m n = _; rw [Bool.eq_iff_iff, Nat.beq_eq, beq_iff_eq]; exact ⟨fun h => by rw [h], fun h => by injection h⟩

noncomputable def modN (M : Nat) (n : Int) : Nat := Int.rec (motive := fun _ => Nat → Nat) (fun m M => Nat.mod m M) (fun m M => Nat.sub (Nat.sub M 1) (Nat.mod m M)) n M
theorem modN_eq {M : Nat} (hM : 0 < M) (n : Int) : ((modN M n : Nat) : Int) = n % (M : Int) := by
  cases n with
  | ofNat m => rfl
  | negSucc m =>
    show ((M - 1 - m % M : Nat) : Int) = _
    have h1 : m % M < M := Nat.mod_lt _ hM
    have h2 := Int.emod_emod_of_dvd
    rw [show (Int.negSucc m) = (((M - 1 - m % M : Nat) : Int)) + (M : Int) * (-(((m / M : Nat) : Int) + 1)) from ?_]
    · rw [Int.add_mul_emod_self_left, Int.emod_eq_of_lt (by omega) (by omega)]
    · have h3 := Nat.div_add_mod m M
      have h4 : Int.negSucc m = -((m : Int) + 1) := by omega
      have h5 : (m : Int) = (M : Int) * ((m / M : Nat) : Int) + ((m % M : Nat) : Int) := by exact_mod_cast h3.symm
      rw [h4, Int.mul_neg, Int.mul_add, Int.mul_one]
      have h6 : ((M - 1 - m % M : Nat) : Int) = (M : Int) - 1 - ((m % M : Nat) : Int) := by omega
      rw [h6]
      generalize (M : Int) * ((m / M : Nat) : Int) = q at *
      omega

noncomputable def wrapU (M : Nat) (n : Int) : Int := Int.ofNat (modN M n)
noncomputable def signN (M H : Nat) (r : Nat) : Int := bif Nat.blt r H then Int.ofNat r else Int.negSucc (Nat.sub (Nat.sub M 1) r)
noncomputable def wrapS (M H : Nat) (n : Int) : Int := signN M H (modN M n)

noncomputable def wrapF (k : IntKind) (n : Int) : Int :=
  IntKind.rec (motive := fun _ => Int → Int) (wrapS 256 128) (wrapS 65536 32768) (wrapS 4294967296 2147483648) (wrapS 18446744073709551616 9223372036854775808)
    (wrapU 256) (wrapU 65536) (wrapU 4294967296) (wrapU 18446744073709551616) k n

theorem wrapF_eq (k : IntKind) (n : Int) : wrapF k n = k.wrap n := by
  have hs : ∀ (M H : Nat), 0 < M → H ≤ M → signN M H (modN M n) = (if (n % (M : Int)) ≥ (H : Int) then n % (M : Int) - M else n % (M : Int)) := by
    intro M H hM hH
    have h := modN_eq hM n
    have hlt : (modN M n : Int) < M := by rw [h]; exact Int.emod_lt_of_pos _ (by omega)
    rw [← h]
    generalize modN M n = r at *
    unfold signN
    cases hb : Nat.blt r H with
    | true =>
      have : r < H := by simpa [Nat.blt_eq] using hb
      rw [if_neg (by omega)]; rfl
    | false =>
      have : ¬ r < H := by intro hc; rw [show Nat.blt r H = true by simpa [Nat.blt_eq] using hc] at hb; cases hb
      rw [if_pos (by omega)]
      show Int.negSucc (M - 1 - r) = _
      omega
  have hu : ∀ M : Nat, 0 < M → wrapU M n = n % (M : Int) := fun M hM => modN_eq hM n
  cases k
  case i8 => exact (hs 256 128 (by decide) (by decide)).trans (by simp [IntKind.wrap, IntKind.signed, IntKind.bits])
  case i16 => exact (hs 65536 32768 (by decide) (by decide)).trans (by simp [IntKind.wrap, IntKind.signed, IntKind.bits])
  case i32 => exact (hs 4294967296 2147483648 (by decide) (by decide)).trans (by simp [IntKind.wrap, IntKind.signed, IntKind.bits])
  case i64 => exact (hs 18446744073709551616 9223372036854775808 (by decide) (by decide)).trans (by simp [IntKind.wrap, IntKind.signed, IntKind.bits])
  case u8 => exact (hu 256 (by decide)).trans (by simp [IntKind.wrap, IntKind.signed, IntKind.bits])
  case u16 => exact (hu 65536 (by decide)).trans (by simp [IntKind.wrap, IntKind.signed, IntKind.bits])
  case u32 => exact (hu 4294967296 (by decide)).trans (by simp [IntKind.wrap, IntKind.signed, IntKind.bits])
  case u64 => exact (hu 18446744073709551616 (by decide)).trans (by simp [IntKind.wrap, IntKind.signed, IntKind.bits])

end Go.Am
/-
  THE ABSTRACT MACHINE, 30: operators and operations, every branch a closed term.
-/
namespace Go.Am

noncomputable def kindIx (k : IntKind) : Nat := IntKind.rec (motive := fun _ => Nat) 0 1 2 3 4 5 6 7 k
noncomputable def kindEq (k j : IntKind) : Bool := Nat.beq (kindIx k) (kindIx j)
theorem kindEq_iff (k j : IntKind) : kindEq k j = decide (k = j) := by cases k <;> cases j <;> rfl
theorem bif_kind {α : Type} (k j : IntKind) (x y : α) : (bif kindEq k j then x else y) = if k = j then x else y := by
  rw [kindEq_iff]; by_cases h : k = j <;> simp [h]

noncomputable def kindBits (k : IntKind) : Nat := IntKind.rec (motive := fun _ => Nat) 256 65536 4294967296 18446744073709551616 256 65536 4294967296 18446744073709551616 k
theorem kindBits_eq (k : IntKind) : kindBits k = 2 ^ k.bits := by cases k <;> rfl

noncomputable def logF (f : Nat → Nat → Nat) (k : IntKind) (a b : Int) : Int := wrapF k (Int.ofNat (f (modN (kindBits k) a) (modN (kindBits k) b)))

theorem modN_toNat (k : IntKind) (a : Int) : modN (kindBits k) a = (BitVec.ofInt k.bits a).toNat := by
  have hp : 0 < kindBits k := by cases k <;> decide
  have h := modN_eq hp a
  rw [BitVec.toNat_ofInt, ← kindBits_eq k, ← h]
  rfl

noncomputable def kindB (k : IntKind) : Nat := IntKind.rec (motive := fun _ => Nat) 8 16 32 64 8 16 32 64 k
theorem kindB_eq (k : IntKind) : kindB k = k.bits := by cases k <;> rfl
noncomputable def powN (k : IntKind) (n : Nat) : Nat := Nat.pow 2 (bif Nat.ble n (kindB k) then n else kindB k)
theorem powN_eq (k : IntKind) (n : Nat) : ((powN k n : Nat) : Int) = 2 ^ (min n k.bits) := by
  unfold powN
  rw [kindB_eq]
  have : (bif Nat.ble n k.bits then n else k.bits) = min n k.bits := by
    cases h : Nat.ble n k.bits with
    | true => have := Nat.le_of_ble_eq_true h; rw [cond_true]; omega
    | false =>
      have : ¬ n ≤ k.bits := fun hh => by rw [Nat.ble_eq_true_of_le hh] at h; cases h
      rw [cond_false]; omega
  rw [this]
  show ((2 ^ (min n k.bits) : Nat) : Int) = _
  simp

noncomputable def shrF (k : IntKind) (a : Int) (j : IntKind) (b : Int) : Option Value :=
  Int.rec (motive := fun _ => IntKind → IntKind → Int → Option Value)
    (fun m k j b => Int.rec (motive := fun _ => IntKind → IntKind → Nat → Option Value)
      (fun n k _ m => some (.int k (Int.ofNat (Nat.div m (powN k n))))) (fun n k j m => intR .shr k (Int.ofNat m) j (Int.negSucc n)) b k j m)
    (fun m k j b => intR .shr k (Int.negSucc m) j b) a k j b

theorem shrF_eq (k : IntKind) (a : Int) (j : IntKind) (b : Int) : shrF k a j b = intR .shr k a j b := by
  cases a with
  | negSucc m => rfl
  | ofNat m =>
    cases b with
    | negSucc n => rfl
    | ofNat n =>
      show some (Value.int k (Int.ofNat (m / powN k n))) = if (Int.ofNat n) < 0 then none else some (.int k ((Int.ofNat m).fdiv (2 ^ (min (Int.ofNat n).toNat k.bits))))
      rw [if_neg (by simp), show (Int.ofNat n).toNat = n from rfl, ← powN_eq, Int.fdiv_eq_ediv_of_nonneg _ (by omega)]
      rfl

noncomputable def shlF (k : IntKind) (a : Int) (j : IntKind) (b : Int) : Option Value :=
  Int.rec (motive := fun _ => IntKind → IntKind → Int → Option Value)
    (fun m k j b => Int.rec (motive := fun _ => IntKind → IntKind → Nat → Option Value)
      (fun n k _ m => some (.int k (wrapF k (Int.ofNat (Nat.mul m (powN k n)))))) (fun n k j m => intR .shl k (Int.ofNat m) j (Int.negSucc n)) b k j m)
    (fun m k j b => intR .shl k (Int.negSucc m) j b) a k j b

theorem shlF_eq (k : IntKind) (a : Int) (j : IntKind) (b : Int) : shlF k a j b = intR .shl k a j b := by
  cases a with
  | negSucc m => rfl
  | ofNat m =>
    cases b with
    | negSucc n => rfl
    | ofNat n =>
      show some (Value.int k (wrapF k (Int.ofNat (m * powN k n)))) = if (Int.ofNat n) < 0 then none else some (.int k (k.wrap ((Int.ofNat m) * (2 ^ (min (Int.ofNat n).toNat k.bits)))))
      rw [if_neg (by simp), show (Int.ofNat n).toNat = n from rfl, ← powN_eq, wrapF_eq]
      rfl

noncomputable def intF (op : BinOp) (k : IntKind) (a : Int) (j : IntKind) (b : Int) : Option Value :=
  BinOp.rec (motive := fun _ => IntKind → Int → IntKind → Int → Option Value)
    (fun k a j b => bif kindEq k j then some (.int k (wrapF k (addZ a b))) else none)
    (fun k a j b => bif kindEq k j then some (.int k (wrapF k (subZ a b))) else none)
    (fun k a j b => bif kindEq k j then some (.int k (wrapF k (mulZ a b))) else none)
    (fun k a j b => intR .quo k a j b)
    (fun k a j b => intR .rem k a j b)
    (fun k a j b => bif kindEq k j then some (.int k (logF Nat.land k a b)) else none)
    (fun k a j b => bif kindEq k j then some (.int k (logF Nat.lor k a b)) else none)
    (fun k a j b => bif kindEq k j then some (.int k (logF Nat.xor k a b)) else none)
    (fun k a j b => shlF k a j b)
    (fun k a j b => shrF k a j b)
    (fun k a j b => intR .andNot k a j b)
    (fun k a j b => bif kindEq k j then some (.bool (eqZ a b)) else none)
    (fun k a j b => bif kindEq k j then some (.bool (!(eqZ a b))) else none)
    (fun k a j b => bif kindEq k j then some (.bool (ltZ a b)) else none)
    (fun k a j b => bif kindEq k j then some (.bool (!(ltZ b a))) else none)
    (fun k a j b => bif kindEq k j then some (.bool (ltZ b a)) else none)
    (fun k a j b => bif kindEq k j then some (.bool (!(ltZ a b))) else none)
    op k a j b

theorem intF_eq (op : BinOp) (k : IntKind) (a : Int) (j : IntKind) (b : Int) : intF op k a j b = intR op k a j b := by
  cases op <;> first
    | rfl
    | exact shlF_eq k a j b
    | exact shrF_eq k a j b
    | (show (bif kindEq k j then _ else _) = intR _ k a j b
       rw [bif_kind]
       by_cases h : k = j
       · subst h
         simp only [intR, if_true, addZ_eq, subZ_eq, mulZ_eq, wrapF_eq, eqZ_eq, ltZ_eq, logF, modN_toNat]
         all_goals first
           | rfl
           | (congr 2; rw [Bool.eq_iff_iff]; simp [Int.not_lt])
           | (simp [Int.not_lt])
       · simp [intR, h])

/-! values -/

noncomputable def vInt (v : Value) : Option (IntKind × Int) :=
  Value.rec (motive_1 := fun _ => Option (IntKind × Int)) (motive_2 := fun _ => Unit) (motive_3 := fun _ => Unit)
    (fun _ => none) (fun k n => some (k, n)) (fun _ _ => none) (fun _ _ _ => none) (fun _ => none) (fun _ => none) (fun _ _ _ => none) (fun _ => none) (fun _ => none)
    (fun _ _ _ _ _ => none) none (fun _ _ _ => none) none (fun _ _ => none) (fun _ _ => none) (fun _ _ => ()) () (fun _ _ _ _ => ()) v

noncomputable def vPtr (v : Value) : Option Addr :=
  Value.rec (motive_1 := fun _ => Option Addr) (motive_2 := fun _ => Unit) (motive_3 := fun _ => Unit)
    (fun _ => none) (fun _ _ => none) (fun _ _ => none) (fun _ _ _ => none) (fun _ => none) (fun a => a) (fun _ _ _ => none) (fun _ => none) (fun _ => none)
    (fun _ _ _ _ _ => none) none (fun _ _ _ => none) none (fun _ _ => none) (fun _ _ => none) (fun _ _ => ()) () (fun _ _ _ _ => ()) v

noncomputable def vSlice (v : Value) : Option (Addr × Nat) :=
  Value.rec (motive_1 := fun _ => Option (Addr × Nat)) (motive_2 := fun _ => Unit) (motive_3 := fun _ => Unit)
    (fun _ => none) (fun _ _ => none) (fun _ _ => none) (fun _ _ _ => none) (fun _ => none) (fun _ => none)
    (fun a n _ => Option.rec (motive := fun _ => Nat → Option (Addr × Nat)) (fun _ => none) (fun a n => some (a, n)) a n) (fun _ => none) (fun _ => none)
    (fun _ _ _ _ _ => none) none (fun _ _ _ => none) none (fun _ _ => none) (fun _ _ => none) (fun _ _ => ()) () (fun _ _ _ _ => ()) v

noncomputable def vStr (v : Value) : Option (List UInt8) :=
  Value.rec (motive_1 := fun _ => Option (List UInt8)) (motive_2 := fun _ => Unit) (motive_3 := fun _ => Unit)
    (fun _ => none) (fun _ _ => none) (fun _ _ => none) (fun _ _ _ => none) (fun s => some s.data.toList) (fun _ => none) (fun _ _ _ => none) (fun _ => none) (fun _ => none)
    (fun _ _ _ _ _ => none) none (fun _ _ _ => none) none (fun _ _ => none) (fun _ _ => none) (fun _ _ => ()) () (fun _ _ _ _ => ()) v

noncomputable def vBool (v : Value) : Option Bool :=
  Value.rec (motive_1 := fun _ => Option Bool) (motive_2 := fun _ => Unit) (motive_3 := fun _ => Unit)
    (fun b => some b) (fun _ _ => none) (fun _ _ => none) (fun _ _ _ => none) (fun _ => none) (fun _ => none) (fun _ _ _ => none) (fun _ => none) (fun _ => none)
    (fun _ _ _ _ _ => none) none (fun _ _ _ => none) none (fun _ _ => none) (fun _ _ => none) (fun _ _ => ()) () (fun _ _ _ _ => ()) v

theorem vInt_some {v : Value} {p : IntKind × Int} (h : vInt v = some p) : v = .int p.1 p.2 := by
  cases v <;> first | cases h; rfl | cases h
theorem vPtr_some {v : Value} {a : Addr} (h : vPtr v = some a) : v = .pointer (some a) := by
  cases v <;> first | (cases h; done) | skip
  case pointer b => cases b <;> cases h; rfl
theorem vSlice_some {v : Value} {p : Addr × Nat} (h : vSlice v = some p) : ∃ c, v = .slice (some p.1) p.2 c := by
  cases v <;> first | (cases h; done) | skip
  case slice a n c => cases a <;> cases h; exact ⟨c, rfl⟩
theorem vStr_some {v : Value} {l : List UInt8} (h : vStr v = some l) : ∃ s : ByteArray, v = .string s ∧ s.data.toList = l := by
  cases v <;> first | (cases h; done) | skip
  case string s => cases h; exact ⟨s, rfl, rfl⟩
theorem vBool_some {v : Value} {b : Bool} (h : vBool v = some b) : v = .bool b := by
  cases v <;> first | cases h; rfl | cases h

noncomputable def getO (cs : List Value) : Nat → Option Value :=
  List.rec (motive := fun _ => Nat → Option Value) (fun _ => none) (fun c _ ih n => Nat.rec (motive := fun _ => Option Value) (some c) (fun n _ => ih n) n) cs
theorem getO_eq : ∀ (cs : List Value) (n : Nat), getO cs n = cs[n]?
  | [], n => by simp [getO]
  | c :: l, 0 => rfl
  | c :: l, n + 1 => by show getO l n = _; rw [getO_eq l n]; simp

/-- Either what a test found, or the slow way. -/
noncomputable def orElse {α β : Type} (slow : β) (f : α → β) (x : Option α) : β := Option.rec (motive := fun _ => β) slow f x

section
variable (P : Program) (fl : List TypeId) (h : Tr) (rs : Rs) (o : Oper)

noncomputable def evalF (x : Operand) : Value :=
  Operand.rec (motive := fun _ => Program → Rs → Value) (fun t _ rs => Option.rec (motive := fun _ => Value) undef (fun v => v) (rs.get t)) (fun v P rs => eval P rs (.const v)) (fun g P rs => eval P rs (.global g)) (fun f P rs => eval P rs (.func f)) x P rs

theorem evalF_eq (x : Operand) : evalF P rs x = eval P rs x := by
  cases x with
  | tmp t => show Option.rec (motive := fun _ => Value) undef (fun v => v) (rs.get t) = (rs.get t).getD undef; cases rs.get t <;> rfl
  | _ => rfl

noncomputable def binF (op : BinOp) (t : TypeId) (x y : Operand) : Option OpR :=
  Option.rec (motive := fun _ => Program → List TypeId → Rs → BinOp → TypeId → Operand → Operand → Option OpR)
    (fun P fl rs op t x y => binOpR P fl rs op t x y)
    (fun p P fl rs op t x y => Option.rec (motive := fun _ => IntKind × Int → Program → List TypeId → Rs → BinOp → TypeId → Operand → Operand → Option OpR)
      (fun _ P fl rs op t x y => binOpR P fl rs op t x y)
      (fun q p _ _ _ op _ _ _ => Prod.rec (motive := fun _ => IntKind × Int → BinOp → Option OpR) (fun k a q op => Prod.rec (motive := fun _ => IntKind → Int → BinOp → Option OpR)
        (fun j b k a op => Option.rec (motive := fun _ => Option OpR) none (fun v => some (.val v)) (intF op k a j b)) q k a op) p q op)
      (vInt (evalF P rs y)) p P fl rs op t x y)
    (vInt (evalF P rs x)) P fl rs op t x y

theorem binF_eq (op : BinOp) (t : TypeId) (x y : Operand) : binF P fl rs op t x y = binOpR P fl rs op t x y := by
  unfold binF
  cases hx : vInt (evalF P rs x) with
  | none => rfl
  | some p =>
    dsimp only
    cases hy : vInt (evalF P rs y) with
    | none => rfl
    | some q =>
      have e1 := vInt_some hx
      have e2 := vInt_some hy
      rw [evalF_eq] at e1 e2
      obtain ⟨k, a⟩ := p
      obtain ⟨j, b⟩ := q
      dsimp only
      rw [intF_eq]
      simp only [binOpR, e1, e2, binR]
      cases intR op k a j b <;> rfl

/-- A load of one cell, or of some. -/
noncomputable def loadF (t : TypeId) (a : Operand) : Option OpR :=
  Option.rec (motive := fun _ => Program → Tr → TypeId → Option OpR) (fun _ _ _ => none)
    (fun a P h t => Option.rec (motive := fun _ => Program → Tr → TypeId → Addr → Option OpR) (fun _ _ _ _ => none)
      (fun g P h t a => Bool.rec (motive := fun _ => Program → Tr → TypeId → Addr → Option OpR)
        (fun _ h _ a => Option.rec (motive := fun _ => Addr → Option OpR) (fun _ => none)
          (fun ob a => AObj.rec (motive := fun _ => Addr → Option OpR)
            (fun cs _ _ a => Option.rec (motive := fun _ => Option OpR) none (fun v => some (.val v)) (getO cs a.off)) (fun _ _ _ => none) (fun _ _ _ => none) (fun _ _ _ _ _ => none) ob a) (h.get a.block) a)
        (fun P h t a => (loadT P h t a.block a.off).map .val) g P h t a)
      (aggT P t) P h t a)
    (vPtr (evalF P rs a)) P h t

theorem loadF_eq (t : TypeId) (a : Operand) : loadF P h rs t a = loadR P h rs t a := by
  unfold loadF loadR
  simp only
  cases hv : vPtr (evalF P rs a) with
  | none =>
    show (none : Option OpR) = _
    rw [evalF_eq] at hv
    split
    · rename_i ad he; rw [he] at hv; cases hv
    · rfl
  | some ad =>
    have e := vPtr_some hv
    rw [evalF_eq] at e
    rw [e]
    show Option.rec (motive := fun _ => Program → Tr → TypeId → Addr → Option OpR) _ _ (aggT P t) P h t ad = (loadT P h t ad.block ad.off).map .val
    cases hg : aggT P t with
    | none => simp [loadT, hg]
    | some b =>
      cases b with
      | true => rfl
      | false =>
        simp only [loadT, hg, rowAt]
        cases ho : h.get ad.block with
        | none => rfl
        | some ob =>
          cases ob with
          | row cs e fz =>
            show Option.rec (motive := fun _ => Option OpR) none (fun v => some (.val v)) (getO cs ad.off) = (cs[ad.off]?).map .val
            rw [getO_eq]
            cases cs[ad.off]? <;> rfl
          | _ => rfl

end
end Go.Am
/-
  THE ABSTRACT MACHINE, 31: operations, every branch a closed term.
-/
namespace Go.Am

/-! types -/

noncomputable def tInt (d : Option TypeDesc) : Option IntKind := match d with | some (.int k) => some k | _ => none
noncomputable def isIntT (P : Program) (t : TypeId) : Bool := (tInt (under P t)).isSome
noncomputable def intT (P : Program) (t : TypeId) : Option IntKind := tInt (under P t)
noncomputable def fldOff (P : Program) (s : TypeId) (f : Nat) : Option Nat :=
  match under P s with
  | some (.struct fields) => match fields[f]? with
    | some fl => match sizeT P fl.type with
      | some (_ + 1) => some fl.offset
      | _ => none
    | none => none
  | _ => none
noncomputable def elSize (P : Program) (t : TypeId) : Option Nat := match under P t with | some (.slice e) => sizeT P e | _ => none
noncomputable def isStrT (P : Program) (t : TypeId) : Bool := match under P t with | some .string => true | _ => false
noncomputable def size1 (P : Program) (t : TypeId) : Bool := match sizeT P t with | some n => Nat.beq n 1 | none => false
/-- 1: a string's, 2: a slice's length is asked. -/
noncomputable def lenKind (P : Program) (ts : Array TypeId) : Nat := match (ts[0]?).bind (under P) with | some .string => 1 | some (.slice _) => 2 | _ => 0

/-! lists -/

noncomputable def setO (v : Value) (cs : List Value) : Nat → Option (List Value) :=
  List.rec (motive := fun _ => Nat → Option (List Value)) (fun _ => none)
    (fun c l ih n => Nat.rec (motive := fun _ => Option (List Value)) (some (v :: l)) (fun n _ => Option.rec (motive := fun _ => Option (List Value)) none (fun l' => some (c :: l')) (ih n)) n) cs

theorem setO_eq (v : Value) : ∀ (cs : List Value) (n : Nat), setO v cs n = if n + 1 ≤ cs.length then some (splice cs n [v]) else none
  | [], n => by rw [if_neg (by simp)]; rfl
  | c :: l, 0 => by rw [if_pos (by simp)]; rfl
  | c :: l, n + 1 => by
    show Option.rec (motive := fun _ => Option (List Value)) none (fun l' => some (c :: l')) (setO v l n) = _
    rw [setO_eq v l n]
    by_cases h : n + 1 ≤ l.length
    · rw [if_pos h, if_pos (by simpa using h)]; simp [splice]
    · rw [if_neg h, if_neg (by simpa using h)]

noncomputable def getB (cs : List UInt8) : Nat → Option UInt8 :=
  List.rec (motive := fun _ => Nat → Option UInt8) (fun _ => none) (fun c _ ih n => Nat.rec (motive := fun _ => Option UInt8) (some c) (fun n _ => ih n) n) cs
theorem getB_eq : ∀ (cs : List UInt8) (n : Nat), getB cs n = cs[n]?
  | [], n => by simp [getB]
  | c :: l, 0 => rfl
  | c :: l, n + 1 => by show getB l n = _; rw [getB_eq l n]; simp

/-- Surely a single cell. -/
noncomputable def oneF (v : Value) : Bool :=
  Value.rec (motive_1 := fun _ => Bool) (motive_2 := fun _ => Unit) (motive_3 := fun _ => Unit)
    (fun _ => true) (fun _ _ => true) (fun _ _ => true) (fun _ _ _ => true) (fun _ => true) (fun _ => true) (fun _ _ _ => true) (fun _ => true) (fun _ => false)
    (fun _ _ _ _ _ => true) true (fun _ _ _ => true) true (fun _ _ => false) (fun _ _ => false) (fun _ _ => ()) () (fun _ _ _ _ => ()) v
theorem oneF_ok {v : Value} (h : oneF v = true) : isJunk v = false ∧ v.cells = #[v] ∧ oneC v = true := by
  cases v <;> first | (cases h; done) | exact ⟨rfl, rfl, rfl⟩

section
variable (P : Program) (fl : List TypeId) (h : Tr) (rs : Rs) (o : Oper)

noncomputable def convF (src dst : TypeId) (x : Operand) : Option OpR :=
  Option.rec (motive := fun _ => Program → Tr → Rs → TypeId → TypeId → Operand → Option OpR)
    (fun P h rs src dst x => convertR P h rs src dst x)
    (fun p P h rs src dst x => Option.rec (motive := fun _ => IntKind × Int → Program → Tr → Rs → TypeId → TypeId → Operand → Option OpR) (fun _ P h rs src dst x => convertR P h rs src dst x)
      (fun k p P h rs src dst x => Bool.rec (motive := fun _ => IntKind → IntKind × Int → Program → Tr → Rs → TypeId → TypeId → Operand → Option OpR) (fun _ _ P h rs src dst x => convertR P h rs src dst x)
        (fun k p _ _ _ _ _ _ => Prod.rec (motive := fun _ => IntKind → Option OpR) (fun _ n k => some (.val (.int k (wrapF k n)))) p k) (isIntT P src) k p P h rs src dst x) (intT P dst) p P h rs src dst x)
    (vInt (evalF P rs x)) P h rs src dst x

theorem convF_eq (src dst : TypeId) (x : Operand) : convF P h rs src dst x = convertR P h rs src dst x := by
  unfold convF
  cases hx : vInt (evalF P rs x) with
  | none => rfl
  | some p =>
    dsimp only
    cases hk : intT P dst with
    | none => rfl
    | some k =>
      dsimp only
      cases hs : isIntT P src with
      | false => rfl
      | true =>
        dsimp only
        have e1 := vInt_some hx
        rw [evalF_eq] at e1
        unfold isIntT tInt at hs
        unfold intT tInt at hk
        cases hu : under P src with
        | none => rw [hu] at hs; cases hs
        | some d =>
          cases hv : under P dst with
          | none => rw [hv] at hk; cases hk
          | some d' =>
            rw [hu] at hs; rw [hv] at hk
            cases d <;> simp at hs
            cases d' <;> simp at hk
            subst hk
            simp only [convertR, e1, hu, hv, wrapF_eq]

noncomputable def fieldAddrF (s : TypeId) (x : Operand) (f : Nat) : Option OpR :=
  Option.rec (motive := fun _ => Program → TypeId → Nat → Option OpR) (fun _ _ _ => none)
    (fun a P s f => Option.rec (motive := fun _ => Addr → Option OpR) (fun _ => none) (fun off a => Addr.rec (motive := fun _ => Nat → Option OpR) (fun b o _ off => some (.val (.pointer (some ⟨b, Nat.add o off, none⟩)))) a off) (fldOff P s f) a)
    (vPtr (evalF P rs x)) P s f

theorem vPtr_none {v : Value} (h : vPtr v = none) : ∀ a, v ≠ .pointer (some a) := by
  rintro a rfl; cases h

theorem fieldAddrF_eq (s : TypeId) (x : Operand) (f : Nat) : fieldAddrF P rs s x f = fieldAddrR P rs s x f := by
  unfold fieldAddrF
  cases hx : vPtr (evalF P rs x) with
  | none =>
    rw [evalF_eq] at hx
    have hn := vPtr_none hx
    unfold fieldAddrR
    simp only
    split
    · rename_i fields a _ he; exact absurd he (hn a)
    · rfl
  | some a =>
    have e := vPtr_some hx
    rw [evalF_eq] at e
    dsimp only
    unfold fldOff fieldAddrR
    simp only [e]
    cases hu : under P s with
    | none => rfl
    | some d =>
      cases d <;> first | rfl | skip
      rename_i fields
      dsimp only
      cases hf : fields[f]? with
      | none => rfl
      | some fl =>
        dsimp only
        cases hs : sizeT P fl.type with
        | none => rfl
        | some n => cases n <;> rfl

noncomputable def indexAddrF (t : TypeId) (x : Operand) (ix : Operand) : Option OpR :=
  Option.rec (motive := fun _ => Program → Rs → TypeId → Operand → Operand → Option OpR) (fun P rs t x ix => indexAddrR P rs t x ix)
    (fun sl P rs t x ix => Option.rec (motive := fun _ => Addr × Nat → Program → Rs → TypeId → Operand → Operand → Option OpR) (fun _ P rs t x ix => indexAddrR P rs t x ix)
      (fun q sl P rs t x ix => Option.rec (motive := fun _ => Addr × Nat → Program → Rs → TypeId → Operand → Operand → Option OpR) (fun _ P rs t x ix => indexAddrR P rs t x ix)
        (fun i sl P rs t x ix => Option.rec (motive := fun _ => Nat → Addr × Nat → Program → Rs → TypeId → Operand → Operand → Option OpR) (fun _ _ P rs t x ix => indexAddrR P rs t x ix)
          (fun es i sl _ _ _ _ _ => Prod.rec (motive := fun _ => Nat → Nat → Option OpR) (fun a len i es => bif Nat.blt i len then Addr.rec (motive := fun _ => Nat → Nat → Option OpR)
            (fun b o _ i es => some (.val (.pointer (some ⟨b, Nat.add o (Nat.mul i es), none⟩)))) a i es else none) sl i es) (elSize P t) i sl P rs t x ix) (zOf q.2) sl P rs t x ix)
      (vInt (evalF P rs ix)) sl P rs t x ix)
    (vSlice (evalF P rs x)) P rs t x ix

theorem zOf_some {z : Int} {n : Nat} (h : zOf z = some n) : z = n := by
  cases z <;> cases h; rfl

theorem indexAddrF_eq (t : TypeId) (x : Operand) (ix : Operand) : indexAddrF P rs t x ix = indexAddrR P rs t x ix := by
  unfold indexAddrF
  cases hx : vSlice (evalF P rs x) with
  | none => rfl
  | some sl =>
    dsimp only
    cases hi : vInt (evalF P rs ix) with
    | none => rfl
    | some q =>
      dsimp only
      cases hz : zOf q.2 with
      | none => rfl
      | some i =>
        dsimp only
        cases he : elSize P t with
        | none => rfl
        | some es =>
          dsimp only
          obtain ⟨c, e1⟩ := vSlice_some hx
          have e2 := vInt_some hi
          have e3 := zOf_some hz
          rw [evalF_eq] at e1 e2
          obtain ⟨⟨b, o, sp⟩, len⟩ := sl
          unfold elSize at he
          unfold indexAddrR
          simp only [e1, e2, e3]
          cases hu : under P t with
          | none => rw [hu] at he; cases he
          | some d =>
            rw [hu] at he
            cases d <;> first | (cases he; done) | skip
            dsimp only at he ⊢
            rw [he]
            dsimp only
            cases hb : Nat.blt i len with
            | true =>
              have : i < len := by simpa [Nat.blt_eq] using hb
              rw [cond_true, if_pos (by omega)]
              rfl
            | false =>
              have : ¬ i < len := by intro hc; rw [show Nat.blt i len = true by simpa [Nat.blt_eq] using hc] at hb; cases hb
              rw [cond_false, if_neg (by omega)]

noncomputable def indexF (t : TypeId) (x : Operand) (ix : Operand) : Option OpR :=
  Option.rec (motive := fun _ => Program → Rs → TypeId → Operand → Operand → Option OpR) (fun P rs t x ix => indexR P rs t x ix)
    (fun s P rs t x ix => Option.rec (motive := fun _ => List UInt8 → Program → Rs → TypeId → Operand → Operand → Option OpR) (fun _ P rs t x ix => indexR P rs t x ix)
      (fun q s P rs t x ix => Option.rec (motive := fun _ => List UInt8 → Program → Rs → TypeId → Operand → Operand → Option OpR) (fun _ P rs t x ix => indexR P rs t x ix)
        (fun i s P rs t x ix => Bool.rec (motive := fun _ => Nat → List UInt8 → Program → Rs → TypeId → Operand → Operand → Option OpR) (fun _ _ P rs t x ix => indexR P rs t x ix)
          (fun i s _ _ _ _ _ => Option.rec (motive := fun _ => Option OpR) none (fun b => some (.val (.int .u8 (Int.ofNat b.toNat)))) (getB s i)) (isStrT P t) i s P rs t x ix) (zOf q.2) s P rs t x ix)
      (vInt (evalF P rs ix)) s P rs t x ix)
    (vStr (evalF P rs x)) P rs t x ix

theorem indexF_eq (t : TypeId) (x : Operand) (ix : Operand) : indexF P rs t x ix = indexR P rs t x ix := by
  unfold indexF
  cases hx : vStr (evalF P rs x) with
  | none => rfl
  | some l =>
    dsimp only
    cases hi : vInt (evalF P rs ix) with
    | none => rfl
    | some q =>
      dsimp only
      cases hz : zOf q.2 with
      | none => rfl
      | some i =>
        dsimp only
        cases he : isStrT P t with
        | false => rfl
        | true =>
          dsimp only
          obtain ⟨s, e1, e4⟩ := vStr_some hx
          have e2 := vInt_some hi
          have e3 := zOf_some hz
          rw [evalF_eq] at e1 e2
          unfold isStrT at he
          unfold indexR
          simp only [e1, e2, e3]
          cases hu : under P t with
          | none => rw [hu] at he; cases he
          | some d =>
            rw [hu] at he
            cases d <;> first | (cases he; done) | skip
            dsimp only
            rw [if_pos (by omega), getB_eq, ← e4]
            simp only [Int.toNat_natCast]
            cases s.data.toList[i]? <;> rfl

noncomputable def storeF (t : TypeId) (a : Operand) (x : Operand) : Option OpR :=
  Option.rec (motive := fun _ => Program → Tr → Rs → TypeId → Operand → Operand → Option OpR) (fun _ _ _ _ _ _ => none)
    (fun ad P h rs t a x => Bool.rec (motive := fun _ => Value → Addr → Program → Tr → Rs → TypeId → Operand → Operand → Option OpR) (fun _ _ P h rs t a x => storeR P h rs t a x)
      (fun v ad _ h _ _ _ _ => Option.rec (motive := fun _ => Value → Addr → Tr → Option OpR) (fun _ _ _ => none)
        (fun ob v ad h => AObj.rec (motive := fun _ => Value → Addr → Tr → Option OpR)
          (fun cs e fz v ad h => Option.rec (motive := fun _ => TypeId → Nat → Addr → Tr → Option OpR) (fun _ _ _ _ => none)
            (fun cs' e fz ad h => bif Nat.ble (fz / 2) ad.off then some (.step undef (h.set ad.block (some (.row cs' e fz)))) else none) (setO v cs ad.off) e fz ad h)
          (fun _ _ _ _ _ => none) (fun _ _ _ _ _ => none) (fun _ _ _ _ _ _ _ => none) ob v ad h) (h.get ad.block) v ad h)
      (oneF (evalF P rs x) && size1 P t) (evalF P rs x) ad P h rs t a x)
    (vPtr (evalF P rs a)) P h rs t a x

theorem storeF_eq (t : TypeId) (a : Operand) (x : Operand) : storeF P h rs t a x = storeR P h rs t a x := by
  unfold storeF
  cases hx : vPtr (evalF P rs a) with
  | none =>
    rw [evalF_eq] at hx
    have hn := vPtr_none hx
    show (none : Option OpR) = storeR P h rs t a x
    unfold storeR
    dsimp only
    split
    · rename_i ad he; exact absurd he (hn ad)
    · rfl
  | some ad =>
    have e := vPtr_some hx
    rw [evalF_eq] at e
    dsimp only
    cases hb : (oneF (evalF P rs x) && size1 P t) with
    | false => rfl
    | true =>
      dsimp only
      simp only [Bool.and_eq_true] at hb
      obtain ⟨h1, h2⟩ := hb
      obtain ⟨g1, g2, g3⟩ := oneF_ok h1
      have hs : sizeT P t = some 1 := by
        unfold size1 at h2
        cases hs : sizeT P t with
        | none => rw [hs] at h2; cases h2
        | some n => rw [hs] at h2; rw [Nat.eq_of_beq_eq_true h2]
      rw [evalF_eq] at *
      unfold storeR
      simp only [e]
      rw [if_pos ⟨g1, by rw [g2, hs]; rfl⟩, g2]
      unfold storeAt rowAt
      cases hg : h.get ad.block with
      | none => rfl
      | some ob =>
        cases ob with
        | row cs el fz =>
          dsimp only
          rw [setO_eq]
          simp only [allL, g3, Bool.and_true, and_true, List.length_singleton]
          by_cases hl : ad.off + 1 ≤ cs.length
          · rw [if_pos hl]
            dsimp only
            by_cases hf : fz / 2 ≤ ad.off
            · rw [if_pos ⟨hl, hf⟩, show Nat.ble (fz / 2) ad.off = true from Nat.ble_eq_true_of_le hf]; rfl
            · rw [if_neg (fun hh => hf hh.2)]
              have : Nat.ble (fz / 2) ad.off = false := by
                cases hh : Nat.ble (fz / 2) ad.off with
                | false => rfl
                | true => exact absurd (Nat.le_of_ble_eq_true hh) hf
              rw [this]; rfl
          · rw [if_neg hl, if_neg (fun hh => hl hh.1)]; rfl
        | _ => rfl

end
end Go.Am
/-
  THE ABSTRACT MACHINE, 32: the machine, every branch a closed term; it is the same machine.
-/
namespace Go.Am

noncomputable def isLen (b : Builtin) : Bool := match b with | .len => true | _ => false
noncomputable def enterOk (P : Program) (f : FuncId) : Bool :=
  match P.funcs[f]? with
  | none => false
  | some fn => fn.body.isSome && !decide (fn.name = "runtime.NumGoroutine")

noncomputable def callF (P : Program) (f : FuncId) (args : List Value) : Option OpR :=
  Bool.rec (motive := fun _ => Program → FuncId → List Value → Option OpR) (fun P f args => callR P f args) (fun _ f args => some (.enter f args)) (enterOk P f) P f args

theorem callF_eq (P : Program) (f : FuncId) (args : List Value) : callF P f args = callR P f args := by
  unfold callF
  cases he : enterOk P f with
  | false => rfl
  | true =>
    dsimp only
    unfold enterOk at he
    unfold callR
    cases hf : P.funcs[f]? with
    | none => rw [hf] at he; cases he
    | some fn =>
      rw [hf] at he
      dsimp only at he ⊢
      simp only [Bool.and_eq_true, Bool.not_eq_true', decide_eq_false_iff_not] at he
      rw [if_neg (by intro hn; rw [Option.isNone_iff_eq_none] at hn; rw [hn] at he; cases he.1), if_neg he.2]

noncomputable def lenF (P : Program) (ts : Array TypeId) (v : Value) (slow : Option OpR) : Option OpR :=
  Nat.rec (motive := fun _ => Value → Option OpR → Option OpR) (fun _ slow => slow)
    (fun n _ v slow => Nat.rec (motive := fun _ => Value → Option OpR → Option OpR)
      (fun v slow => Option.rec (motive := fun _ => Option OpR) slow (fun l => some (.val (.int .i64 (Int.ofNat l.length)))) (vStr v))
      (fun _ _ v slow => Option.rec (motive := fun _ => Option OpR) slow (fun p => some (.val (.int .i64 (Int.ofNat p.2)))) (vSlice v)) n v slow)
    (lenKind P ts) v slow

noncomputable def headO (l : List Value) : Value := List.rec (motive := fun _ => Value) (.bool false) (fun v _ _ => v) l

section
variable (P : Program) (fl : List TypeId) (h : Tr) (rs : Rs)

noncomputable def callOpF (ty : TypeId) (c : Call) : Option OpR :=
  Callee.rec (motive := fun _ => Program → Tr → Rs → TypeId → Call → Option OpR)
    (fun f P h rs ty c => Operand.rec (motive := fun _ => Program → Tr → Rs → TypeId → Call → Option OpR)
      (fun _ P h rs ty c => callOpR P h rs ty c) (fun _ P h rs ty c => callOpR P h rs ty c) (fun _ P h rs ty c => callOpR P h rs ty c)
      (fun g P _ rs _ c => callF P g (c.args.toList.map (evalF P rs))) f P h rs ty c)
    (fun _ _ P h rs ty c => callOpR P h rs ty c)
    (fun b P h rs ty c => Bool.rec (motive := fun _ => Program → Tr → Rs → TypeId → Call → Option OpR) (fun P h rs ty c => callOpR P h rs ty c)
      (fun P h rs ty c => lenF P c.argTypes (headO (c.args.toList.map (evalF P rs))) (callOpR P h rs ty c)) (isLen b) P h rs ty c)
    c.callee P h rs ty c

theorem evalF_fun : evalF P rs = eval P rs := funext (evalF_eq P rs)

theorem lenF_eq {ts : Array TypeId} {ty : TypeId} {args : List Value} (hd : args.length ≠ 0) : lenF P ts (headO args) (builtinR P h .len ts ty args) = builtinR P h .len ts ty args := by
  cases args with
  | nil => exact absurd rfl hd
  | cons v l =>
    have hh : headO (v :: l) = v := rfl
    rw [hh]
    unfold lenF
    generalize hk : lenKind P ts = k
    match k with
    | 0 => rfl
    | 1 =>
      show Option.rec (motive := fun _ => Option OpR) _ (fun l => some (.val (.int .i64 (Int.ofNat l.length)))) (vStr v) = _
      cases hs : vStr v with
      | none => rfl
      | some b =>
        obtain ⟨s, rfl, e⟩ := vStr_some hs
        dsimp only
        unfold lenKind at hk
        simp only [builtinR, List.getElem?_cons_zero]
        split at hk <;> try (cases hk; done)
        rename_i hu
        rw [hu]
        dsimp only
        rw [← e]
        have : s.size = s.data.toList.length := (Array.length_toList (xs := s.data)).symm
        rw [this]; rfl
    | n + 2 =>
      show Option.rec (motive := fun _ => Option OpR) _ (fun p => some (.val (.int .i64 (Int.ofNat p.2)))) (vSlice v) = _
      cases hs : vSlice v with
      | none => rfl
      | some p =>
        obtain ⟨c, rfl⟩ := vSlice_some hs
        dsimp only
        unfold lenKind at hk
        simp only [builtinR, List.getElem?_cons_zero]
        split at hk <;> try (cases hk; done)
        rename_i e hu
        rw [hu]
        rfl

theorem callOpF_eq (ty : TypeId) (c : Call) : callOpF P h rs ty c = callOpR P h rs ty c := by
  obtain ⟨callee, args, ts⟩ := c
  unfold callOpF
  cases callee with
  | value f =>
    cases f with
    | func g =>
      dsimp only
      rw [callF_eq, evalF_fun]
      simp [callOpR, eval]
    | _ => rfl
  | invoke r name => rfl
  | builtin b =>
    dsimp only
    cases hb : isLen b with
    | false => rfl
    | true =>
      have : b = .len := by cases b <;> first | rfl | cases hb
      subst this
      dsimp only
      have hc : callOpR P h rs ty { callee := .builtin .len, args, argTypes := ts } = builtinR P h .len ts ty (args.toList.map (eval P rs)) := rfl
      rw [hc, evalF_fun]
      by_cases hl : (args.toList.map (eval P rs)).length = 0
      · have hn := List.eq_nil_of_length_eq_zero hl
        rw [hn]
        have h0 : builtinR P h .len ts ty [] = none := by
          simp only [builtinR, List.getElem?_nil]
          cases (ts[0]?).bind (under P) with
          | none => rfl
          | some d => cases d <;> rfl
        rw [h0]
        unfold lenF
        generalize lenKind P ts = k
        match k with
        | 0 => rfl
        | 1 => rfl
        | n + 2 => rfl
      · exact lenF_eq P h hl

noncomputable def opF (o : Oper) : Option OpR :=
  Op.rec (motive := fun _ => Program → List TypeId → Tr → Rs → Oper → Option OpR)
    (fun x P _ _ rs _ => some (.val (evalF P rs x)))
    (fun x P _ _ rs _ => some (.val (evalF P rs x)))
    (fun c a b P _ _ rs _ => pickR P rs c a b)
    (fun e P _ _ _ _ => allocR P e)
    (fun e x P _ _ rs _ => boxR P rs e x)
    (fun t ps P _ _ rs _ => buildR P rs t ps)
    (fun t n ps P _ _ rs _ => buildSliceR P rs t n ps)
    (fun t m k x P _ h rs _ => mapUpdateR P h rs t m k x)
    (fun t a P _ h rs _ => loadF P h rs t a)
    (fun t a x P _ h rs _ => storeF P h rs t a x)
    (fun _ _ _ _ _ _ => none)
    (fun _ _ _ _ _ _ => none)
    (fun x P _ _ rs _ => nilCheckR P rs x)
    (fun op t x y _ P fl _ rs _ => binF P fl rs op t x y)
    (fun op _ x P _ _ rs _ => unOpR P rs op x)
    (fun src dst x P _ h rs _ => convF P h rs src dst x)
    (fun _ _ _ _ _ _ _ => none)
    (fun t x P _ _ rs _ => makeInterfaceR P rs t x)
    (fun fn first cap P fl h rs o => opR P fl h rs { o with op := .makeFunc fn first cap })
    (fun t r P fl h rs o => opR P fl h rs { o with op := .makeMap t r })
    (fun _ _ _ _ _ _ _ => none)
    (fun t l c P _ _ rs _ => makeSliceR P rs t l c)
    (fun t x lo hi mx P _ h rs _ => sliceR P h rs t x lo hi mx)
    (fun s x f P _ _ rs _ => fieldAddrF P rs s x f)
    (fun t x f P _ _ rs _ => fieldR P rs t x f)
    (fun t x ix P _ _ rs _ => indexAddrF P rs t x ix)
    (fun t x ix P _ _ rs _ => indexF P rs t x ix)
    (fun t m k ok P _ h rs _ => lookupR P h rs t m k ok)
    (fun t m k x P _ h rs _ => mapUpdateR P h rs t m k x)
    (fun _ _ _ _ _ _ _ _ => none)
    (fun _ _ _ _ _ _ _ _ _ => none)
    (fun t x P _ h rs _ => rangeR P h rs t x)
    (fun it s P _ h rs _ => nextR P h rs it s)
    (fun it P _ h rs _ => entryR P h rs it)
    (fun x _ t ok P _ _ rs _ => typeAssertR P rs x t ok)
    (fun x i P _ _ rs _ => extractR P rs x i)
    (fun c P _ h rs o => callOpF P h rs o.type c)
    (fun _ _ _ _ _ _ => none)
    (fun _ _ _ _ _ _ => none)
    (fun _ _ _ _ _ _ => none)
    (fun _ _ _ _ _ _ _ => none)
    (fun _ _ _ _ _ _ _ _ => none)
    (fun _ _ _ _ _ _ _ => none)
    o.op P fl h rs o

theorem opF_eq (o : Oper) : opF P fl h rs o = opR P fl h rs o := by
  obtain ⟨dst, op, ty, pos, after, guard⟩ := o
  cases op <;> first
    | rfl
    | (show some (OpR.val (evalF P rs _)) = _; rw [evalF_eq]; rfl)
    | exact loadF_eq P h rs _ _
    | exact storeF_eq P h rs _ _ _
    | exact binF_eq P fl rs _ _ _ _
    | exact convF_eq P h rs _ _ _
    | exact fieldAddrF_eq P rs _ _ _
    | exact indexAddrF_eq P rs _ _ _
    | exact indexF_eq P rs _ _ _
    | exact callOpF_eq P h rs _ _
end

/-! the machine -/

noncomputable def putF (n : Nat) (rs : Rs) (dst : Option Tmp) (v : Value) : Rs :=
  Option.rec (motive := fun _ => Nat → Rs → Value → Rs) (fun _ rs _ => rs) (fun d n rs v => bif Nat.blt d n then rs.set d (some v) else rs) dst n rs v
theorem putF_eq (n : Nat) (rs : Rs) (dst : Option Tmp) (v : Value) : putF n rs dst v = put n rs dst v := by cases dst <;> rfl

noncomputable def fOper (P : Program) (C : Cfg) (call : CallFn) (m : Mem) (rs : Rs) (o : Oper) : Option (Value × Mem) :=
  Option.rec (motive := fun _ => CallFn → Mem → Option (Value × Mem)) (fun _ _ => none)
    (fun r call m => OpR.rec (motive := fun _ => CallFn → Mem → Option (Value × Mem))
      (fun v _ m => some (v, m))
      (fun x v _ m => Mem.rec (motive := fun _ => AObj → Value → Option (Value × Mem)) (fun t n x v => some (numbered n v, ⟨t.set n (some x), Nat.succ n⟩)) m x v)
      (fun v t _ m => Mem.rec (motive := fun _ => Value → Tr → Option (Value × Mem)) (fun _ n v t => some (v, ⟨t, n⟩)) m v t)
      (fun v t x _ m => Mem.rec (motive := fun _ => Value → Tr → AObj → Option (Value × Mem)) (fun _ n v t x => some (numbered n v, ⟨t.set n (some x), Nat.succ n⟩)) m v t x)
      (fun f args call m => call f args m) r call m)
    (opF P C.flats m.t rs o) call m

theorem fOper_eq (P : Program) (C : Cfg) (call : CallFn) (m : Mem) (rs : Rs) (o : Oper) : fOper P C call m rs o = aOper P C call m rs o := by
  unfold fOper aOper
  rw [opF_eq]
  cases opR P C.flats m.t rs o with
  | none => rfl
  | some r => cases r <;> rfl

noncomputable def fRun (P : Program) (C : Cfg) (call : CallFn) (o : Oper) (go : St → Option St) (n : Nat) (rs : Rs) (m : Mem) : Option St :=
  Option.rec (motive := fun _ => Oper → (St → Option St) → Nat → Rs → Option St) (fun _ _ _ _ => none)
    (fun p o go n rs => Prod.rec (motive := fun _ => Oper → (St → Option St) → Nat → Rs → Option St) (fun v m o go n rs => go ⟨n, putF n rs o.dst v, m⟩) p o go n rs)
    (fOper P C call m rs o) o go n rs

noncomputable def fOps (P : Program) (C : Cfg) (call : CallFn) (ops : Array Oper) (l : List Oper) : St → Option St :=
  List.rec (motive := fun _ => Program → Cfg → CallFn → Array Oper → St → Option St) (fun _ _ _ _ s => some s)
    (fun o _ go P C call ops s => St.rec (motive := fun _ => Oper → (St → Option St) → Program → Cfg → CallFn → Array Oper → Option St)
      (fun n rs m o go P C call ops => Option.rec (motive := fun _ => Oper → (St → Option St) → Program → Cfg → CallFn → Array Oper → Nat → Rs → Mem → Option St)
        (fun o go P C call _ n rs m => fRun P C call o go n rs m)
        (fun _ o go P C call ops n rs m => aOps1 P C call ops o go ⟨n, rs, m⟩) o.guard o go P C call ops n rs m) s o (go P C call ops) P C call ops) l P C call ops

theorem fOps_eq (P : Program) (C : Cfg) (call : CallFn) (ops : Array Oper) : ∀ (l : List Oper) (s : St), fOps P C call ops l s = aOps P C call ops l s
  | [], s => rfl
  | o :: l, s => by
    have ih : fOps P C call ops l = aOps P C call ops l := funext (fOps_eq P C call ops l)
    rw [aOps_cons, ← ih]
    obtain ⟨n, rs, m⟩ := s
    show Option.rec (motive := fun _ => Oper → (St → Option St) → Program → Cfg → CallFn → Array Oper → Nat → Rs → Mem → Option St) _ _ o.guard o (fOps P C call ops l) P C call ops n rs m = _
    cases hg : o.guard with
    | some g => rfl
    | none =>
      dsimp only
      have hw : wantA ops rs o = some true := by unfold wantA; rw [hg]
      unfold aOps1 fRun
      dsimp only
      rw [hw, fOper_eq]
      dsimp only
      cases aOper P C call m rs o with
      | none => rfl
      | some p =>
        obtain ⟨v, m'⟩ := p
        dsimp only
        rw [putF_eq]

noncomputable def fDrawn (P : Program) (C : Cfg) (call : CallFn) (f : FuncId) (id : Nat) (ops : Array Oper) (s : St) : Option St :=
  match C.plan f id with
  | some (ord, []) => fOps P C call ops (planOps ops ord) s
  | some (ord, ps) =>
    match aTrace P C call ops (planOps ops ord) [] s with
    | some (tr, s') => if allL (pairOk P C (planOps ops ord) tr.reverse s'.m.t) ps then some s' else none
    | none => none
  | none => none

theorem fDrawn_eq (P : Program) (C : Cfg) (call : CallFn) (f : FuncId) (id : Nat) (ops : Array Oper) (s : St) : fDrawn P C call f id ops s = aDrawn P C call f id ops s := by
  unfold fDrawn aDrawn
  cases C.plan f id with
  | none => rfl
  | some p =>
    obtain ⟨ord, ps⟩ := p
    cases ps with
    | nil => exact fOps_eq P C call ops _ s
    | cons x l => rfl

noncomputable def thenF (b : Run) (r : Option (AExit × St)) : Option (AExit × St) :=
  Option.rec (motive := fun _ => Run → Option (AExit × St)) (fun _ => none)
    (fun p b => Prod.rec (motive := fun _ => Run → Option (AExit × St)) (fun e s b => AExit.rec (motive := fun _ => Run → St → Option (AExit × St)) (fun b s => b s) (fun i _ s => some (.exit i, s)) (fun _ s => some (.ret, s)) e b s) p b) r b
theorem thenF_eq (b : Run) (r : Option (AExit × St)) : thenF b r = thenR b r := by
  cases r with
  | none => rfl
  | some p => obtain ⟨e, s⟩ := p; cases e <;> rfl

noncomputable def condF (P : Program) (c : Operand) (a b : Run) (s : St) : Option (AExit × St) :=
  Option.rec (motive := fun _ => Run → Run → St → Option (AExit × St)) (fun _ _ _ => none)
    (fun t a b s => Bool.rec (motive := fun _ => Run → Run → St → Option (AExit × St)) (fun _ b s => b s) (fun a _ s => a s) t a b s) (vBool (evalF P s.rs c)) a b s
theorem condF_eq (P : Program) (c : Operand) (a b : Run) (s : St) : condF P c a b s = condR P c a b s := by
  unfold condF condR
  rw [evalF_eq]
  generalize eval P s.rs c = v
  cases v <;> first | rfl | skip
  rename_i t; cases t <;> rfl

noncomputable def fRegion (P : Program) (C : Cfg) (call : CallFn) (f : FuncId) (id : Nat) (ops : Array Oper) (draw : Bool) (s : St) : Option (AExit × St) :=
  Option.rec (motive := fun _ => Option (AExit × St)) none (fun s => some (.normal, s))
    (Bool.rec (motive := fun _ => Program → Cfg → CallFn → FuncId → Nat → Array Oper → St → Option St) (fun P C call _ _ ops s => fOps P C call ops ops.toList s) (fun P C call f id ops s => fDrawn P C call f id ops s) draw P C call f id ops s)
theorem fRegion_eq (P : Program) (C : Cfg) (call : CallFn) (f : FuncId) (id : Nat) (ops : Array Oper) (draw : Bool) (s : St) : fRegion P C call f id ops draw s = aRegion P C call f id ops draw s := by
  unfold fRegion aRegion
  cases draw with
  | false =>
    dsimp only [cond_false]
    rw [fOps_eq]
    cases aOps P C call ops ops.toList s <;> rfl
  | true =>
    dsimp only [cond_true]
    rw [fDrawn_eq]
    cases aDrawn P C call f id ops s <;> rfl

noncomputable def fCode (P : Program) (C : Cfg) (call : CallFn) (loops : Run → Run) (f : FuncId) (c : Code) : Run :=
  Code.rec (motive := fun _ => Program → Cfg → CallFn → (Run → Run) → FuncId → Run)
    (fun _ _ _ _ _ s => some (.normal, s))
    (fun id ops draw P C call _ f s => fRegion P C call f id ops draw s)
    (fun _ _ a b P C call loops f s => thenF (b P C call loops f) (a P C call loops f s))
    (fun c _ _ a b P C call loops f s => condF P c (a P C call loops f) (b P C call loops f) s)
    (fun id _ a P C call loops f s => blockR id (a P C call loops f s))
    (fun _ a P C call loops f s => loops (a P C call loops f) s)
    (fun _ _ _ _ _ _ _ _ _ _ _ _ => none)
    (fun id _ _ _ _ _ s => some (.exit id, s))
    (fun _ _ _ _ _ _ _ _ => none)
    (fun _ _ _ _ _ _ _ => none)
    (fun _ _ _ _ _ _ _ => none)
    (fun _ _ _ _ _ s => some (.ret, s))
    (fun _ _ _ _ _ _ _ => none) c P C call loops f

theorem fCode_eq (P : Program) (C : Cfg) (call : CallFn) (loops : Run → Run) (f : FuncId) : ∀ c : Code, fCode P C call loops f c = aCode P C call loops f c
  | .skip => rfl
  | .region id ops draw => funext fun s => fRegion_eq P C call f id ops draw s
  | .seq a b => funext fun s => by
    show thenF (fCode P C call loops f b) (fCode P C call loops f a s) = thenR (aCode P C call loops f b) (aCode P C call loops f a s)
    rw [thenF_eq, fCode_eq P C call loops f a, fCode_eq P C call loops f b]
  | .cond c a b => funext fun s => by
    show condF P c (fCode P C call loops f a) (fCode P C call loops f b) s = condR P c (aCode P C call loops f a) (aCode P C call loops f b) s
    rw [condF_eq, fCode_eq P C call loops f a, fCode_eq P C call loops f b]
  | .block id a => funext fun s => by
    show blockR id (fCode P C call loops f a s) = blockR id (aCode P C call loops f a s)
    rw [fCode_eq P C call loops f a]
  | .loop a => funext fun s => by
    show loops (fCode P C call loops f a) s = loops (aCode P C call loops f a) s
    rw [fCode_eq P C call loops f a]
  | .ret => rfl
  | .exit _ => rfl
  | .rangeFunc _ _ _ _ => rfl
  | .scope _ => rfl
  | .goto _ => rfl
  | .label _ => rfl
  | .refuse _ => rfl

noncomputable def fLoop (body : Run) (k : Nat) : Run :=
  Nat.rec (motive := fun _ => Run → Run) (fun _ _ => none) (fun _ ih body s => thenF (ih body) (body s)) k body
theorem fLoop_eq (body : Run) : ∀ k, fLoop body k = aLoop body k
  | 0 => rfl
  | k + 1 => funext fun s => by
    show thenF (fLoop body k) (body s) = thenR (aLoop body k) (body s)
    rw [thenF_eq, fLoop_eq body k]

noncomputable def fBody (P : Program) (C : Cfg) (ih : CallFn) (k : Nat) (f : FuncId) (args : List Value) (m : Mem) : Option (Value × Mem) :=
  match P.funcs[f]? with
  | none => none
  | some fn =>
    match fn.body with
    | none => none
    | some c => callEnd P fn (fCode P C ih (fun body s => fLoop body k s) f c { n := max fn.ntmps args.length, rs := startF 0 args .nil, m })

theorem fBody_eq (P : Program) (C : Cfg) (ih : CallFn) (k : Nat) (f : FuncId) (args : List Value) (m : Mem) : fBody P C ih k f args m = aBody P C ih k f args m := by
  unfold fBody aBody
  have hl : (fun (body : Run) (s : St) => fLoop body k s) = fun body s => aLoop body k s := funext fun body => funext fun s => by rw [fLoop_eq]
  simp only [fCode_eq, hl]
  rfl

noncomputable def fCall (P : Program) (C : Cfg) (k : Nat) : CallFn :=
  Nat.rec (motive := fun _ => CallFn) (fun _ _ _ => none)
    (fun k ih f args m => Option.rec (motive := fun _ => Option (Value × Mem)) (fBody P C ih k f args m) (fun r => some r) (C.prim f args m)) k

theorem fCall_eq (P : Program) (C : Cfg) : ∀ k, fCall P C k = aCall P C k
  | 0 => rfl
  | k + 1 => funext fun f => funext fun args => funext fun m => by
    show Option.rec (motive := fun _ => Option (Value × Mem)) (fBody P C (fCall P C k) k f args m) (fun r => some r) (C.prim f args m) = (match C.prim f args m with | some r => some r | none => aBody P C (aCall P C k) k f args m)
    rw [fBody_eq, fCall_eq P C k]
    cases C.prim f args m <;> rfl

end Go.Am
/-
  THE ABSTRACT MACHINE, 33: from a run that answers true to the call; the start.
-/
namespace Go.Am
open Go.RowKit

/-- It answers true. -/
noncomputable def isTrueR (r : Option (Value × Mem)) : Bool :=
  Option.rec (motive := fun _ => Bool) false (fun p => Prod.rec (motive := fun _ => Bool) (fun v _ => Option.rec (motive := fun _ => Bool) false (fun b => b) (vBool v)) p) r

theorem isTrueR_ok {r : Option (Value × Mem)} (h : isTrueR r = true) : ∃ m, r = some (.bool true, m) := by
  cases r with
  | none => cases h
  | some p =>
    obtain ⟨v, m⟩ := p
    replace h : Option.rec (motive := fun _ => Bool) false (fun b => b) (vBool v) = true := h
    cases hv : vBool v with
    | none => rw [hv] at h; cases h
    | some b =>
      rw [hv] at h
      replace h : b = true := h
      subst h
      exact ⟨m, by rw [vBool_some hv]⟩

/-- What is known at the start: a number an entry. -/
noncomputable def renOf (l : List Ent) : Ren := fun i => l[i]?

/-- Every known object is never written. -/
def AllRo (t : Tr) : Prop := ∀ i o, t.get i = some o → ro o = true

theorem true_calls {P : Program} {C : Cfg} (hP : PGood P) (hfl : ∀ t, C.flats.contains t = true → FlatOk P t) (hprim : PrimOk P C) (hplans : AllPlans P C) {k : Nat} {f : FuncId} {args args' : List Value} {r : Ren} {m : Mem} {W : World}
    (hE : isTrueR (fCall P C k f args m) = true) (hH : HRel P r m W) (hro : AllRo m.t) (hargs : VRelL r args args') :
    Calls P f ⟨args'⟩ W fun e W' => e = .returned (.bool true) ∧ Below W.heap.size W W' := by
  obtain ⟨m', hm'⟩ := isTrueR_ok hE
  rw [fCall_eq] at hm'
  refine (call_sound hP hfl hprim hplans k f args m _ m' hm' r W args' hH hargs).mono fun e W' he => ?_
  cases e with
  | returned v' =>
    obtain ⟨r', h1, h2, h3⟩ := he
    cases h3
    refine ⟨rfl, h2.os, h2.tape, h2.output, h2.size, fun b hb => h2.frame b hb ?_⟩
    rintro ⟨id, e, o, _, h5, h6, _⟩
    rw [hro id o h5] at h6
    cases h6
  | panicked c => exact he.elim
  | outgrown => exact he.elim

/-- Where a known object lies. -/
structure StartOk (P : Program) (W : World) (l : List Ent) (t : Tr) : Prop where
  lt : ∀ e ∈ l, e.b < W.heap.size
  glob : ∀ g, g < P.globals.size → ∃ e, l[g]? = some e ∧ e.b = g ∧ e.d = 0
  objs : ∀ i o, t.get i = some o → i < P.globals.size ∧ ∃ e, l[i]? = some e ∧ e.b = i ∧ ORel P (renOf l) e W.heap[i]? o

theorem StartOk.rel {P : Program} {W : World} {l : List Ent} {t : Tr} (h : StartOk P W l t) (hl : P.globals.size ≤ l.length) : HRel P (renOf l) ⟨t, l.length⟩ W := by
  refine ⟨?_, ?_, ?_, ?_, ?_, h.glob⟩
  · intro id e o hr ho
    obtain ⟨_, e', h1, h2, h3⟩ := h.objs id o ho
    have : e' = e := Option.some.inj (h1.symm.trans hr)
    subst this
    rw [h2]; exact h3
  · intro i j e e' o o' hij hi hj ho ho'
    obtain ⟨_, e1, h1, h2, _⟩ := h.objs i o ho
    obtain ⟨_, e2, k1, k2, _⟩ := h.objs j o' ho'
    have a1 : e1 = e := Option.some.inj (h1.symm.trans hi)
    have a2 : e2 = e' := Option.some.inj (k1.symm.trans hj)
    subst a1 a2
    omega
  · intro id e hr
    exact h.lt e (List.mem_of_getElem? hr)
  · intro id hid
    exact List.getElem?_eq_none hid
  · intro id hid
    cases ho : t.get id with
    | none => rfl
    | some o =>
      have := (h.objs id o ho).1
      simp only at hid
      omega

/-- A row of the start that is never written. -/
theorem row_start {P : Program} {r : Ren} {e : Ent} {ob : Option Obj} {cs : List Value} {c : Array Value} {t : TypeId} {fz : Nat} (hob : ob = some (.cells c t)) (hc : c.toList = cs) (hcs : VRelL r cs cs) (_hfz : cs.length < fz / 2)
    (hd : e.d = 0) (hs : e.size = cs.length) (h1 : sizeT P t = some e.es) (h2 : bytesT P t = some e.bs) (hodd : fz % 2 = 1) : ORel P r e ob (.row cs t fz) := by
  have hl : c.size = cs.length := by rw [← hc]; simp
  refine ⟨c, 0, 0, hob, by omega, by omega, ?_, ⟨fun x h3 h4 => by omega, fun h => by omega⟩, h1, h2, by rw [hd]; simp⟩
  rw [hd, List.drop_zero, hc, List.take_length]
  exact hcs

end Go.Am
/-
  THE ABSTRACT MACHINE, 34: the cells of a variable whose content is listed.
-/
namespace Go.Am

mutual
/-- The cells of a plain datum. -/
def flatD : DataW Unit → Option (List Value)
  | .lit (.int k n) => some [.int k n]
  | .lit (.bool b) => some [.bool b]
  | .lit (.string l) => some [.string ⟨⟨l⟩⟩]
  | .agg ds => flatDs ds
  | _ => none
def flatDs : List (DataW Unit) → Option (List Value)
  | [] => some []
  | d :: r =>
    match flatD d, flatDs r with
    | some a, some b => some (a ++ b)
    | _, _ => none
end

def fieldsB (P : Program) (rec_ : TypeId → Bool) (total : Nat) : Nat → List Field → Bool
  | acc, [] => Nat.beq acc total
  | acc, f :: fs => Nat.beq f.offset acc && rec_ f.type && fieldsB P rec_ total (acc + P.cellsOf f.type) fs

/-- Plain cells side by side. -/
def tightB (P : Program) : Nat → TypeId → Bool
  | 0, _ => false
  | n + 1, t =>
    match P.underlying t with
    | some .bool | some (.int _) | some .string => true
    | some (.struct fs) => fieldsB P (tightB P n) (P.cellsOf t) 0 fs.toList
    | some (.array k e) => Nat.beq (P.cellsOf t) (k * P.cellsOf e) && tightB P n e
    | _ => false

section
variable {P : Program} {w : World}

theorem flatDs_cons {d : DataW Unit} {r : List (DataW Unit)} {l : List Value} (h : flatDs (d :: r) = some l) : ∃ a b, flatD d = some a ∧ flatDs r = some b ∧ l = a ++ b := by
  rw [flatDs] at h
  split at h
  · rename_i a b h1 h2; cases h; exact ⟨a, b, h1, h2, rfl⟩
  · cases h

theorem mapM_cons_some {α β : Type} {f : α → Option β} {x : α} {l : List α} {r : List β} (h : (x :: l).mapM f = some r) : ∃ y ys, f x = some y ∧ l.mapM f = some ys ∧ r = y :: ys := by
  rw [List.mapM_cons] at h
  cases h1 : f x with
  | none => rw [h1] at h; cases h
  | some y =>
    rw [h1] at h
    cases h2 : l.mapM f with
    | none => rw [h2] at h; cases h
    | some ys =>
      rw [h2] at h
      cases h
      exact ⟨y, ys, rfl, rfl, rfl⟩

theorem take_drop_split (cs : List Value) (a s : Nat) : cs.drop a = (cs.drop a).take s ++ cs.drop (a + s) := by
  rw [← List.drop_drop, List.take_append_drop]

theorem flat_fields {rec_ : TypeId → Bool} {total : Nat} {g : Field → Option (DataW Unit × List MemPlace)} {cs : List Value} (hlen : cs.length = total)
    (ih : ∀ f x a, g f = some x → flatD x.1 = some a → rec_ f.type = true → (cs.drop f.offset).take (P.cellsOf f.type) = a) :
    ∀ (fs : List Field) (acc : Nat) (xs : List (DataW Unit × List MemPlace)) (l : List Value), fs.mapM g = some xs → flatDs (xs.map (·.1)) = some l → fieldsB P rec_ total acc fs = true → cs.drop acc = l
  | [], acc, xs, l, h1, h2, h3 => by
    cases h1
    cases h2
    have := Nat.eq_of_beq_eq_true (show Nat.beq acc total = true from h3)
    exact List.drop_eq_nil_of_le (by omega)
  | f :: fs, acc, xs, l, h1, h2, h3 => by
    obtain ⟨x, xs', e1, e2, rfl⟩ := mapM_cons_some h1
    obtain ⟨a, b, k1, k2, rfl⟩ := flatDs_cons h2
    simp only [fieldsB, Bool.and_eq_true] at h3
    obtain ⟨⟨h4, h5⟩, h6⟩ := h3
    have ho := Nat.eq_of_beq_eq_true h4
    have hb := flat_fields hlen ih fs _ xs' b e2 k2 h6
    have ha := ih f x a e1 k1 h5
    rw [take_drop_split cs acc (P.cellsOf f.type), hb, ← ho, ha]

theorem flat_array {s n : Nat} {g : Nat → Option (DataW Unit × List MemPlace)} {cs : List Value} (hlen : cs.length = n * s) (ih : ∀ i x a, g i = some x → flatD x.1 = some a → (cs.drop (i * s)).take s = a) :
    ∀ (m i : Nat) (xs : List (DataW Unit × List MemPlace)) (l : List Value), i + m = n → (List.range' i m).mapM g = some xs → flatDs (xs.map (·.1)) = some l → cs.drop (i * s) = l
  | 0, i, xs, l, hn, h1, h2 => by
    cases h1
    cases h2
    have : i = n := by omega
    subst this
    exact List.drop_eq_nil_of_le (by omega)
  | m + 1, i, xs, l, hn, h1, h2 => by
    rw [List.range'_succ] at h1
    obtain ⟨x, xs', e1, e2, rfl⟩ := mapM_cons_some h1
    obtain ⟨a, b, k1, k2, rfl⟩ := flatDs_cons h2
    have hb := flat_array hlen ih m (i + 1) xs' b (by omega) e2 k2
    have ha := ih i x a e1 k1
    rw [take_drop_split cs (i * s) s, ha, show i * s + s = (i + 1) * s by rw [Nat.add_mul, Nat.one_mul], hb]

theorem trod_flat {enc : TypeId × Value → Unit} {base : Nat} {sp : Nat → Bool} {held : Bool} : ∀ (fuel n : Nat) (t : TypeId) (cs : List Value) (d : DataW Unit) (ps : List MemPlace) (l : List Value),
    DataW.trod enc P w base sp held fuel t cs = some (d, ps) → flatD d = some l → tightB P n t = true → cs = l
  | 0, _, _, _, _, _, _, h, _, _ => by cases h
  | _ + 1, 0, _, _, _, _, _, _, _, h => by cases h
  | fuel + 1, n + 1, t, cs, d, ps, l, h, hd, ht => by
    unfold DataW.trod at h
    unfold tightB at ht
    cases hu : P.underlying t with
    | none => rw [hu] at ht; cases ht
    | some td =>
      rw [hu] at h ht
      cases td <;> try (simp at ht; done)
      case bool =>
        rcases cs with _ | ⟨c, _ | ⟨c2, r⟩⟩ <;> try (simp at h; done)
        cases c <;> try (simp at h; done)
        simp only [Option.some.injEq, Prod.mk.injEq] at h
        obtain ⟨rfl, _⟩ := h
        exact Option.some.inj hd
      case int k =>
        rcases cs with _ | ⟨c, _ | ⟨c2, r⟩⟩ <;> try (simp at h; done)
        cases c <;> try (simp at h; done)
        simp only at h
        split at h
        · rename_i hk
          obtain ⟨rfl, _⟩ := hk
          simp only [Option.some.injEq, Prod.mk.injEq] at h
          obtain ⟨rfl, _⟩ := h
          exact Option.some.inj hd
        · cases h
      case string =>
        rcases cs with _ | ⟨c, _ | ⟨c2, r⟩⟩ <;> try (simp at h; done)
        cases c <;> try (simp at h; done)
        simp only at h
        split at h
        · simp only [Option.some.injEq, Prod.mk.injEq] at h
          obtain ⟨rfl, _⟩ := h
          exact Option.some.inj hd
        · cases h
      case array k e =>
        simp only [Bool.and_eq_true] at ht
        obtain ⟨h1, h2⟩ := ht
        have hc := Nat.eq_of_beq_eq_true h1
        simp only at h
        split at h
        · rename_i hl
          obtain ⟨xs, hm, hx⟩ := Option.map_eq_some_iff.1 h
          cases hx
          rw [List.range_eq_range'] at hm
          have := flat_array (s := P.cellsOf e) (n := k) (hl.trans hc) (fun i x a hx ha => trod_flat fuel n e _ x.1 x.2 a hx ha h2) k 0 xs l (by omega) hm hd
          simpa using this
        · cases h
      case struct fs =>
        simp only at h
        split at h
        · rename_i hl
          obtain ⟨xs, hm, hx⟩ := Option.map_eq_some_iff.1 h
          cases hx
          have := flat_fields (P := P) (rec_ := tightB P n) hl (fun f x a hx ha hr => trod_flat fuel n f.type _ x.1 x.2 a hx ha hr) fs.toList 0 xs l hm hd ht
          simpa using this
        · cases h

/-- What a list of variables says of one of them. -/
theorem laid_var : ∀ {l : List (String × DataW Unit)} {ps : List MemPlace}, DataW.LaidVars P w l ps → ∀ {n : String} {d : DataW Unit} {v : List Value} {g k : Nat} {t : TypeId}, (n, d) ∈ l → flatD d = some v →
    P.globalNamed n = some g → (P.globals[g]?).map (·.type) = some t → tightB P k t = true → ∃ c u fr, w.heap[g]? = some (.cells c u fr) ∧ c.toList = v
  | [], _, _, _, _, _, _, _, _, h, _, _, _, _ => by cases h
  | (n', d') :: r, ps, h, n, d, v, g, k, t, hin, hv, hg, ht, hk => by
    obtain ⟨g', t', cs, fuel, p, q, h1, h2, h3, h4, h5, _⟩ := h
    rcases List.mem_cons.1 hin with e | hin
    · cases e
      rw [hg] at h1; cases h1
      rw [ht] at h2; cases h2
      have hcs := trod_flat fuel k t _ _ _ _ h4 hv hk
      unfold World.var? at h3
      rw [hg] at h3
      simp only [Option.bind_some] at h3
      cases hh : w.heap[g]? with
      | none => rw [hh] at h3; cases h3
      | some ob =>
        rw [hh] at h3
        cases ob <;> try (cases h3; done)
        cases h3
        exact ⟨_, _, _, rfl, hcs⟩
    · exact laid_var h5 hin hv hg ht hk

end
end Go.Am
/-
  THE ABSTRACT MACHINE, 35: a law's post: it answers true, and of what was there nothing has turned.
-/
namespace Go.Am
open Go.RowKit Go.ChangeShapes Go.WideShapes Go.WideElems

section
variable {H : Type} {enc : TypeId × Value → H} {P : Program}

theorem trodAll_stays (hl : laidOutB P = true) {W W' : World} (hb : Below W.heap.size W W') {sp : Nat → Bool} : ∀ {ts : List TypeId} {vs : List Value} {ds : List (DataW H)} {ps : List MemPlace},
    (ts.all fun t => P.readableRec t && decide (t < P.types.size)) = true → DataW.TrodAll enc P W 0 (fun _ => true) true ts vs ds ps → (∀ p ∈ ps, p.block < W.heap.size) → (∀ p ∈ ps, sp p.block = true) → DataW.TrodAll enc P W' 0 sp true ts vs ds ps
  | [], _, _, _, _, h, _, _ => by
    obtain ⟨rfl, rfl, rfl⟩ := trodAll_nil h
    exact rfl
  | t :: ts, _, _, _, hr, h, hlt, hs => by
    obtain ⟨v, vs1, d, ds1, a, b, rfl, rfl, rfl, h1, h2⟩ := trodAll_cons h
    simp only [List.all_cons, Bool.and_eq_true, decide_eq_true_eq] at hr
    exact ⟨a, b, Trod_stays hl hr.1.1 hr.1.2 h1 (fun x hx => hb.same (hlt x (by simp [hx]))) (fun x hx => hs x (by simp [hx])),
      trodAll_stays hl hb (by simpa using hr.2) h2 (fun p hp => hlt p (by simp [hp])) (fun p hp => hs p (by simp [hp])), rfl⟩

theorem post_true {f : Func} {s : ChangeSpec} {apart fresh handsOn again : Bool} {W W' : World} {args : Array Value} {ds gs : List (DataW H)} {before : List MemPlace} {tb : TypeId} (hl : laidOutB P = true)
    (hr : (f.params.toList.all fun t => P.readableRec t && decide (t < P.types.size)) = true) (hW : DataW.Whole enc P f.params.toList s.vars apart W args.toList ds gs before) (hvars : s.vars = [])
    (hfn : s.fn H ds = { results := [.lit (.bool true)], args := ds }) (hres : f.resultTypes = #[tb]) (htb : P.underlying tb = some .bool) (hb : Below W.heap.size W W') : s.post enc P f apart fresh handsOn again W args (.bool true) W' := by
  have hlt := hW.lt
  have hW' := hW
  obtain ⟨pa, pv, hA, hV, rfl, hz, hn⟩ := hW'
  rw [hvars] at hV
  obtain ⟨rfl, rfl⟩ := trodVars_none hV
  rw [List.append_nil] at hW hlt hz hn
  have hfn' : s.fn H (ds ++ []) = { results := [.lit (.bool true)], args := ds } := by rw [List.append_nil]; exact hfn
  have hres2 : ∀ (b : Nat) (sp : Nat → Bool) (hd : Bool), DataW.TrodAll enc P W' b sp hd f.resultTypes.toList ((Value.bool true).resultList f.resultTypes.size) (s.fn H (ds ++ [])).results [] := by
    intro b sp hd
    rw [hfn', hres]
    exact trodAll_mk1 (shut_bool htb _)
  have hargs : ∀ sp : Nat → Bool, (∀ p ∈ pa, sp p.block = true) → DataW.TrodAll enc P W' 0 sp true f.params.toList args.toList (s.fn H (ds ++ [])).args pa := by
    intro sp hsp
    rw [hfn']
    exact trodAll_stays hl hb hr hA hlt hsp
  have hvars2 : ∀ sp : Nat → Bool, DataW.TrodVars enc P W' sp s.vars (s.fn H (ds ++ [])).vars [] := by
    intro sp
    rw [hfn', hvars]
    exact rfl
  have hok : ∀ (j : Nat) (t : TypeId) (r : Value), f.resultTypes[j]? = some t → ((Value.bool true).resultList f.resultTypes.size)[j]? = some r → Value.okWide P W' .any 0 t r := ok_one hres rfl (okWide_bool_mk htb _)
  have hold : ∀ p ∈ pa, (fun b => decide (b < W.heap.size)) p.block = true := fun p hp => by simpa using hlt p hp
  refine ⟨ds, [], pa, [], pa, [], hW, hres2 _ _ _, hargs _ hold, hvars2 _, World.keptBut_mono (fun p hp => ⟨hp, ?_⟩) (hb.frame (· ∈ pa)), fun _ => ?_⟩
  · exact Or.inr (.inl hp)
  · refine ⟨hok, _, _, ([] ++ pa) ++ [], ⟨[] ++ pa, [], trodAll_append (hargs _ (fun _ _ => rfl)) (hres2 _ _ _), hvars2 _, rfl, ?_, ?_⟩, ?_⟩
    · intro b off hp
      have hp' : MemPlace.cell b off ∈ pa := by simpa using hp
      rw [hb.frozen (p := ⟨b, off, none⟩) (hlt _ hp')]
      exact hz b off hp'
    · intro ha
      simpa using hn ha
    · intro p hp _
      simpa using hp

end
end Go.Am
/-
  THE ABSTRACT MACHINE, 36: the closed facts of a row, each by itself.
-/
namespace Go.Am

theorem joinedFacts_of {P : Program} {f : FuncId} {fn : Func} {s : ChangeSpec} {c : OpenClaim} (h1 : c.wf (OpenSpec.ofChange s) = true) (h2 : laidOutB P = true) (h3 : mapsRowed P = true) (h4 : fn.params.all (P.readableRec ·) = true) (h5 : namedTie P c.named s.vars = true)
    (h6 : (c.stops == []) = true) (h7 : (P.stops == []) = true) (h8 : (c.knobs == []) = true) (h9 : (P.stopKnobs == []) = true) (h10 : (c.inPlace == P.inPlace f) = true) (h11 : (c.unfollowed == P.unfollowed f) = true) (h12 : (c.recurses == P.recurses f) = true) (h13 : (c.named == P.varsNamed f) = true)
    (h14 : (c.maps == (fn.params.toList ++ s.plain.varTypes P).any (P.mapsRec ·)) = true) (h15 : (c.ifaces == (fn.params.toList ++ s.plain.varTypes P).any (P.ifacesRec ·)) = true) (h16 : (c.mapsOut == P.mapsAmong fn.resultTypes.toList) = true)
    (h17 : (c.loops == (fn.params.toList ++ s.plain.varTypes P).any (P.loopsFrom ·)) = true) (h17b : (c.wideKeys == (fn.params.toList ++ s.plain.varTypes P ++ fn.resultTypes.toList).any (P.wideKeysFrom ·)) = true)
    (h18 : s.vars.all (P.varReadable ·) = true) (h19 : fn.resultTypes.all (fun t => P.readableRec t && decide (t < P.types.size)) = true) (h20 : (c.ifacesOut == fn.resultTypes.toList.any (P.ifacesRec ·)) = true) (h21 : (c.loopsOut == fn.resultTypes.toList.any (P.loopsFrom ·)) = true)
    (h22 : (c.plainKeys == P.plainKeys) = true) (h23 : c.shortTexts.isNone = true) (h23b : P.stopsHeard = true) (h24 : P.mayEnter = true) (h24b : (c.lifted == P.liftsFinal) = true) (h24c : (P.make == some c.make) = true)
    (h25 : (c.kinds == (if c.domain.isEmpty then [] else fn.params.toList.map fun t => match P.underlying t with | some (.int k) => some k | _ => none)) = true) (h26 : (c.pinned == c.pinnedBy) = true)
    (h27 : (c.veiled == (fn.params.toList ++ s.plain.varTypes P ++ fn.resultTypes.toList).any (P.veiledRec ·)) = true) (h28 : c.veiledFits P fn.params.toList (fn.params.toList ++ s.plain.varTypes P ++ fn.resultTypes.toList) = true) :
    joinedFacts P f fn s c = true := by
  unfold joinedFacts
  rw [h1, h2, h3, h4, h5, h6, h7, h8, h9, h10, h11, h12, h13, h14, h15, h16, h17, h17b, h18, h19, h20, h21, h22, h23, h23b, h24, h24b, h24c, h26, h27, h28]
  simp only [Bool.true_and, Bool.and_true]
  exact h25

/-- Where no function of the whole program starts a goroutine, no call does. -/
theorem goes_none {P : Program} (h : P.funcs.toList.any Func.goes = false) (f : FuncId) : P.goes f = false := by
  have one : ∀ g : FuncId, ((P.funcs[g]?).any Func.goes) = false := by
    intro g
    cases hg : P.funcs[g]? with
    | none => rfl
    | some fn =>
      have hm : fn ∈ P.funcs.toList := by rw [← Array.getElem?_toList] at hg; exact List.mem_of_getElem? hg
      cases hb : Func.goes fn with
      | false => exact hb
      | true =>
        have : P.funcs.toList.any Func.goes = true := List.any_eq_true.2 ⟨fn, hm, hb⟩
        rw [h] at this; cases this
  unfold Program.goes
  have h1 : ((P.closure f).any fun g => (P.funcs[g]?).any Func.goes) = false := by
    rw [List.any_eq_false]
    intro g _
    rw [one g]; simp
  have h2 : P.funcs.any Func.goes = false := by rw [← Array.any_toList]; exact h
  rw [h1, h2]; simp

theorem goesBy_none {P : Program} (h : P.funcs.toList.any Func.goes = false) {c : OpenClaim} (hs : c.start = .entering) : false = c.goesBy P := by
  unfold OpenClaim.goesBy Program.goesAt Program.goesFrom
  rw [hs]
  cases hf : P.funcNamed c.func with
  | none => rfl
  | some f => simp [goes_none h f]

end Go.Am
/-
  THE ABSTRACT MACHINE, 37: arguments by their kinds.
-/
namespace Go.Am

section
variable {P : Program} {w : World} {t : TypeId} {v : Value} {b : Nat}

theorem arg_int {k : IntKind} (hu : P.underlying t = some (.int k)) (h : Cell.okWide P w .any b t v) : ∃ n, v = .int k n := by
  unfold Cell.okWide at h
  rw [hu] at h
  unfold Cell.ok at h
  cases v <;> simp [hu] at h
  obtain ⟨rfl, _⟩ := h
  exact ⟨_, rfl⟩

theorem arg_bool (hu : P.underlying t = some .bool) (h : Cell.okWide P w .any b t v) : ∃ n, v = .bool n := by
  unfold Cell.okWide at h
  rw [hu] at h
  unfold Cell.ok at h
  cases v <;> simp [hu] at h
  exact ⟨_, rfl⟩

theorem arg_string (hu : P.underlying t = some .string) (h : Cell.okWide P w .any b t v) : ∃ n, v = .string n := by
  unfold Cell.okWide at h
  rw [hu] at h
  unfold Cell.ok at h
  cases v <;> simp [hu] at h
  exact ⟨_, rfl⟩

/-- Where a slice that came in lies. -/
def sliceEnt : Value → Ent
  | .slice (some a) _ c => ⟨a.block, a.off, a.off + c, 1, 1⟩
  | _ => ⟨0, 0, 0, 0, 0⟩
/-- Its name. -/
def sliceAs (i : Nat) : Value → Value
  | .slice (some _) l c => .slice (some ⟨i, 0, none⟩) l c
  | _ => .slice none 0 0

theorem arg_slice {e : TypeId} (hu : P.underlying t = some (.slice e)) (h : Cell.okWide P w .any b t v) (h0 : 0 < w.heap.size) : (sliceEnt v).b < w.heap.size ∧ ∀ (r : Ren) (i : Nat), r i = some (sliceEnt v) → VRel r (sliceAs i v) v := by
  unfold Cell.okWide at h
  rw [hu] at h
  unfold Cell.ok at h
  cases v <;> simp [hu] at h
  case slice a l c =>
    cases a with
    | none =>
      cases l <;> cases c <;> first | exact ⟨h0, fun r i _ => .snil⟩ | (simp at h)
    | some a =>
      obtain ⟨h1, h2, h3, h4, row, cells, h5, _⟩ := h
      refine ⟨?_, fun r i hr => ?_⟩
      · show a.block < w.heap.size
        unfold World.shape? at h5
        cases hh : w.heap[a.block]? with
        | none => rw [hh] at h5; simp at h5
        | some o => exact (Array.getElem?_eq_some_iff.1 hh).1
      · obtain ⟨ab, ao, as_⟩ := a
        simp only at h4
        subst h4
        exact VRel.slice (id := i) (e := ⟨ab, ao, ao + c, 1, 1⟩) hr (fun _ => by simp) (Nat.le_refl _) h1 (fun h => by cases h) (by simp) trivial (Nat.mod_one _)

end
end Go.Am
