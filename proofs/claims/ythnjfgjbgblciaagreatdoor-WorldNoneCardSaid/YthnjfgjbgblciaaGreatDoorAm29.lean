import Derived.Test.YthnjfgjbgblciaaGreatDoorAm28
/-
  THE ABSTRACT MACHINE, 29: the same machine, written so that the kernel reckons it with little memory: every branch is a closed term.
-/
namespace Go.Am

/-! numbers -/

noncomputable def zOf (z : Int) : Option Nat := Int.rec (motive := fun _ => Option Nat) (fun n => some n) (fun _ => none) z

noncomputable def addZ (a b : Int) : Int :=
  Int.rec (motive := fun _ => Int → Int) (fun m b => Int.rec (motive := fun _ => Nat → Int) (fun n m => Int.ofNat (Nat.add m n)) (fun n m => Int.subNatNat m (Nat.succ n)) b m)
    (fun m b => Int.add (Int.negSucc m) b) a b
theorem addZ_eq (a b : Int) : addZ a b = a + b := by cases a <;> cases b <;> rfl

noncomputable def subZ (a b : Int) : Int :=
  Int.rec (motive := fun _ => Int → Int) (fun m b => Int.rec (motive := fun _ => Nat → Int) (fun n m => bif Nat.ble n m then Int.ofNat (Nat.sub m n) else Int.sub (Int.ofNat m) (Int.ofNat n)) (fun n m => Int.ofNat (Nat.add m (Nat.succ n))) b m)
    (fun m b => Int.sub (Int.negSucc m) b) a b
theorem subZ_eq (a b : Int) : subZ a b = a - b := by
  cases a with
  | ofNat m =>
    cases b with
    | ofNat n =>
      show (bif Nat.ble n m then Int.ofNat (Nat.sub m n) else Int.sub (Int.ofNat m) (Int.ofNat n)) = _
      cases h : Nat.ble n m with
      | false => rfl
      | true =>
        have : n ≤ m := Nat.le_of_ble_eq_true h
        show ((m - n : Nat) : Int) = (m : Int) - n
        omega
    | negSucc n => rfl
  | negSucc m => rfl

noncomputable def mulZ (a b : Int) : Int :=
  Int.rec (motive := fun _ => Int → Int) (fun m b => Int.rec (motive := fun _ => Nat → Int) (fun n m => Int.ofNat (Nat.mul m n)) (fun n m => Int.mul (Int.ofNat m) (Int.negSucc n)) b m)
    (fun m b => Int.mul (Int.negSucc m) b) a b
theorem mulZ_eq (a b : Int) : mulZ a b = a * b := by cases a <;> cases b <;> rfl

noncomputable def ltZ (a b : Int) : Bool :=
  Int.rec (motive := fun _ => Int → Bool) (fun m b => Int.rec (motive := fun _ => Nat → Bool) (fun n m => Nat.blt m n) (fun _ _ => false) b m)
    (fun m b => Int.rec (motive := fun _ => Nat → Bool) (fun _ _ => true) (fun n m => Nat.blt n m) b m) a b
theorem ltZ_eq (a b : Int) : ltZ a b = decide (a < b) := by
  cases a with
  | ofNat m =>
    cases b with
    | ofNat n => show Nat.blt m n = decide ((m : Int) < n); rw [Bool.eq_iff_iff, Nat.blt_eq, decide_eq_true_eq]; omega
    | negSucc n => show false = _; symm; rw [decide_eq_false_iff_not]; show ¬ ((m : Int) < _); omega
  | negSucc m =>
    cases b with
    | ofNat n => show true = _; symm; rw [decide_eq_true_eq]; show _ < (n : Int); omega
    | negSucc n => show Nat.blt n m = _; rw [Bool.eq_iff_iff, Nat.blt_eq, decide_eq_true_eq]; omega

noncomputable def eqZ (a b : Int) : Bool :=
  Int.rec (motive := fun _ => Int → Bool) (fun m b => Int.rec (motive := fun _ => Nat → Bool) (fun n m => Nat.beq m n) (fun _ _ => false) b m)
    (fun m b => Int.rec (motive := fun _ => Nat → Bool) (fun _ _ => false) (fun n m => Nat.beq m n) b m) a b
theorem eqZ_eq (a b : Int) : eqZ a b = (a == b) := by
  cases a with
  | ofNat m =>
    cases b with
    | ofNat n => show Nat.beq m n = _; rw [Bool.eq_iff_iff, Nat.beq_eq, beq_iff_eq]; exact ⟨fun h => by rw [h], fun h => by injection h⟩
    | negSucc n => show false = _; symm; rw [beq_eq_false_iff_ne]; intro h; cases h
  | negSucc m =>
    cases b with
    | ofNat n => show false = _; symm; rw [beq_eq_false_iff_ne]; intro h; cases h
    | negSucc n => show Nat.beq m n = _; rw [Bool.eq_iff_iff, Nat.beq_eq, beq_iff_eq]; exact ⟨fun h => by rw [h], fun h => by injection h⟩

noncomputable def modN (M : Nat) (n : Int) : Nat := Int.rec (motive := fun _ => Nat → Nat) (fun m M => Nat.mod m M) (fun m M => Nat.sub (Nat.sub M 1) (Nat.mod m M)) n M
theorem modN_eq {M : Nat} (hM : 0 < M) (n : Int) : ((modN M n : Nat) : Int) = n % (M : Int) := by
  cases n with
  | ofNat m => rfl
  | negSucc m =>
    show ((M - 1 - m % M : Nat) : Int) = _
    have h1 : m % M < M := Nat.mod_lt _ hM
    have h2 := Int.emod_emod_of_dvd
    rw [show (Int.negSucc m) = (((M - 1 - m % M : Nat) : Int)) + (M : Int) * (-(((m / M : Nat) : Int) + 1)) from ?_]
    · rw [Int.add_mul_emod_self_left, Int.emod_eq_of_lt (by omega) (by omega)]
    · have h3 := Nat.div_add_mod m M
      have h4 : Int.negSucc m = -((m : Int) + 1) := by omega
      have h5 : (m : Int) = (M : Int) * ((m / M : Nat) : Int) + ((m % M : Nat) : Int) := by exact_mod_cast h3.symm
      rw [h4, Int.mul_neg, Int.mul_add, Int.mul_one]
      have h6 : ((M - 1 - m % M : Nat) : Int) = (M : Int) - 1 - ((m % M : Nat) : Int) := by omega
      rw [h6]
      generalize (M : Int) * ((m / M : Nat) : Int) = q at *
      omega

noncomputable def wrapU (M : Nat) (n : Int) : Int := Int.ofNat (modN M n)
noncomputable def signN (M H : Nat) (r : Nat) : Int := bif Nat.blt r H then Int.ofNat r else Int.negSucc (Nat.sub (Nat.sub M 1) r)
noncomputable def wrapS (M H : Nat) (n : Int) : Int := signN M H (modN M n)

noncomputable def wrapF (k : IntKind) (n : Int) : Int :=
  IntKind.rec (motive := fun _ => Int → Int) (wrapS 256 128) (wrapS 65536 32768) (wrapS 4294967296 2147483648) (wrapS 18446744073709551616 9223372036854775808)
    (wrapU 256) (wrapU 65536) (wrapU 4294967296) (wrapU 18446744073709551616) k n

theorem wrapF_eq (k : IntKind) (n : Int) : wrapF k n = k.wrap n := by
  have hs : ∀ (M H : Nat), 0 < M → H ≤ M → signN M H (modN M n) = (if (n % (M : Int)) ≥ (H : Int) then n % (M : Int) - M else n % (M : Int)) := by
    intro M H hM hH
    have h := modN_eq hM n
    have hlt : (modN M n : Int) < M := by rw [h]; exact Int.emod_lt_of_pos _ (by omega)
    rw [← h]
    generalize modN M n = r at *
    unfold signN
    cases hb : Nat.blt r H with
    | true =>
      have : r < H := by simpa [Nat.blt_eq] using hb
      rw [if_neg (by omega)]; rfl
    | false =>
      have : ¬ r < H := by intro hc; rw [show Nat.blt r H = true by simpa [Nat.blt_eq] using hc] at hb; cases hb
      rw [if_pos (by omega)]
      show Int.negSucc (M - 1 - r) = _
      omega
  have hu : ∀ M : Nat, 0 < M → wrapU M n = n % (M : Int) := fun M hM => modN_eq hM n
  cases k
  case i8 => exact (hs 256 128 (by decide) (by decide)).trans (by simp [IntKind.wrap, IntKind.signed, IntKind.bits])
  case i16 => exact (hs 65536 32768 (by decide) (by decide)).trans (by simp [IntKind.wrap, IntKind.signed, IntKind.bits])
  case i32 => exact (hs 4294967296 2147483648 (by decide) (by decide)).trans (by simp [IntKind.wrap, IntKind.signed, IntKind.bits])
  case i64 => exact (hs 18446744073709551616 9223372036854775808 (by decide) (by decide)).trans (by simp [IntKind.wrap, IntKind.signed, IntKind.bits])
  case u8 => exact (hu 256 (by decide)).trans (by simp [IntKind.wrap, IntKind.signed, IntKind.bits])
  case u16 => exact (hu 65536 (by decide)).trans (by simp [IntKind.wrap, IntKind.signed, IntKind.bits])
  case u32 => exact (hu 4294967296 (by decide)).trans (by simp [IntKind.wrap, IntKind.signed, IntKind.bits])
  case u64 => exact (hu 18446744073709551616 (by decide)).trans (by simp [IntKind.wrap, IntKind.signed, IntKind.bits])

end Go.Am
