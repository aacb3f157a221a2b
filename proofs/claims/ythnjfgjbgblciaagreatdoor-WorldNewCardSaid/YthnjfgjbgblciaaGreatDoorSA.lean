import Derived.Test.YthnjfgjbgblciaaGreatDoorAmSeat3
import Derived.Test.YthnjfgjbgblciaaGreatDoorAmSeat1
import Derived.Test.YthnjfgjbgblciaaGreatDoorGF
import Derived.KernelRfl
/-
  The shape of a device, tested by the program and by the reference.
-/
namespace Go.Proofs.YthnjfgjbgblciaaGreatDoor
open Go Go.Am

/-- What stands between two told comparisons of a test of a shape, if all before held. -/
noncomputable def rightQ (l : List Bool) : Qs :=
  match l with
  | [] => ⟨1000000, []⟩
  | b :: l => ⟨4, go b l [6, 7, 7, 7, 7]⟩
where
  go (b : Bool) : List Bool → List Nat → List (Ora × Nat)
    | [], _ => [(.bin (.bool b), 1000000)]
    | c :: l, g :: gs => (.bin (.bool b), g) :: go c l gs
    | _ :: _, [] => [(.bin (.bool b), 1000000)]

noncomputable def cmpB (op : BinOp) (x y : Int) : Option Value := binR Tryz.prog cfg.flats op 3 (.int .i64 x) (.int .i64 y)

theorem right_t (a b c : Int) : saidO (oCall Tryz.prog cfg 3000 87 [.agg #[.int .i64 a, .int .i64 b, .int .i64 c]] ⟨.nil, 3⟩ (rightQ [true, true, true, true, true, true]) True) =
   some (.bool true, ((((((True ∧ cmpB .geq a 32 = some (.bool true)) ∧ cmpB .leq a 128 = some (.bool true)) ∧ cmpB .geq b 3 = some (.bool true)) ∧ cmpB .leq b 10 = some (.bool true)) ∧ cmpB .geq c 4 = some (.bool true)) ∧ cmpB .leq c 12 = some (.bool true))) := by kernel_rfl
theorem right_f1 (a b c : Int) : saidO (oCall Tryz.prog cfg 3000 87 [.agg #[.int .i64 a, .int .i64 b, .int .i64 c]] ⟨.nil, 3⟩ (rightQ [false]) True) =
   some (.bool false, (True ∧ cmpB .geq a 32 = some (.bool false))) := by kernel_rfl
theorem right_f2 (a b c : Int) : saidO (oCall Tryz.prog cfg 3000 87 [.agg #[.int .i64 a, .int .i64 b, .int .i64 c]] ⟨.nil, 3⟩ (rightQ [true, false]) True) =
   some (.bool false, ((True ∧ cmpB .geq a 32 = some (.bool true)) ∧ cmpB .leq a 128 = some (.bool false))) := by kernel_rfl
theorem right_f3 (a b c : Int) : saidO (oCall Tryz.prog cfg 3000 87 [.agg #[.int .i64 a, .int .i64 b, .int .i64 c]] ⟨.nil, 3⟩ (rightQ [true, true, false]) True) =
   some (.bool false, (((True ∧ cmpB .geq a 32 = some (.bool true)) ∧ cmpB .leq a 128 = some (.bool true)) ∧ cmpB .geq b 3 = some (.bool false))) := by kernel_rfl
theorem right_f4 (a b c : Int) : saidO (oCall Tryz.prog cfg 3000 87 [.agg #[.int .i64 a, .int .i64 b, .int .i64 c]] ⟨.nil, 3⟩ (rightQ [true, true, true, false]) True) =
   some (.bool false, ((((True ∧ cmpB .geq a 32 = some (.bool true)) ∧ cmpB .leq a 128 = some (.bool true)) ∧ cmpB .geq b 3 = some (.bool true)) ∧ cmpB .leq b 10 = some (.bool false))) := by kernel_rfl
theorem right_f5 (a b c : Int) : saidO (oCall Tryz.prog cfg 3000 87 [.agg #[.int .i64 a, .int .i64 b, .int .i64 c]] ⟨.nil, 3⟩ (rightQ [true, true, true, true, false]) True) =
   some (.bool false, (((((True ∧ cmpB .geq a 32 = some (.bool true)) ∧ cmpB .leq a 128 = some (.bool true)) ∧ cmpB .geq b 3 = some (.bool true)) ∧ cmpB .leq b 10 = some (.bool true)) ∧ cmpB .geq c 4 = some (.bool false))) := by kernel_rfl
theorem right_f6 (a b c : Int) : saidO (oCall Tryz.prog cfg 3000 87 [.agg #[.int .i64 a, .int .i64 b, .int .i64 c]] ⟨.nil, 3⟩ (rightQ [true, true, true, true, true, false]) True) =
   some (.bool false, ((((((True ∧ cmpB .geq a 32 = some (.bool true)) ∧ cmpB .leq a 128 = some (.bool true)) ∧ cmpB .geq b 3 = some (.bool true)) ∧ cmpB .leq b 10 = some (.bool true)) ∧ cmpB .geq c 4 = some (.bool true)) ∧ cmpB .leq c 12 = some (.bool false))) := by kernel_rfl

noncomputable def rightB (a b c : Int) : Bool := decide (32 ≤ a) && decide (a ≤ 128) && decide (3 ≤ b) && decide (b ≤ 10) && decide (4 ≤ c) && decide (c ≤ 12)

theorem cmp_geq (x y : Int) : cmpB .geq x y = some (.bool (decide (y ≤ x))) := by simp [cmpB, binR, intR]
theorem cmp_leq (x y : Int) : cmpB .leq x y = some (.bool (decide (x ≤ y))) := by simp [cmpB, binR, intR]

theorem right_run (a b c : Int) : ∃ m, aCall Tryz.prog cfg 3000 87 [.agg #[.int .i64 a, .int .i64 b, .int .i64 c]] ⟨.nil, 3⟩ = some (.bool (rightB a b c), m) := by
  by_cases h1 : 32 ≤ a
  · by_cases h2 : a ≤ 128
    · by_cases h3 : 3 ≤ b
      · by_cases h4 : b ≤ 10
        · by_cases h5 : 4 ≤ c
          · by_cases h6 : c ≤ 12
            · have := told_call (right_t a b c) (by simp [cmp_geq, cmp_leq, h1, h2, h3, h4, h5, h6])
              simpa [rightB, h1, h2, h3, h4, h5, h6] using this
            · have := told_call (right_f6 a b c) (by simp [cmp_geq, cmp_leq, h1, h2, h3, h4, h5, h6])
              simpa [rightB, h1, h2, h3, h4, h5, h6] using this
          · have := told_call (right_f5 a b c) (by simp [cmp_geq, cmp_leq, h1, h2, h3, h4, h5])
            simpa [rightB, h1, h2, h3, h4, h5] using this
        · have := told_call (right_f4 a b c) (by simp [cmp_geq, cmp_leq, h1, h2, h3, h4])
          simpa [rightB, h1, h2, h3, h4] using this
      · have := told_call (right_f3 a b c) (by simp [cmp_geq, cmp_leq, h1, h2, h3])
        simpa [rightB, h1, h2, h3] using this
    · have := told_call (right_f2 a b c) (by simp [cmp_geq, cmp_leq, h1, h2])
      simpa [rightB, h1, h2] using this
  · have := told_call (right_f1 a b c) (by simp [cmp_geq, h1])
    simpa [rightB, h1] using this
end Go.Proofs.YthnjfgjbgblciaaGreatDoor
/-
  The shape of a device, tested by the program and by the reference.
-/
namespace Go.Proofs.YthnjfgjbgblciaaGreatDoor
open Go Go.Am


theorem gright_t (a b c : Int) : saidO (oCall Tryz.prog cfg 3000 23 [.agg #[.int .i64 a, .int .i64 b, .int .i64 c]] ⟨.nil, 3⟩ (rightQ [true, true, true, true, true, true]) True) =
   some (.bool true, ((((((True ∧ cmpB .geq a 32 = some (.bool true)) ∧ cmpB .leq a 128 = some (.bool true)) ∧ cmpB .geq b 3 = some (.bool true)) ∧ cmpB .leq b 10 = some (.bool true)) ∧ cmpB .geq c 4 = some (.bool true)) ∧ cmpB .leq c 12 = some (.bool true))) := by kernel_rfl
theorem gright_f1 (a b c : Int) : saidO (oCall Tryz.prog cfg 3000 23 [.agg #[.int .i64 a, .int .i64 b, .int .i64 c]] ⟨.nil, 3⟩ (rightQ [false]) True) =
   some (.bool false, (True ∧ cmpB .geq a 32 = some (.bool false))) := by kernel_rfl
theorem gright_f2 (a b c : Int) : saidO (oCall Tryz.prog cfg 3000 23 [.agg #[.int .i64 a, .int .i64 b, .int .i64 c]] ⟨.nil, 3⟩ (rightQ [true, false]) True) =
   some (.bool false, ((True ∧ cmpB .geq a 32 = some (.bool true)) ∧ cmpB .leq a 128 = some (.bool false))) := by kernel_rfl
theorem gright_f3 (a b c : Int) : saidO (oCall Tryz.prog cfg 3000 23 [.agg #[.int .i64 a, .int .i64 b, .int .i64 c]] ⟨.nil, 3⟩ (rightQ [true, true, false]) True) =
   some (.bool false, (((True ∧ cmpB .geq a 32 = some (.bool true)) ∧ cmpB .leq a 128 = some (.bool true)) ∧ cmpB .geq b 3 = some (.bool false))) := by kernel_rfl
theorem gright_f4 (a b c : Int) : saidO (oCall Tryz.prog cfg 3000 23 [.agg #[.int .i64 a, .int .i64 b, .int .i64 c]] ⟨.nil, 3⟩ (rightQ [true, true, true, false]) True) =
   some (.bool false, ((((True ∧ cmpB .geq a 32 = some (.bool true)) ∧ cmpB .leq a 128 = some (.bool true)) ∧ cmpB .geq b 3 = some (.bool true)) ∧ cmpB .leq b 10 = some (.bool false))) := by kernel_rfl
theorem gright_f5 (a b c : Int) : saidO (oCall Tryz.prog cfg 3000 23 [.agg #[.int .i64 a, .int .i64 b, .int .i64 c]] ⟨.nil, 3⟩ (rightQ [true, true, true, true, false]) True) =
   some (.bool false, (((((True ∧ cmpB .geq a 32 = some (.bool true)) ∧ cmpB .leq a 128 = some (.bool true)) ∧ cmpB .geq b 3 = some (.bool true)) ∧ cmpB .leq b 10 = some (.bool true)) ∧ cmpB .geq c 4 = some (.bool false))) := by kernel_rfl
theorem gright_f6 (a b c : Int) : saidO (oCall Tryz.prog cfg 3000 23 [.agg #[.int .i64 a, .int .i64 b, .int .i64 c]] ⟨.nil, 3⟩ (rightQ [true, true, true, true, true, false]) True) =
   some (.bool false, ((((((True ∧ cmpB .geq a 32 = some (.bool true)) ∧ cmpB .leq a 128 = some (.bool true)) ∧ cmpB .geq b 3 = some (.bool true)) ∧ cmpB .leq b 10 = some (.bool true)) ∧ cmpB .geq c 4 = some (.bool true)) ∧ cmpB .leq c 12 = some (.bool false))) := by kernel_rfl



theorem gright_run (a b c : Int) : ∃ m, aCall Tryz.prog cfg 3000 23 [.agg #[.int .i64 a, .int .i64 b, .int .i64 c]] ⟨.nil, 3⟩ = some (.bool (rightB a b c), m) := by
  by_cases h1 : 32 ≤ a
  · by_cases h2 : a ≤ 128
    · by_cases h3 : 3 ≤ b
      · by_cases h4 : b ≤ 10
        · by_cases h5 : 4 ≤ c
          · by_cases h6 : c ≤ 12
            · have := told_call (gright_t a b c) (by simp [cmp_geq, cmp_leq, h1, h2, h3, h4, h5, h6])
              simpa [rightB, h1, h2, h3, h4, h5, h6] using this
            · have := told_call (gright_f6 a b c) (by simp [cmp_geq, cmp_leq, h1, h2, h3, h4, h5, h6])
              simpa [rightB, h1, h2, h3, h4, h5, h6] using this
          · have := told_call (gright_f5 a b c) (by simp [cmp_geq, cmp_leq, h1, h2, h3, h4, h5])
            simpa [rightB, h1, h2, h3, h4, h5] using this
        · have := told_call (gright_f4 a b c) (by simp [cmp_geq, cmp_leq, h1, h2, h3, h4])
          simpa [rightB, h1, h2, h3, h4] using this
      · have := told_call (gright_f3 a b c) (by simp [cmp_geq, cmp_leq, h1, h2, h3])
        simpa [rightB, h1, h2, h3] using this
    · have := told_call (gright_f2 a b c) (by simp [cmp_geq, cmp_leq, h1, h2])
      simpa [rightB, h1, h2] using this
  · have := told_call (gright_f1 a b c) (by simp [cmp_geq, h1])
    simpa [rightB, h1] using this
end Go.Proofs.YthnjfgjbgblciaaGreatDoor
/-
  The shape of a device: what the two tests, the sizes and the choice of a small shape answer.
-/
namespace Go.Proofs.YthnjfgjbgblciaaGreatDoor
open Go Go.Am

theorem flats_ok0 : allL (fun t => !Tryz.prog.stoodInHeld t && !Tryz.prog.eqGuardType Tryz.prog.depth t && (match under Tryz.prog t with | some (.struct fs) => allL (fun f => !decide (f.name = "_")) fs.toList | _ => true)) cfg.flats = true := by kernel_rfl
theorem flatOk0 : ∀ t, cfg.flats.contains t = true → FlatOk Tryz.prog t := by
  intro t ht
  have h := allL_mem flats_ok0 t (List.contains_iff_mem.1 ht)
  simp only [Bool.and_eq_true, Bool.not_eq_true'] at h
  obtain ⟨⟨h1, h2⟩, h3⟩ := h
  refine ⟨h1, h2, fun fs hf f hm => ?_⟩
  rw [hf] at h3
  have := allL_mem h3 f hm
  simpa using this
theorem plans0 : AllPlans Tryz.prog cfg := allPlans_congr (C := cfg0) rfl (allPlans_of plansB_ok)
theorem primOk0 : PrimOk Tryz.prog cfg := fun _ _ _ _ _ h => by cases h
theorem gsize0 : 3 = Tryz.prog.globals.size := by kernel_rfl

/-- Three numbers. -/
noncomputable def geo3 (args : List Value) : Option (Int × Int × Int) := match args with | [.agg ⟨[.int .i64 a, .int .i64 b, .int .i64 c]⟩] => some (a, b, c) | _ => none
theorem geo3_some {args : List Value} {a b c : Int} (h : geo3 args = some (a, b, c)) : args = [.agg #[.int .i64 a, .int .i64 b, .int .i64 c]] := by
  unfold geo3 at h
  split at h
  · cases h; rfl
  · cases h

/-- The tests are answered at once. -/
noncomputable def prim1 (f : FuncId) (args : List Value) (m : Mem) : Option (Value × Mem) :=
  bif Nat.beq f 87 || Nat.beq f 23 then (match geo3 args with | some (a, b, c) => some (.bool (rightB a b c), m) | none => none) else none
noncomputable def cfg1 : Cfg := { cfg with prim := prim1 }

theorem primOk1 : PrimOk Tryz.prog cfg1 := by
  intro f args m v m' h r w args' hm hr
  replace h : prim1 f args m = some (v, m') := h
  unfold prim1 at h
  cases hb : (Nat.beq f 87 || Nat.beq f 23) with
  | false => rw [hb] at h; cases h
  | true =>
    rw [hb, cond_true] at h
    cases hg : geo3 args with
    | none => rw [hg] at h; cases h
    | some p =>
      obtain ⟨a, b, c⟩ := p
      rw [hg] at h
      cases h
      have ha := geo3_some hg
      subst ha
      simp only [Bool.or_eq_true, Nat.beq_eq] at hb
      rcases hb with rfl | rfl
      · obtain ⟨m1, h1⟩ := right_run a b c
        exact pure_call pgood flatOk0 primOk0 plans0 gsize0 h1 rfl rfl hm hr
      · obtain ⟨m1, h1⟩ := gright_run a b c
        exact pure_call pgood flatOk0 primOk0 plans0 gsize0 h1 rfl rfl hm hr
theorem plans1 : AllPlans Tryz.prog cfg1 := allPlans_congr (C := cfg0) rfl (allPlans_of plansB_ok)

theorem wrap_i64 {x : Int} (h1 : -9223372036854775808 ≤ x) (h2 : x < 9223372036854775808) : IntKind.i64.wrap x = x := by
  simp [IntKind.wrap, IntKind.signed, IntKind.bits]
  omega

/-! Pick -/
theorem pick_n (n m r s : Int) : saidO (oCall Tryz.prog cfg1 3000 58 [.int .i64 n, .int .i64 m] ⟨.nil, 3⟩ ⟨3, [(.bin (.int .i64 r), 2), (.bin (.bool true), 3), (.bin (.int .i64 s), 1000)]⟩ True) =
   some (.int .i64 s, (((True ∧ binR Tryz.prog cfg.flats .rem 3 (.int .i64 n) (.int .i64 m) = some (.int .i64 r)) ∧ cmpB .lss r 0 = some (.bool true)) ∧ binR Tryz.prog cfg.flats .add 3 (.int .i64 r) (.int .i64 m) = some (.int .i64 s))) := by kernel_rfl
theorem pick_p (n m r : Int) : saidO (oCall Tryz.prog cfg1 3000 58 [.int .i64 n, .int .i64 m] ⟨.nil, 3⟩ ⟨3, [(.bin (.int .i64 r), 2), (.bin (.bool false), 1000)]⟩ True) =
   some (.int .i64 r, ((True ∧ binR Tryz.prog cfg.flats .rem 3 (.int .i64 n) (.int .i64 m) = some (.int .i64 r)) ∧ cmpB .lss r 0 = some (.bool false))) := by kernel_rfl

theorem pick_run (n m : Int) (h0 : 0 < m) (h1 : m < 1000000) : ∃ m', aCall Tryz.prog cfg1 3000 58 [.int .i64 n, .int .i64 m] ⟨.nil, 3⟩ = some (.int .i64 (n % m), m') := by
  have hne : m ≠ 0 := by omega
  have hr : binR Tryz.prog cfg.flats .rem 3 (.int .i64 n) (.int .i64 m) = some (.int .i64 (n.tmod m)) := by simp [binR, intR, hne]
  have hlt : cmpB .lss (n.tmod m) 0 = some (.bool (decide (n.tmod m < 0))) := by simp [cmpB, binR, intR]
  have hb1 : n.tmod m < m := Int.tmod_lt_of_pos n h0
  have hb2 : -m < n.tmod m := by
    have := Int.tmod_lt_of_pos (-n) h0
    rw [Int.neg_tmod] at this
    omega
  have he : n % m = if n.tmod m < 0 then n.tmod m + m else n.tmod m := by
    have h3 := Int.emod_nonneg n hne
    have h4 := Int.emod_lt_of_pos n h0
    have h5 := Int.mul_tdiv_add_tmod n m
    have h6 := Int.mul_ediv_add_emod n m
    split
    · rename_i hn
      have h7 : (n.tmod m + m) % m = n.tmod m + m := Int.emod_eq_of_lt (by omega) (by omega)
      rw [← h7, Int.add_emod_right]
      have : n = n.tmod m + m * n.tdiv m := by omega
      conv => lhs; rw [this, Int.add_mul_emod_self_left]
    · rename_i hn
      have h7 : n.tmod m % m = n.tmod m := Int.emod_eq_of_lt (by omega) (by omega)
      rw [← h7]
      have : n = n.tmod m + m * n.tdiv m := by omega
      conv => lhs; rw [this, Int.add_mul_emod_self_left]
  by_cases hn : n.tmod m < 0
  · have hadd : binR Tryz.prog cfg.flats .add 3 (.int .i64 (n.tmod m)) (.int .i64 m) = some (.int .i64 (n.tmod m + m)) := by
      simp only [binR, intR, if_true]
      congr 2
      exact wrap_i64 (by omega) (by omega)
    have := told_call (pick_n n m (n.tmod m) (n.tmod m + m)) ⟨⟨⟨trivial, hr⟩, by rw [hlt]; simp [hn]⟩, hadd⟩
    rw [he, if_pos hn]
    exact this
  · have := told_call (pick_p n m (n.tmod m)) ⟨⟨trivial, hr⟩, by rw [hlt]; simp [hn]⟩
    rw [he, if_neg hn]
    exact this
end Go.Proofs.YthnjfgjbgblciaaGreatDoor
/-
  The sizes of a device, and a small shape made of any numbers.
-/
namespace Go.Proofs.YthnjfgjbgblciaaGreatDoor
open Go Go.Am

noncomputable def mulB (x y : Int) : Option Value := binR Tryz.prog cfg.flats .mul 3 (.int .i64 x) (.int .i64 y)
theorem mul_ok {x y : Int} (h1 : -9223372036854775808 ≤ x * y) (h2 : x * y < 9223372036854775808) : mulB x y = some (.int .i64 (x * y)) := by
  simp only [mulB, binR, intR, if_true]
  rw [wrap_i64 h1 h2]

theorem right_iff (a b c : Int) : rightB a b c = true ↔ (32 ≤ a ∧ a ≤ 128 ∧ 3 ≤ b ∧ b ≤ 10 ∧ 4 ≤ c ∧ c ≤ 12) := by
  simp [rightB, and_assoc]

theorem right_mul {a b c : Int} (h : rightB a b c = true) : 96 ≤ a * b ∧ a * b ≤ 1280 ∧ 384 ≤ a * b * c ∧ a * b * c ≤ 15360 := by
  obtain ⟨h1, h2, h3, h4, h5, h6⟩ := (right_iff a b c).1 h
  have k1 : 32 * 3 ≤ a * b := Int.mul_le_mul h1 h3 (by omega) (by omega)
  have k2 : a * b ≤ 128 * 10 := Int.mul_le_mul h2 h4 (by omega) (by omega)
  have k3 : 96 * 4 ≤ a * b * c := Int.mul_le_mul (by omega) h5 (by omega) (by omega)
  have k4 : a * b * c ≤ 1280 * 12 := Int.mul_le_mul (by omega) h6 (by omega) (by omega)
  omega

theorem bytes_t (a b c x y : Int) : saidO (oCall Tryz.prog cfg1 3000 88 [.agg #[.int .i64 a, .int .i64 b, .int .i64 c]] ⟨.nil, 3⟩ ⟨3, [(.all (.bool true), 6), (.bin (.int .i64 x), 2), (.bin (.int .i64 y), 1000)]⟩ True) =
   some (.int .i64 y, (((True ∧ ∀ m0, aCall Tryz.prog cfg1 2999 87 [.agg #[.int .i64 a, .int .i64 b, .int .i64 c]] m0 = some (.bool true, m0)) ∧ mulB a b = some (.int .i64 x)) ∧ mulB x c = some (.int .i64 y))) := by kernel_rfl
theorem bytes_f (a b c : Int) : saidO (oCall Tryz.prog cfg1 3000 88 [.agg #[.int .i64 a, .int .i64 b, .int .i64 c]] ⟨.nil, 3⟩ ⟨3, [(.all (.bool false), 1000)]⟩ True) =
   some (.int .i64 0, (True ∧ ∀ m0, aCall Tryz.prog cfg1 2999 87 [.agg #[.int .i64 a, .int .i64 b, .int .i64 c]] m0 = some (.bool false, m0))) := by kernel_rfl
theorem size_t (a b c x y : Int) : saidO (oCall Tryz.prog cfg1 3000 24 [.agg #[.int .i64 a, .int .i64 b, .int .i64 c]] ⟨.nil, 3⟩ ⟨6, [(.bin (.int .i64 x), 2), (.bin (.int .i64 y), 1000)]⟩ True) =
   some (.int .i64 y, ((True ∧ mulB a b = some (.int .i64 x)) ∧ mulB x c = some (.int .i64 y))) := by kernel_rfl

theorem call87 (k : Nat) (a b c : Int) (m : Mem) : aCall Tryz.prog cfg1 (k + 1) 87 [.agg #[.int .i64 a, .int .i64 b, .int .i64 c]] m = some (.bool (rightB a b c), m) := rfl
theorem call23 (k : Nat) (a b c : Int) (m : Mem) : aCall Tryz.prog cfg1 (k + 1) 23 [.agg #[.int .i64 a, .int .i64 b, .int .i64 c]] m = some (.bool (rightB a b c), m) := rfl

noncomputable def bytesZ (a b c : Int) : Int := if rightB a b c then a * b * c else 0

theorem bytes_run (a b c : Int) : ∃ m', aCall Tryz.prog cfg1 3000 88 [.agg #[.int .i64 a, .int .i64 b, .int .i64 c]] ⟨.nil, 3⟩ = some (.int .i64 (bytesZ a b c), m') := by
  cases h : rightB a b c with
  | true =>
    obtain ⟨k1, k2, k3, k4⟩ := right_mul h
    have := told_call (bytes_t a b c (a * b) (a * b * c)) ⟨⟨⟨trivial, fun m0 => by rw [call87, h]⟩, mul_ok (by omega) (by omega)⟩, mul_ok (by omega) (by omega)⟩
    simpa [bytesZ, h] using this
  | false =>
    have := told_call (bytes_f a b c) ⟨trivial, fun m0 => by rw [call87, h]⟩
    simpa [bytesZ, h] using this

theorem size_run (a b c : Int) (h : rightB a b c = true) : ∃ m', aCall Tryz.prog cfg1 3000 24 [.agg #[.int .i64 a, .int .i64 b, .int .i64 c]] ⟨.nil, 3⟩ = some (.int .i64 (a * b * c), m') := by
  obtain ⟨k1, k2, k3, k4⟩ := right_mul h
  exact told_call (size_t a b c (a * b) (a * b * c)) ⟨⟨trivial, mul_ok (by omega) (by omega)⟩, mul_ok (by omega) (by omega)⟩
end Go.Proofs.YthnjfgjbgblciaaGreatDoor
/-
  A small shape made of any numbers is right; the answers at once of all of these.
-/
namespace Go.Proofs.YthnjfgjbgblciaaGreatDoor
open Go Go.Am

noncomputable def two (args : List Value) : Option (Int × Int) := match args with | [.int .i64 a, .int .i64 b] => some (a, b) | _ => none
theorem two_some {args : List Value} {a b : Int} (h : two args = some (a, b)) : args = [.int .i64 a, .int .i64 b] := by
  unfold two at h
  split at h
  · cases h; rfl
  · cases h

noncomputable def prim2 (f : FuncId) (args : List Value) (m : Mem) : Option (Value × Mem) :=
  bif Nat.beq f 87 || Nat.beq f 23 then (match geo3 args with | some (a, b, c) => some (.bool (rightB a b c), m) | none => none)
  else bif Nat.beq f 88 then (match geo3 args with | some (a, b, c) => some (.int .i64 (bytesZ a b c), m) | none => none)
  else bif Nat.beq f 24 then (match geo3 args with | some (a, b, c) => bif rightB a b c then some (.int .i64 (a * b * c), m) else none | none => none)
  else bif Nat.beq f 58 then (match two args with | some (a, b) => bif decide (0 < b) && decide (b < 1000000) then some (.int .i64 (a % b), m) else none | none => none)
  else none
noncomputable def cfg2 : Cfg := { cfg with prim := prim2 }

theorem flatOk1 : ∀ t, cfg1.flats.contains t = true → FlatOk Tryz.prog t := flatOk0

theorem primOk2 : PrimOk Tryz.prog cfg2 := by
  intro f args m v m' h r w args' hm hr
  replace h : prim2 f args m = some (v, m') := h
  unfold prim2 at h
  cases h1 : (Nat.beq f 87 || Nat.beq f 23) with
  | true =>
    refine primOk1 f args m v m' ?_ r w args' hm hr
    show prim1 f args m = _
    unfold prim1
    rw [h1] at h ⊢
    exact h
  | false =>
    rw [h1, cond_false] at h
    cases h2 : Nat.beq f 88 with
    | true =>
      rw [h2, cond_true] at h
      cases hg : geo3 args with
      | none => rw [hg] at h; cases h
      | some p =>
        obtain ⟨a, b, c⟩ := p
        rw [hg] at h
        cases h
        have ha := geo3_some hg
        subst ha
        have hf := Nat.eq_of_beq_eq_true h2
        subst hf
        obtain ⟨m1, k1⟩ := bytes_run a b c
        exact pure_call pgood flatOk1 primOk1 plans1 gsize0 k1 rfl rfl hm hr
    | false =>
      rw [h2, cond_false] at h
      cases h3 : Nat.beq f 24 with
      | true =>
        rw [h3, cond_true] at h
        cases hg : geo3 args with
        | none => rw [hg] at h; cases h
        | some p =>
          obtain ⟨a, b, c⟩ := p
          rw [hg] at h
          simp only at h
          cases hb : rightB a b c with
          | false => rw [hb] at h; cases h
          | true =>
            rw [hb] at h
            cases h
            have ha := geo3_some hg
            subst ha
            have hf := Nat.eq_of_beq_eq_true h3
            subst hf
            obtain ⟨m1, k1⟩ := size_run a b c hb
            exact pure_call pgood flatOk1 primOk1 plans1 gsize0 k1 rfl rfl hm hr
      | false =>
        rw [h3, cond_false] at h
        cases h4 : Nat.beq f 58 with
        | false => rw [h4] at h; cases h
        | true =>
          rw [h4, cond_true] at h
          cases hg : two args with
          | none => rw [hg] at h; cases h
          | some p =>
            obtain ⟨a, b⟩ := p
            rw [hg] at h
            simp only at h
            cases hb : (decide (0 < b) && decide (b < 1000000)) with
            | false => rw [hb] at h; cases h
            | true =>
              rw [hb] at h
              cases h
              simp only [Bool.and_eq_true, decide_eq_true_eq] at hb
              have ha := two_some hg
              subst ha
              have hf := Nat.eq_of_beq_eq_true h4
              subst hf
              obtain ⟨m1, k1⟩ := pick_run a b hb.1 hb.2
              exact pure_call pgood flatOk1 primOk1 plans1 gsize0 k1 rfl rfl hm hr
theorem plans2 : AllPlans Tryz.prog cfg2 := allPlans_congr (C := cfg0) rfl (allPlans_of plansB_ok)
theorem flatOk2 : ∀ t, cfg2.flats.contains t = true → FlatOk Tryz.prog t := flatOk0

theorem call58 (k : Nat) (a b : Int) (m : Mem) (h : (decide (0 < b) && decide (b < 1000000)) = true) : aCall Tryz.prog cfg2 (k + 1) 58 [.int .i64 a, .int .i64 b] m = some (.int .i64 (a % b), m) := by
  have hp : prim2 58 [.int .i64 a, .int .i64 b] m = (bif decide (0 < b) && decide (b < 1000000) then some (.int .i64 (a % b), m) else none) := rfl
  show (match prim2 58 [.int .i64 a, .int .i64 b] m with | some r => some r | none => aBody Tryz.prog cfg2 (aCall Tryz.prog cfg2 k) k 58 [.int .i64 a, .int .i64 b] m) = _
  rw [hp, h]; rfl

noncomputable def addB (x y : Int) : Option Value := binR Tryz.prog cfg.flats .add 3 (.int .i64 x) (.int .i64 y)
theorem add_ok {x y : Int} (h1 : -9223372036854775808 ≤ x + y) (h2 : x + y < 9223372036854775808) : addB x y = some (.int .i64 (x + y)) := by
  simp only [addB, binR, intR, if_true]
  rw [wrap_i64 h1 h2]

noncomputable def selfB (x : Int) : Bool := decide (IntKind.i64 = IntKind.i64) && decide (x = x)

theorem geom_t (a b c p q r x y z : Int) : saidO (oCall Tryz.prog cfg2 3000 20 [.agg #[.int .i64 a, .int .i64 b, .int .i64 c]] ⟨.nil, 3⟩
    ⟨4, [(.all (.int .i64 p), 0), (.bin (.int .i64 x), 2), (.all (.int .i64 q), 0), (.bin (.int .i64 y), 2), (.all (.int .i64 r), 0), (.bin (.int .i64 z), 2), (.bit true, 1000)]⟩ True) =
   some (.agg #[.int .i64 x, .int .i64 y, .int .i64 z], (((((((True ∧ ∀ m0, aCall Tryz.prog cfg2 2999 58 [.int .i64 a, .int .i64 33] m0 = some (.int .i64 p, m0)) ∧ addB 32 p = some (.int .i64 x))
     ∧ ∀ m0, aCall Tryz.prog cfg2 2999 58 [.int .i64 b, .int .i64 4] m0 = some (.int .i64 q, m0)) ∧ addB 3 q = some (.int .i64 y))
     ∧ ∀ m0, aCall Tryz.prog cfg2 2999 58 [.int .i64 c, .int .i64 4] m0 = some (.int .i64 r, m0)) ∧ addB 4 r = some (.int .i64 z))
     ∧ (selfB b && (selfB c && (selfB c && true))) = true)) := by kernel_rfl

theorem geom_run (a b c : Int) : ∃ m', aCall Tryz.prog cfg2 3000 20 [.agg #[.int .i64 a, .int .i64 b, .int .i64 c]] ⟨.nil, 3⟩ = some (.agg #[.int .i64 (32 + a % 33), .int .i64 (3 + b % 4), .int .i64 (4 + c % 4)], m') := by
  have h1 := Int.emod_nonneg a (show (33 : Int) ≠ 0 by omega)
  have h2 := Int.emod_lt_of_pos a (show (0 : Int) < 33 by omega)
  have h3 := Int.emod_nonneg b (show (4 : Int) ≠ 0 by omega)
  have h4 := Int.emod_lt_of_pos b (show (0 : Int) < 4 by omega)
  have h5 := Int.emod_nonneg c (show (4 : Int) ≠ 0 by omega)
  have h6 := Int.emod_lt_of_pos c (show (0 : Int) < 4 by omega)
  refine told_call (geom_t a b c (a % 33) (b % 4) (c % 4) (32 + a % 33) (3 + b % 4) (4 + c % 4)) ⟨⟨⟨⟨⟨⟨⟨trivial, fun m0 => call58 _ _ _ _ rfl⟩, add_ok (by omega) (by omega)⟩, fun m0 => call58 _ _ _ _ rfl⟩, add_ok (by omega) (by omega)⟩, fun m0 => call58 _ _ _ _ rfl⟩, add_ok (by omega) (by omega)⟩, ?_⟩
  simp [selfB]

theorem geom_right (a b c : Int) : rightB (32 + a % 33) (3 + b % 4) (4 + c % 4) = true := by
  have h1 := Int.emod_nonneg a (show (33 : Int) ≠ 0 by omega)
  have h2 := Int.emod_lt_of_pos a (show (0 : Int) < 33 by omega)
  have h3 := Int.emod_nonneg b (show (4 : Int) ≠ 0 by omega)
  have h4 := Int.emod_lt_of_pos b (show (0 : Int) < 4 by omega)
  have h5 := Int.emod_nonneg c (show (4 : Int) ≠ 0 by omega)
  have h6 := Int.emod_lt_of_pos c (show (0 : Int) < 4 by omega)
  rw [right_iff]
  omega
end Go.Proofs.YthnjfgjbgblciaaGreatDoor
