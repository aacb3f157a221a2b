import Derived.Test.YthnjfgjbgblciaaGreatDoorSB
/-
  ref.Fill: so many bytes of one kind.
-/
namespace Go.Proofs.YthnjfgjbgblciaaGreatDoor
open Go Go.Am

noncomputable def firstLoop : Code → Option Code
  | .loop c => some c
  | .seq a b => (match firstLoop a with | some c => some c | none => firstLoop b)
  | .block _ c => firstLoop c
  | _ => none
noncomputable def fillBody : Code := match Tryz.f28.body with | some c => (firstLoop c).getD .skip | none => .skip

noncomputable def setsL : List (Nat × Value) → Rs → Rs
  | [], rs => rs
  | (d, v) :: l, rs => setsL l (rs.set d (some v))

noncomputable def sl (k : Nat) : Value := .slice (some ⟨3, 0, some 1⟩) k k
noncomputable def iv (i : Nat) : Value := .int .i64 (Int.ofNat i)
noncomputable def fill0 (b : Int) (k : Nat) : List (Nat × Value) := [(0, .int .u8 b), (1, iv k), (4, .string ⟨#[]⟩), (5, sl k), (7, iv k), (8, iv k), (9, sl k)]
noncomputable def fillS0 (b : Int) (k : Nat) : Rs := setsL (fill0 b k ++ [(6, .int .i64 0)]) .nil
noncomputable def fillS (b : Int) (k j i : Nat) : Rs := setsL (fill0 b k ++ [(6, iv i), (10, iv j), (11, sl k), (12, iv k), (13, .bool true), (14, iv j), (15, iv i), (16, sl k), (17, iv j), (18, .int .u8 b), (19, .pointer (some ⟨3, Nat.add 0 (Nat.mul j 1), none⟩))]) .nil
noncomputable def memC (cs : List Value) : Mem := ⟨Tri.nil.set 3 (some (.row cs 5 0)), 4⟩

noncomputable def saidC (r : Option (AExit × SO)) : Option (AExit × Nat × Rs × Mem × Prop) := r.map fun x => (x.1, x.2.n, x.2.rs, x.2.m, x.2.p)
noncomputable def fillO (s : SO) : Option (AExit × SO) := oCode Tryz.prog cfg3 (aCall Tryz.prog cfg3 19999) (oCall Tryz.prog cfg3 19999) (fun body s => oLoop body 19999 s) (fun body s => aLoop body 19999 s) 28 fillBody s

noncomputable def lssB (x y : Nat) : Option Value := binR Tryz.prog cfg.flats .lss 3 (iv x) (iv y)
noncomputable def incB (x : Nat) : Option Value := binR Tryz.prog cfg.flats .add 3 (iv x) (.int .i64 1)

/-- A round. -/
theorem fill_round (b : Int) (k h j i : Nat) (cs cs' : List Value) : saidC (fillO ⟨22, fillS b k h j, memC cs, ⟨3, [(.bin (.bool true), 4), (.idx, 0), (.sto cs', 1), (.bin (iv i), 1000)]⟩, True⟩) =
    some (.normal, 22, fillS b k j i, memC cs', ((((True ∧ lssB j k = some (.bool true)) ∧ j < k) ∧ (setO (.int .u8 b) cs (Nat.add 0 (Nat.mul j 1)) = some cs' ∧ 0 / 2 ≤ Nat.add 0 (Nat.mul j 1))) ∧ incB j = some (iv i))) := by kernel_rfl
theorem fill_first (b : Int) (k : Nat) (cs cs' : List Value) : saidC (fillO ⟨22, fillS0 b k, memC cs, ⟨3, [(.bin (.bool true), 4), (.idx, 0), (.sto cs', 1), (.bin (iv 1), 1000)]⟩, True⟩) =
    some (.normal, 22, fillS b k 0 1, memC cs', ((((True ∧ lssB 0 k = some (.bool true)) ∧ 0 < k) ∧ (setO (.int .u8 b) cs (Nat.add 0 (Nat.mul 0 1)) = some cs' ∧ 0 / 2 ≤ Nat.add 0 (Nat.mul 0 1))) ∧ incB 0 = some (iv 1))) := by kernel_rfl

noncomputable def fillE (b : Int) (k j : Nat) : Rs := setsL (fill0 b k ++ [(6, iv k), (10, iv k), (11, sl k), (12, iv k), (13, .bool false), (14, iv j), (15, iv k), (16, sl k), (17, iv j), (18, .int .u8 b), (19, .pointer (some ⟨3, Nat.add 0 (Nat.mul j 1), none⟩))]) .nil
theorem fill_last (b : Int) (k j : Nat) (cs : List Value) : saidC (fillO ⟨22, fillS b k j k, memC cs, ⟨3, [(.bin (.bool false), 1000)]⟩, True⟩) =
    some (.exit 0, 22, fillE b k j, memC cs, (True ∧ lssB k k = some (.bool false))) := by kernel_rfl

noncomputable def fillA (s : St) : Option (AExit × St) := aCode Tryz.prog cfg3 (aCall Tryz.prog cfg3 19999) (fun body s => aLoop body 19999 s) 28 fillBody s

theorem told_code {n : Nat} {rs : Rs} {m : Mem} {q : Qs} {e : AExit} {rs' : Rs} {m' : Mem} {p : Prop} {n' : Nat} (h : saidC (fillO ⟨n, rs, m, q, True⟩) = some (e, n', rs', m', p)) (hp : p) : fillA ⟨n, rs, m⟩ = some (e, ⟨n', rs', m'⟩) := by
  unfold saidC at h
  obtain ⟨⟨e1, s1⟩, h1, h2⟩ := Option.map_eq_some_iff.1 h
  cases h2
  obtain ⟨_, h3⟩ := oCode_sound (oCall_sound Tryz.prog cfg3 19999) 19999 28 fillBody _ _ _ h1 hp
  exact h3

/-- So far as it is filled. -/
noncomputable def part (b : Int) (k j : Nat) : List Value := List.replicate j (.int .u8 b) ++ List.replicate (k - j) (.int .u8 0)
theorem part_set (b : Int) (k j : Nat) (h : j < k) : setO (.int .u8 b) (part b k j) (Nat.add 0 (Nat.mul j 1)) = some (part b k (j + 1)) := by
  have e : Nat.add 0 (Nat.mul j 1) = j := by show 0 + j * 1 = j; omega
  rw [e, setO_eq, if_pos (by simp [part]; omega)]
  congr 1
  obtain ⟨d, rfl⟩ : ∃ d, k = j + (d + 1) := ⟨k - j - 1, by omega⟩
  simp only [splice, part]
  rw [List.take_append_of_le_length (by simp), List.take_of_length_le (by simp), List.drop_append]
  simp only [List.length_replicate, List.length_singleton]
  rw [List.drop_eq_nil_of_le (by simp)]
  simp only [List.nil_append, show j + 1 - j = 1 by omega, show j + (d + 1) - j = d + 1 by omega, show j + (d + 1) - (j + 1) = d by omega, List.drop_replicate, Nat.add_sub_cancel]
  rw [List.replicate_succ' (n := j)]
theorem lss_t {x y : Nat} (h : x < y) : lssB x y = some (.bool true) := by
  simp [lssB, iv, binR, intR]; omega
theorem lss_f {x y : Nat} (h : y ≤ x) : lssB x y = some (.bool false) := by
  simp [lssB, iv, binR, intR]; omega
theorem inc_ok {x : Nat} (h : x < 1000000) : incB x = some (iv (x + 1)) := by
  simp only [incB, iv, binR, intR, if_true]
  rw [wrap_i64 (by show _ ≤ ((x : Int)) + 1; omega) (by show ((x : Int)) + 1 < _; omega)]
  rfl
theorem fill_loop (b : Int) (k : Nat) (hk : k < 1000000) : ∀ (d j : Nat), j + 1 + d = k → ∀ f, d + 2 ≤ f → aLoop fillA f ⟨22, fillS b k j (j + 1), memC (part b k (j + 1))⟩ = some (.exit 0, ⟨22, fillE b k (k - 1), memC (part b k k)⟩)
  | 0, j, h, f + 1, hf => by
    have e : j + 1 = k := by omega
    subst e
    have h1 := told_code (fill_last b (j + 1) j (part b (j + 1) (j + 1))) ⟨trivial, lss_f (Nat.le_refl _)⟩
    show thenR (aLoop fillA f) (fillA ⟨22, fillS b (j + 1) j (j + 1), memC (part b (j + 1) (j + 1))⟩) = _
    rw [h1]; rfl
  | d + 1, j, h, f + 1, hf => by
    have h1 := told_code (fill_round b k j (j + 1) (j + 2) (part b k (j + 1)) (part b k (j + 2))) ⟨⟨⟨⟨trivial, lss_t (by omega)⟩, by omega⟩, part_set b k (j + 1) (by omega), Nat.zero_le _⟩, inc_ok (by omega)⟩
    show thenR (aLoop fillA f) (fillA ⟨22, fillS b k j (j + 1), memC (part b k (j + 1))⟩) = _
    rw [h1]
    exact fill_loop b k hk d (j + 1) (by omega) f (by omega)

theorem aLoop_succ (run : Run) (k : Nat) (s : St) : aLoop run (k + 1) s = thenR (aLoop run k) (run s) := rfl

theorem fill_whole (b : Int) (k : Nat) (h0 : 0 < k) (hk : k < 1000000) : ∀ f, k + 2 ≤ f → aLoop fillA f ⟨22, fillS0 b k, memC (part b k 0)⟩ = some (.exit 0, ⟨22, fillE b k (k - 1), memC (part b k k)⟩)
  | 0, hf => by omega
  | f + 1, hf => by
    have h1 := told_code (fill_first b k (part b k 0) (part b k 1)) ⟨⟨⟨⟨trivial, lss_t h0⟩, h0⟩, part_set b k 0 h0, Nat.zero_le _⟩, inc_ok (by omega)⟩
    rw [aLoop_succ, h1]
    exact fill_loop b k hk (k - 1) 0 (by omega) f (by omega)
end Go.Proofs.YthnjfgjbgblciaaGreatDoor
/-
  ref.Fill, whole.
-/
namespace Go.Proofs.YthnjfgjbgblciaaGreatDoor
open Go Go.Am

theorem fill_call (b : Int) (k : Nat) (bs : List UInt8) : saidO (oCall Tryz.prog cfg3 20000 28 [.int .u8 b, iv k] ⟨.nil, 3⟩
   ⟨2, [(.opr (.val (iv k)), 0), (.opr (.alloc (.row (part b k 0) 5 0) (.slice (some ⟨0, 0, some 1⟩) k k)), 2), (.lop (.exit 0) (fillE b k (k - 1)) (memC (part b k k)), 1), (.str bs, 1000)]⟩ True) =
  some (.string ⟨⟨bs⟩⟩, ((((True ∧ builtinR Tryz.prog .nil .max #[3, 3] 3 [iv k, .int .i64 0] = some (.val (iv k)))
    ∧ makeSliceR Tryz.prog (setsL [(0, .int .u8 b), (1, iv k), (4, .string ⟨#[]⟩), (7, iv k), (8, iv k)] .nil) 124 (.tmp 8) (.tmp 8) = some (.alloc (.row (part b k 0) 5 0) (.slice (some ⟨0, 0, some 1⟩) k k)))
    ∧ aLoop fillA 19999 ⟨22, fillS0 b k, memC (part b k 0)⟩ = some (.exit 0, ⟨22, fillE b k (k - 1), memC (part b k k)⟩))
    ∧ (0 + k ≤ (part b k k).length ∧ bytesOfCells (((part b k k).drop 0).take k) = some bs))) := by kernel_rfl
end Go.Proofs.YthnjfgjbgblciaaGreatDoor
/-
  ref.Fill of the blank byte: what it answers.
-/
namespace Go.Proofs.YthnjfgjbgblciaaGreatDoor
open Go Go.Am

theorem fill_max (k : Nat) : builtinR Tryz.prog .nil .max #[3, 3] 3 [iv k, .int .i64 0] = some (.val (iv k)) := by
  show (minR false [iv k, .int .i64 0]).map OpR.val = _
  have h : ¬ ((k : Int) < 0) := by omega
  simp [minR, minL, iv, h]

noncomputable def fillR0 (b : Int) (k : Nat) : Rs := setsL [(0, .int .u8 b), (1, iv k), (4, .string ⟨#[]⟩), (7, iv k), (8, iv k)] .nil
theorem fillR0_8 (b : Int) (k : Nat) : eval Tryz.prog (fillR0 b k) (.tmp 8) = iv k := by kernel_rfl
theorem under124 : under Tryz.prog 124 = some (.slice 5) := by kernel_rfl
theorem bytes5 : bytesT Tryz.prog 5 = some 1 := by kernel_rfl
theorem zero5 : zeroT Tryz.prog 5 = some (.int .u8 0) := by kernel_rfl

theorem repCells_one (z : Value) (k : Nat) : repCells [z] k = List.replicate k z := by
  unfold repCells
  rw [List.length_singleton, Nat.mul_one]
  apply List.ext_getElem (by simp)
  intro i h1 h2
  simp [Nat.mod_one]

theorem fill_make (b : Int) (k : Nat) (hk : k < 1000000) : makeSliceR Tryz.prog (fillR0 b k) 124 (.tmp 8) (.tmp 8) = some (.alloc (.row (part b k 0) 5 0) (.slice (some ⟨0, 0, some 1⟩) k k)) := by
  unfold makeSliceR
  simp only [fillR0_8, under124, iv, bytes5, zero5]
  rw [if_pos (by refine ⟨?_, ?_, ?_, ?_⟩ <;> simp [roomy] <;> omega)]
  show some (OpR.alloc (.row (repCells [Value.int .u8 0] (Int.toNat (k : Int))) 5 0) (.slice (some ⟨0, 0, some 1⟩) (Int.toNat (k : Int)) (Int.toNat (k : Int)))) = _
  rw [Int.toNat_natCast, repCells_one]
  simp [part]

theorem bytes_rep (n : Nat) : ∀ k : Nat, bytesOfCells (List.replicate k (.int .u8 n)) = some (List.replicate k (UInt8.ofNat n))
  | 0 => rfl
  | k + 1 => by
    rw [List.replicate_succ, List.replicate_succ]
    show (bytesOfCells (List.replicate k (.int .u8 n))).map (fun r => UInt8.ofNat (Int.toNat (n : Int)) :: r) = _
    rw [bytes_rep n k, Int.toNat_natCast]
    rfl

theorem part_full (b : Int) (k : Nat) : part b k k = List.replicate k (.int .u8 b) := by simp [part]

theorem fill_pos (n k : Nat) (h0 : 0 < k) (hk : k < 19990) : ∃ m', aCall Tryz.prog cfg3 20000 28 [.int .u8 n, iv k] ⟨.nil, 3⟩ = some (.string ⟨⟨List.replicate k (UInt8.ofNat n)⟩⟩, m') := by
  refine told_call (fill_call n k (List.replicate k (UInt8.ofNat n))) ⟨⟨⟨⟨trivial, fill_max k⟩, fill_make n k (by omega)⟩, fill_whole n k h0 (by omega) 19999 (by omega)⟩, ?_, ?_⟩
  · simp [part_full]
  · rw [part_full, List.drop_zero, List.take_replicate, Nat.min_self, bytes_rep]
end Go.Proofs.YthnjfgjbgblciaaGreatDoor
namespace Go.Proofs.YthnjfgjbgblciaaGreatDoor
open Go Go.Am
noncomputable def isStrR (bs : ByteArray) (r : Option (Value × Mem)) : Bool := match r with | some (.string s, _) => (fun a b : List UInt8 => match a, b with | [], [] => true | _, _ => false) s.data.toList bs.data.toList | _ => false
theorem fill_zero0 (b : Int) : isStrR ⟨#[]⟩ (fCall Tryz.prog cfg3 20000 28 [.int .u8 b, .int .i64 (Int.ofNat 0)] ⟨.nil, 3⟩) = true := by kernel_rfl
theorem fill_zero (b : Int) : ∃ m', aCall Tryz.prog cfg3 20000 28 [.int .u8 b, .int .i64 (Int.ofNat 0)] ⟨.nil, 3⟩ = some (.string ⟨⟨[]⟩⟩, m') := by
  have h := fill_zero0 b
  rw [fCall_eq] at h
  generalize aCall Tryz.prog cfg3 20000 28 [.int .u8 b, .int .i64 (Int.ofNat 0)] ⟨.nil, 3⟩ = r at h ⊢
  unfold isStrR at h
  split at h
  · rename_i s m
    obtain ⟨⟨l⟩⟩ := s
    refine ⟨m, ?_⟩
    cases l with
    | nil => rfl
    | cons => cases h
  · cases h
end Go.Proofs.YthnjfgjbgblciaaGreatDoor
