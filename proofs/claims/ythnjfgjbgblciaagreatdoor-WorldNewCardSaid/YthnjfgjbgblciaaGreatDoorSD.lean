import Derived.Test.YthnjfgjbgblciaaGreatDoorSB
import Derived.Test.YthnjfgjbgblciaaGreatDoorSC
import Derived.Test.YthnjfgjbgblciaaGreatDoorAmAlive
import Derived.Test.YthnjfgjbgblciaaGreatDoorAmStart
import Derived.Test.YthnjfgjbgblciaaGreatDoorGF
/-
  ref.Fill of the blank byte and alive, answered at once.
-/
namespace Go.Proofs.YthnjfgjbgblciaaGreatDoor
open Go Go.Am Go.RowKit

/-- The blank byte to fill with, and how often. -/
noncomputable def fillN (args : List Value) : Option Nat := match args with | [.int .u8 (.ofNat b), .int .i64 (.ofNat c)] => bif Nat.beq b 255 && Nat.ble c 19000 then some c else none | _ => none
theorem fillN_some {args : List Value} {c : Nat} (h : fillN args = some c) : args = [.int .u8 (Int.ofNat 255), iv c] ∧ c ≤ 19000 := by
  unfold fillN at h
  split at h
  · rename_i b c'
    cases hb : (Nat.beq b 255 && Nat.ble c' 19000) with
    | false => rw [hb] at h; cases h
    | true =>
      rw [hb] at h
      cases h
      simp only [Bool.and_eq_true] at hb
      have h1 := Nat.eq_of_beq_eq_true hb.1
      subst h1
      exact ⟨rfl, Nat.le_of_ble_eq_true hb.2⟩
  · cases h

noncomputable def tablesB (m : Mem) : Bool := rowIs (m.t.get 0) rowFirst 305 515 && rowIs (m.t.get 1) rowAcc 308 67

noncomputable def prim4 (f : FuncId) (args : List Value) (m : Mem) : Option (Value × Mem) :=
  bif Nat.beq f 28 then (match fillN args with | some c => some (.string ⟨⟨List.replicate c 255⟩⟩, m) | none => none)
  else bif Nat.beq f 22 then (match args with | [] => bif tablesB m then some (.bool true, m) else none | _ => none)
  else prim3 f args m
noncomputable def cfg4 : Cfg := { cfg with prim := prim4 }

theorem tr0_rows (i : Nat) (o : AObj) (h : tr0.get i = some o) : i < Tryz.prog.globals.size ∧ ∃ cs t fz, o = .row cs t fz ∧ allL constOk cs = true := by
  rw [gsize]
  rcases tr0_get i o h with ⟨rfl, rfl⟩ | ⟨rfl, rfl⟩
  · exact ⟨by decide, _, _, _, rfl, by kernel_rfl⟩
  · exact ⟨by decide, _, _, _, rfl, by kernel_rfl⟩

theorem primOk4 : PrimOk Tryz.prog cfg4 := by
  intro f args m v m' h r w args' hm hr
  replace h : prim4 f args m = some (v, m') := h
  unfold prim4 at h
  cases h1 : Nat.beq f 28 with
  | true =>
    rw [h1, cond_true] at h
    cases hg : fillN args with
    | none => rw [hg] at h; cases h
    | some c =>
      rw [hg] at h
      cases h
      obtain ⟨ha, hc⟩ := fillN_some hg
      subst ha
      have hf := Nat.eq_of_beq_eq_true h1
      subst hf
      cases c with
      | zero =>
        obtain ⟨m1, k1⟩ := fill_zero (Int.ofNat 255)
        exact pure_call pgood flatOk3 primOk3 plans3 gsize0 k1 rfl rfl hm hr
      | succ c =>
        obtain ⟨m1, k1⟩ := fill_pos 255 (c + 1) (by omega) (by omega)
        exact pure_call pgood flatOk3 primOk3 plans3 gsize0 k1 rfl rfl hm hr
  | false =>
    rw [h1, cond_false] at h
    cases h2 : Nat.beq f 22 with
    | true =>
      rw [h2, cond_true] at h
      cases args with
      | cons => cases h
      | nil =>
        simp only at h
        cases ht : tablesB m with
        | false => rw [ht] at h; cases h
        | true =>
          rw [ht] at h
          cases h
          have hf := Nat.eq_of_beq_eq_true h2
          subst hf
          unfold tablesB at ht
          rw [Bool.and_eq_true] at ht
          refine true_pure pgood flatOk primOk plans alive_run tr0_ro (by rw [gsize]; exact Nat.le_refl _) tr0_rows hm ?_ hr
          intro i o hi
          rcases tr0_get i o hi with ⟨rfl, rfl⟩ | ⟨rfl, rfl⟩
          · exact rowIs_ok ht.1
          · exact rowIs_ok ht.2
    | false =>
      rw [h2, cond_false] at h
      exact primOk3 f args m v m' h r w args' hm hr
theorem plans4 : AllPlans Tryz.prog cfg4 := allPlans_congr (C := cfg0) rfl (allPlans_of plansB_ok)
theorem flatOk4 : ∀ t, cfg4.flats.contains t = true → FlatOk Tryz.prog t := flatOk0
end Go.Proofs.YthnjfgjbgblciaaGreatDoor
/-
  WorldNew: the told runs. (printed by gen_new.py)
-/
namespace Go.Proofs.YthnjfgjbgblciaaGreatDoor
open Go Go.Am
noncomputable def geoV (a b c : Int) : Value := .agg #[.int .i64 a, .int .i64 b, .int .i64 c]
noncomputable def strV (bs : List UInt8) : Value := .string ⟨⟨bs⟩⟩
noncomputable def gtrB (x y : Nat) : Option Value := binR Tryz.prog cfg.flats .gtr 3 (iv x) (iv y)
noncomputable def subB (x y : Nat) : Option Value := binR Tryz.prog cfg.flats .sub 3 (iv x) (iv y)
noncomputable def catB (x y : List UInt8) : Option Value := binR Tryz.prog cfg.flats .add 9 (strV x) (strV y)
noncomputable def eqlB (x y : List UInt8) : Option Value := binR Tryz.prog cfg.flats .eql 9 (strV x) (strV y)

theorem new_main (a b c _p _q _r : Int) (im : List UInt8) (N D : Nat) (rest bs : List UInt8) : saidO (oCall Tryz.prog cfg4 30000 4 [geoV a b c, strV im, .bool false] ⟨tr0, 20⟩
   ⟨17, [(.all (.bool true), 9), (.all (iv N), 1), (.bin (.bool false), 4), (.all (iv N), 2), (.bin (iv D), 0), (.all (strV rest), 0), (.bin (strV bs), 30), (.all (.bool true), 9), (.all (iv N), 1), (.bin (.bool false), 88), (.str bs, 7), (.all (iv N), 5), (.bin (iv D), 1), (.all (strV rest), 1), (.bin (strV bs), 1), (.bin (.bool true), 50), (.bit true, 1000)]⟩ True) =
  some (.bool true, (((((((((((((((((True ∧ (∀ m0, aCall Tryz.prog cfg4 29997 87 [geoV a b c] m0 = some (.bool true, m0))) ∧ (∀ m0, aCall Tryz.prog cfg4 29997 88 [geoV a b c] m0 = some (iv N, m0))) ∧ gtrB im.length N = some (.bool false)) ∧ (∀ m0, aCall Tryz.prog cfg4 29997 88 [geoV a b c] m0 = some (iv N, m0))) ∧ subB N im.length = some (iv D)) ∧ (∀ m0, aCall Tryz.prog cfg4 29997 89 [strV [255], iv D] m0 = some (strV rest, m0))) ∧ catB im rest = some (strV bs)) ∧ (∀ m0, aCall Tryz.prog cfg4 29999 23 [geoV a b c] m0 = some (.bool true, m0))) ∧ (∀ m0, aCall Tryz.prog cfg4 29999 24 [geoV a b c] m0 = some (iv N, m0))) ∧ gtrB im.length N = some (.bool false)) ∧ (0 + bs.length ≤ (cellsOfBytes bs).length ∧ bytesOfCells (((cellsOfBytes bs).drop 0).take bs.length) = some bs)) ∧ (∀ m0, aCall Tryz.prog cfg4 29999 24 [geoV a b c] m0 = some (iv N, m0))) ∧ subB N im.length = some (iv D)) ∧ (∀ m0, aCall Tryz.prog cfg4 29999 28 [.int .u8 255, iv D] m0 = some (strV rest, m0))) ∧ catB im rest = some (strV bs)) ∧ eqlB bs bs = some (.bool true)) ∧ (sameV (geoV a b c) (geoV a b c) && (sameV (iv im.length) (iv im.length) && (sameV (iv im.length) (iv im.length) && true))) = true)) := by kernel_rfl

theorem new_bad (a b c _p _q _r : Int) (im : List UInt8) (_N _D : Nat) (_rest _bs : List UInt8) : saidO (oCall Tryz.prog cfg4 30000 4 [geoV a b c, strV im, .bool false] ⟨tr0, 20⟩
   ⟨17, [(.all (.bool false), 31), (.all (.bool false), 1000)]⟩ True) =
  some (.bool true, ((True ∧ (∀ m0, aCall Tryz.prog cfg4 29997 87 [geoV a b c] m0 = some (.bool false, m0))) ∧ (∀ m0, aCall Tryz.prog cfg4 29999 23 [geoV a b c] m0 = some (.bool false, m0)))) := by kernel_rfl

theorem new_long (a b c _p _q _r : Int) (im : List UInt8) (N _D : Nat) (_rest _bs : List UInt8) : saidO (oCall Tryz.prog cfg4 30000 4 [geoV a b c, strV im, .bool false] ⟨tr0, 20⟩
   ⟨17, [(.all (.bool true), 9), (.all (iv N), 1), (.bin (.bool true), 24), (.all (.bool true), 9), (.all (iv N), 1), (.bin (.bool true), 1000)]⟩ True) =
  some (.bool true, ((((((True ∧ (∀ m0, aCall Tryz.prog cfg4 29997 87 [geoV a b c] m0 = some (.bool true, m0))) ∧ (∀ m0, aCall Tryz.prog cfg4 29997 88 [geoV a b c] m0 = some (iv N, m0))) ∧ gtrB im.length N = some (.bool true)) ∧ (∀ m0, aCall Tryz.prog cfg4 29999 23 [geoV a b c] m0 = some (.bool true, m0))) ∧ (∀ m0, aCall Tryz.prog cfg4 29999 24 [geoV a b c] m0 = some (iv N, m0))) ∧ gtrB im.length N = some (.bool true))) := by kernel_rfl

theorem new_mainT (a b c p q r : Int) (im : List UInt8) (N D : Nat) (rest bs : List UInt8) : saidO (oCall Tryz.prog cfg4 30000 4 [geoV p q r, strV im, .bool true] ⟨tr0, 20⟩
   ⟨5, [(.all (geoV a b c), 14), (.all (.bool true), 9), (.all (iv N), 1), (.bin (.bool false), 4), (.all (iv N), 2), (.bin (iv D), 0), (.all (strV rest), 0), (.bin (strV bs), 30), (.all (.bool true), 9), (.all (iv N), 1), (.bin (.bool false), 88), (.str bs, 7), (.all (iv N), 5), (.bin (iv D), 1), (.all (strV rest), 1), (.bin (strV bs), 1), (.bin (.bool true), 50), (.bit true, 1000)]⟩ True) =
  some (.bool true, ((((((((((((((((((True ∧ (∀ m0, aCall Tryz.prog cfg4 29999 20 [geoV p q r] m0 = some (geoV a b c, m0))) ∧ (∀ m0, aCall Tryz.prog cfg4 29997 87 [geoV a b c] m0 = some (.bool true, m0))) ∧ (∀ m0, aCall Tryz.prog cfg4 29997 88 [geoV a b c] m0 = some (iv N, m0))) ∧ gtrB im.length N = some (.bool false)) ∧ (∀ m0, aCall Tryz.prog cfg4 29997 88 [geoV a b c] m0 = some (iv N, m0))) ∧ subB N im.length = some (iv D)) ∧ (∀ m0, aCall Tryz.prog cfg4 29997 89 [strV [255], iv D] m0 = some (strV rest, m0))) ∧ catB im rest = some (strV bs)) ∧ (∀ m0, aCall Tryz.prog cfg4 29999 23 [geoV a b c] m0 = some (.bool true, m0))) ∧ (∀ m0, aCall Tryz.prog cfg4 29999 24 [geoV a b c] m0 = some (iv N, m0))) ∧ gtrB im.length N = some (.bool false)) ∧ (0 + bs.length ≤ (cellsOfBytes bs).length ∧ bytesOfCells (((cellsOfBytes bs).drop 0).take bs.length) = some bs)) ∧ (∀ m0, aCall Tryz.prog cfg4 29999 24 [geoV a b c] m0 = some (iv N, m0))) ∧ subB N im.length = some (iv D)) ∧ (∀ m0, aCall Tryz.prog cfg4 29999 28 [.int .u8 255, iv D] m0 = some (strV rest, m0))) ∧ catB im rest = some (strV bs)) ∧ eqlB bs bs = some (.bool true)) ∧ (sameV (geoV a b c) (geoV a b c) && (sameV (iv im.length) (iv im.length) && (sameV (iv im.length) (iv im.length) && true))) = true)) := by kernel_rfl

theorem new_longT (a b c p q r : Int) (im : List UInt8) (N _D : Nat) (_rest _bs : List UInt8) : saidO (oCall Tryz.prog cfg4 30000 4 [geoV p q r, strV im, .bool true] ⟨tr0, 20⟩
   ⟨5, [(.all (geoV a b c), 14), (.all (.bool true), 9), (.all (iv N), 1), (.bin (.bool true), 24), (.all (.bool true), 9), (.all (iv N), 1), (.bin (.bool true), 1000)]⟩ True) =
  some (.bool true, (((((((True ∧ (∀ m0, aCall Tryz.prog cfg4 29999 20 [geoV p q r] m0 = some (geoV a b c, m0))) ∧ (∀ m0, aCall Tryz.prog cfg4 29997 87 [geoV a b c] m0 = some (.bool true, m0))) ∧ (∀ m0, aCall Tryz.prog cfg4 29997 88 [geoV a b c] m0 = some (iv N, m0))) ∧ gtrB im.length N = some (.bool true)) ∧ (∀ m0, aCall Tryz.prog cfg4 29999 23 [geoV a b c] m0 = some (.bool true, m0))) ∧ (∀ m0, aCall Tryz.prog cfg4 29999 24 [geoV a b c] m0 = some (iv N, m0))) ∧ gtrB im.length N = some (.bool true))) := by kernel_rfl

end Go.Proofs.YthnjfgjbgblciaaGreatDoor
/-
  WorldNew answers true, whatever it is given.
-/
namespace Go.Proofs.YthnjfgjbgblciaaGreatDoor
open Go Go.Am

theorem p87 (k : Nat) (a b c : Int) (m : Mem) : aCall Tryz.prog cfg4 (k + 1) 87 [geoV a b c] m = some (.bool (rightB a b c), m) := rfl
theorem p23 (k : Nat) (a b c : Int) (m : Mem) : aCall Tryz.prog cfg4 (k + 1) 23 [geoV a b c] m = some (.bool (rightB a b c), m) := rfl
theorem p88 (k : Nat) (a b c : Int) (m : Mem) : aCall Tryz.prog cfg4 (k + 1) 88 [geoV a b c] m = some (.int .i64 (bytesZ a b c), m) := rfl
theorem p24 (k : Nat) (a b c : Int) (m : Mem) (h : rightB a b c = true) : aCall Tryz.prog cfg4 (k + 1) 24 [geoV a b c] m = some (.int .i64 (a * b * c), m) := by
  have hp : prim4 24 [geoV a b c] m = (bif rightB a b c then some (.int .i64 (a * b * c), m) else none) := rfl
  show (match prim4 24 [geoV a b c] m with | some r => some r | none => aBody Tryz.prog cfg4 (aCall Tryz.prog cfg4 k) k 24 [geoV a b c] m) = _
  rw [hp, h]; rfl
theorem p20 (k : Nat) (a b c : Int) (m : Mem) : aCall Tryz.prog cfg4 (k + 1) 20 [geoV a b c] m = some (geoV (32 + a % 33) (3 + b % 4) (4 + c % 4), m) := rfl
theorem p89 (k n : Nat) (m : Mem) (h : n ≤ 1000000) : aCall Tryz.prog cfg4 (k + 1) 89 [strV [255], iv n] m = some (strV (List.replicate n 255), m) := by
  have hp : prim4 89 [strV [255], iv n] m = (match (bif Nat.beq 255 255 && Nat.ble n 1000000 then some n else none) with | some c => some (.string ⟨⟨List.replicate c 255⟩⟩, m) | none => none) := rfl
  show (match prim4 89 [strV [255], iv n] m with | some r => some r | none => aBody Tryz.prog cfg4 (aCall Tryz.prog cfg4 k) k 89 [strV [255], iv n] m) = _
  rw [hp, Nat.ble_eq_true_of_le h]; rfl
theorem p28 (k n : Nat) (m : Mem) (h : n ≤ 19000) : aCall Tryz.prog cfg4 (k + 1) 28 [.int .u8 255, iv n] m = some (strV (List.replicate n 255), m) := by
  have hp : prim4 28 [.int .u8 255, iv n] m = (match (bif Nat.beq 255 255 && Nat.ble n 19000 then some n else none) with | some c => some (.string ⟨⟨List.replicate c 255⟩⟩, m) | none => none) := rfl
  show (match prim4 28 [.int .u8 255, iv n] m with | some r => some r | none => aBody Tryz.prog cfg4 (aCall Tryz.prog cfg4 k) k 28 [.int .u8 255, iv n] m) = _
  rw [hp, Nat.ble_eq_true_of_le h]; rfl

theorem gtr_f {x y : Nat} (h : x ≤ y) : gtrB x y = some (.bool false) := by simp [gtrB, iv, binR, intR]; omega
theorem gtr_t {x y : Nat} (h : y < x) : gtrB x y = some (.bool true) := by simp [gtrB, iv, binR, intR]; omega
theorem sub_ok {x y : Nat} (h : y ≤ x) (hx : x < 1000000) : subB x y = some (iv (x - y)) := by
  simp only [subB, iv, binR, intR, if_true]
  have e : Int.ofNat x - Int.ofNat y = Int.ofNat (x - y) := by simp only [Int.ofNat_eq_natCast]; omega
  rw [e, wrap_i64 (by simp only [Int.ofNat_eq_natCast]; omega) (by simp only [Int.ofNat_eq_natCast]; omega)]
theorem cat_ok {x y : List UInt8} (h : x.length + y.length ≤ 9223372036854775807) : catB x y = some (strV (x ++ y)) := by
  show (if x.length + y.length ≤ 9223372036854775807 then some (Value.string ⟨⟨x ++ y⟩⟩) else none) = _
  rw [if_pos h]; rfl
theorem eql_ok (x : List UInt8) : eqlB x x = some (.bool true) := by simp [eqlB, strV, binR, strR]
theorem bytes_back : ∀ l : List UInt8, bytesOfCells (cellsOfBytes l) = some l
  | [] => rfl
  | b :: l => by
    show (bytesOfCells (cellsOfBytes l)).map (fun r => UInt8.ofNat (Int.toNat (b.toNat : Int)) :: r) = _
    rw [bytes_back l, Int.toNat_natCast]
    simp
theorem img_ok (bs : List UInt8) : 0 + bs.length ≤ (cellsOfBytes bs).length ∧ bytesOfCells (((cellsOfBytes bs).drop 0).take bs.length) = some bs := by
  have e : (cellsOfBytes bs).length = bs.length := by simp [cellsOfBytes]
  refine ⟨by omega, ?_⟩
  rw [List.drop_zero, ← e, List.take_length, bytes_back]
theorem same_iv (n : Nat) : sameV (iv n) (iv n) = true := by simp [sameV, same0, iv]
theorem same_geo (a b c : Int) : sameV (geoV a b c) (geoV a b c) = true := by simp [sameV, sameL, same0, geoV]

theorem new_false (a b c : Int) (im : List UInt8) : ∃ m', aCall Tryz.prog cfg4 30000 4 [geoV a b c, strV im, .bool false] ⟨tr0, 20⟩ = some (.bool true, m') := by
  cases hr : rightB a b c with
  | false =>
    exact told_call (new_bad a b c 0 0 0 im 0 0 [] []) ⟨⟨trivial, fun m0 => by rw [p87, hr]⟩, fun m0 => by rw [p23, hr]⟩
  | true =>
    obtain ⟨_, _, h1, h2⟩ := right_mul hr
    obtain ⟨N, hN⟩ : ∃ N : Nat, a * b * c = Int.ofNat N := ⟨(a * b * c).toNat, by simp only [Int.ofNat_eq_natCast]; omega⟩
    have hb : bytesZ a b c = Int.ofNat N := by rw [bytesZ, if_pos hr, hN]
    have hN1 : N ≤ 15360 := by rw [hN] at h2; simp only [Int.ofNat_eq_natCast] at h2; omega
    have e87 : ∀ m0, aCall Tryz.prog cfg4 29997 87 [geoV a b c] m0 = some (.bool true, m0) := fun m0 => by rw [p87, hr]
    have e88 : ∀ m0, aCall Tryz.prog cfg4 29997 88 [geoV a b c] m0 = some (iv N, m0) := fun m0 => by rw [p88, hb]; rfl
    have e23 : ∀ m0, aCall Tryz.prog cfg4 29999 23 [geoV a b c] m0 = some (.bool true, m0) := fun m0 => by rw [p23, hr]
    have e24 : ∀ m0, aCall Tryz.prog cfg4 29999 24 [geoV a b c] m0 = some (iv N, m0) := fun m0 => by rw [p24 _ _ _ _ _ hr, hN]; rfl
    by_cases hl : im.length ≤ N
    · have e5 := sub_ok hl (show N < 1000000 by omega)
      have e89 : ∀ m0, aCall Tryz.prog cfg4 29997 89 [strV [255], iv (N - im.length)] m0 = some (strV (List.replicate (N - im.length) 255), m0) := fun m0 => p89 _ _ _ (by omega)
      have e28 : ∀ m0, aCall Tryz.prog cfg4 29999 28 [.int .u8 255, iv (N - im.length)] m0 = some (strV (List.replicate (N - im.length) 255), m0) := fun m0 => p28 _ _ _ (by omega)
      have e7 : catB im (List.replicate (N - im.length) 255) = _ := cat_ok (by rw [List.length_replicate]; omega)
      exact told_call (new_main a b c 0 0 0 im N (N - im.length) _ _) ⟨⟨⟨⟨⟨⟨⟨⟨⟨⟨⟨⟨⟨⟨⟨⟨⟨trivial, e87⟩, e88⟩, gtr_f hl⟩, e88⟩, e5⟩, e89⟩, e7⟩, e23⟩, e24⟩, gtr_f hl⟩, img_ok _⟩, e24⟩, e5⟩, e28⟩, e7⟩, eql_ok _⟩, by rw [same_geo, same_iv]; rfl⟩
    · have hl' : N < im.length := by omega
      exact told_call (new_long a b c 0 0 0 im N 0 [] []) ⟨⟨⟨⟨⟨⟨trivial, e87⟩, e88⟩, gtr_t hl'⟩, e23⟩, e24⟩, gtr_t hl'⟩

theorem new_trueT (p q r : Int) (im : List UInt8) : ∃ m', aCall Tryz.prog cfg4 30000 4 [geoV p q r, strV im, .bool true] ⟨tr0, 20⟩ = some (.bool true, m') := by
  obtain ⟨a, ha⟩ : ∃ a, a = 32 + p % 33 := ⟨_, rfl⟩
  obtain ⟨b, hb'⟩ : ∃ b, b = 3 + q % 4 := ⟨_, rfl⟩
  obtain ⟨c, hc⟩ : ∃ c, c = 4 + r % 4 := ⟨_, rfl⟩
  have hr : rightB a b c = true := by rw [ha, hb', hc]; exact geom_right p q r
  have e20 : ∀ m0, aCall Tryz.prog cfg4 29999 20 [geoV p q r] m0 = some (geoV a b c, m0) := fun m0 => by rw [p20, ha, hb', hc]
  obtain ⟨_, _, h1, h2⟩ := right_mul hr
  obtain ⟨N, hN⟩ : ∃ N : Nat, a * b * c = Int.ofNat N := ⟨(a * b * c).toNat, by simp only [Int.ofNat_eq_natCast]; omega⟩
  have hb : bytesZ a b c = Int.ofNat N := by rw [bytesZ, if_pos hr, hN]
  have hN1 : N ≤ 15360 := by rw [hN] at h2; simp only [Int.ofNat_eq_natCast] at h2; omega
  have e87 : ∀ m0, aCall Tryz.prog cfg4 29997 87 [geoV a b c] m0 = some (.bool true, m0) := fun m0 => by rw [p87, hr]
  have e88 : ∀ m0, aCall Tryz.prog cfg4 29997 88 [geoV a b c] m0 = some (iv N, m0) := fun m0 => by rw [p88, hb]; rfl
  have e23 : ∀ m0, aCall Tryz.prog cfg4 29999 23 [geoV a b c] m0 = some (.bool true, m0) := fun m0 => by rw [p23, hr]
  have e24 : ∀ m0, aCall Tryz.prog cfg4 29999 24 [geoV a b c] m0 = some (iv N, m0) := fun m0 => by rw [p24 _ _ _ _ _ hr, hN]; rfl
  by_cases hl : im.length ≤ N
  · have e5 := sub_ok hl (show N < 1000000 by omega)
    have e89 : ∀ m0, aCall Tryz.prog cfg4 29997 89 [strV [255], iv (N - im.length)] m0 = some (strV (List.replicate (N - im.length) 255), m0) := fun m0 => p89 _ _ _ (by omega)
    have e28 : ∀ m0, aCall Tryz.prog cfg4 29999 28 [.int .u8 255, iv (N - im.length)] m0 = some (strV (List.replicate (N - im.length) 255), m0) := fun m0 => p28 _ _ _ (by omega)
    have e7 : catB im (List.replicate (N - im.length) 255) = _ := cat_ok (by rw [List.length_replicate]; omega)
    exact told_call (new_mainT a b c p q r im N (N - im.length) _ _) ⟨⟨⟨⟨⟨⟨⟨⟨⟨⟨⟨⟨⟨⟨⟨⟨⟨⟨trivial, e20⟩, e87⟩, e88⟩, gtr_f hl⟩, e88⟩, e5⟩, e89⟩, e7⟩, e23⟩, e24⟩, gtr_f hl⟩, img_ok _⟩, e24⟩, e5⟩, e28⟩, e7⟩, eql_ok _⟩, by rw [same_geo, same_iv]; rfl⟩
  · have hl' : N < im.length := by omega
    exact told_call (new_longT a b c p q r im N 0 [] []) ⟨⟨⟨⟨⟨⟨⟨trivial, e20⟩, e87⟩, e88⟩, gtr_t hl'⟩, e23⟩, e24⟩, gtr_t hl'⟩

theorem new_all (a b c : Int) (im : ByteArray) (small : Bool) : ∃ m', aCall Tryz.prog cfg4 30000 4 [geoV a b c, .string im, .bool small] ⟨tr0, 20⟩ = some (.bool true, m') := by
  obtain ⟨⟨l⟩⟩ := im
  cases small with
  | true => exact new_trueT a b c l
  | false => exact new_false a b c l
end Go.Proofs.YthnjfgjbgblciaaGreatDoor
