import Derived.Shelf.Strings.Repeat
import Derived.Test.YthnjfgjbgblciaaGreatDoorProg
import Derived.Test.YthnjfgjbgblciaaGreatDoorSA
/-
  strings.Repeat at this seat: the kit's contract, laid in plain words by the kit's own tool (lay-plain.mjs); this excerpt alone.
-/
namespace Go.Proofs
def Tryz.lays105_ren : Go.Shelf.Ren := ⟨fun | 105 => 89 | 212 => 144 | 99 => 145 | 165 => 146 | 166 => 147 | 170 => 148 | 169 => 149 | 263 => 209 | 264 => 210 | 206 => 211 | 240 => 212 | 241 => 213 | 276 => 268 | 277 => 269 | n => n, fun | 9 => 9 | 3 => 3 | 4 => 4 | 20 => 20 | 0 => 0 | 46 => 261 | 109 => 262 | 5 => 5 | 72 => 266 | 76 => 269 | 51 => 32 | 146 => 246 | 53 => 358 | 148 => 359 | 70 => 264 | 37 => 124 | 75 => 268 | 127 => 361 | 164 => 417 | 80 => 57 | n => n, fun | n => n⟩
theorem Tryz.lays105 : Go.Proofs.Lays.n105 Tryz.prog Tryz.lays105_ren := {
  mixed := by kernel_rfl
  f99 := Tryz.func145.trans (congrArg some (by kernel_rfl))
  f105 := Tryz.func89.trans (congrArg some (by kernel_rfl))
  f165 := Tryz.func146.trans (congrArg some (by kernel_rfl))
  f166 := Tryz.func147.trans (congrArg some (by kernel_rfl))
  f169 := Tryz.func149.trans (congrArg some (by kernel_rfl))
  f170 := Tryz.func148.trans (congrArg some (by kernel_rfl))
  f206 := Tryz.func211.trans (congrArg some (by kernel_rfl))
  f212 := Tryz.func144.trans (congrArg some (by kernel_rfl))
  f240 := Tryz.func212.trans (congrArg some (by kernel_rfl))
  f241 := Tryz.func213.trans (congrArg some (by kernel_rfl))
  f263 := Tryz.func209.trans (congrArg some (by kernel_rfl))
  f264 := Tryz.func210.trans (congrArg some (by kernel_rfl))
  f276 := Tryz.func268.trans (congrArg some (by kernel_rfl))
  f277 := Tryz.func269.trans (congrArg some (by kernel_rfl))
  t0 := Tryz.underlying0
  a0 := Tryz.isAgg0
  z0 := Tryz.sizeOf0
  v0 := Tryz.zeroValue0
  t3 := Tryz.underlying3
  a3 := Tryz.isAgg3
  z3 := Tryz.sizeOf3
  v3 := Tryz.zeroValue3
  t4 := Tryz.underlying4
  a4 := Tryz.isAgg4
  z4 := Tryz.sizeOf4
  v4 := Tryz.zeroValue4
  t5 := Tryz.underlying5
  a5 := Tryz.isAgg5
  z5 := Tryz.sizeOf5
  v5 := Tryz.zeroValue5
  t9 := Tryz.underlying9
  a9 := Tryz.isAgg9
  z9 := Tryz.sizeOf9
  v9 := Tryz.zeroValue9
  t20 := Tryz.underlying20
  a20 := Tryz.isAgg20
  z20 := Tryz.sizeOf20
  v20 := Tryz.zeroValue20
  t37 := Tryz.underlying124
  a37 := Tryz.isAgg124
  z37 := Tryz.sizeOf124
  v37 := Tryz.zeroValue124
  t46 := Tryz.underlying261
  a46 := Tryz.isAgg261
  z46 := Tryz.sizeOf261
  v46 := Tryz.zeroValue261
  t51 := Tryz.underlying32
  a51 := Tryz.isAgg32
  z51 := Tryz.sizeOf32
  v51 := Tryz.zeroValue32
  t53 := Tryz.underlying358
  a53 := Tryz.isAgg358
  z53 := Tryz.sizeOf358
  v53 := Tryz.zeroValue358
  t70 := Tryz.underlying264
  a70 := Tryz.isAgg264
  z70 := Tryz.sizeOf264
  v70 := Tryz.zeroValue264
  t72 := Tryz.underlying266
  a72 := Tryz.isAgg266
  z72 := Tryz.sizeOf266
  v72 := Tryz.zeroValue266
  t75 := Tryz.underlying268
  a75 := Tryz.isAgg268
  z75 := Tryz.sizeOf268
  v75 := Tryz.zeroValue268
  t76 := Tryz.underlying269
  a76 := Tryz.isAgg269
  z76 := Tryz.sizeOf269
  v76 := Tryz.zeroValue269
  t109 := Tryz.underlying262
  a109 := Tryz.isAgg262
  z109 := Tryz.sizeOf262
  v109 := Tryz.zeroValue262
  t127 := Tryz.underlying361
  a127 := Tryz.isAgg361
  z127 := Tryz.sizeOf361
  v127 := Tryz.zeroValue361
  t146 := Tryz.underlying246
  a146 := Tryz.isAgg246
  z146 := Tryz.sizeOf246
  v146 := Tryz.zeroValue246
  t148 := Tryz.underlying359
  a148 := Tryz.isAgg359
  z148 := Tryz.sizeOf359
  v148 := Tryz.zeroValue359
  t164 := Tryz.underlying417
  a164 := Tryz.isAgg417
  z164 := Tryz.sizeOf417
  v164 := Tryz.zeroValue417 }
theorem Tryz.Builder_Extra_105 : Builder.Extra Tryz.prog Tryz.lays105_ren := {
  sizeBuilder := by kernel_rfl
  liesBuilder := by kernel_rfl
  t5 := Tryz.underlying5
  a5 := Tryz.isAgg5
  z5 := Tryz.sizeOf5
  v5 := Tryz.zeroValue5
  infoByte := by kernel_rfl
  cellsByte := by kernel_rfl
  sizeByte := by kernel_rfl
  neB5 := by decide }
open Go.RowKit Go.Lib in
/-- THE MAIN CASE: at least two copies of a string that is not empty. (LAID: no walk: one application.) -/
theorem Tryz.strings_Repeat_main (s : ByteArray) (c : Nat) (w : World) (hc2 : 2 ≤ c) (hc : c ≤ 9223372036854775807) (hlen : s.size * c ≤ 140737488355328) (h0 : 0 < s.size) :
    Calls Tryz.prog 89 #[.string s, .int .i64 c] w fun e w' => e = .returned (.string ⟨(Lib.repeatL s.data.toList c).toArray⟩) ∧ Below w.heap.size w w' := Any.strings_Repeat_main Tryz.lays105 Tryz.Builder_Extra_105 s c w hc2 hc hlen h0
open Go.RowKit Go.Lib in
theorem Tryz.strings_Repeat_zero (s : ByteArray) (w : World) :
    Calls Tryz.prog 89 #[.string s, .int .i64 0] w fun e w' => e = .returned (.string ⟨#[]⟩) ∧ w' = w := Any.strings_Repeat_zero Tryz.lays105 s w
open Go.RowKit Go.Lib in
theorem Tryz.strings_Repeat_one (s : ByteArray) (w : World) :
    Calls Tryz.prog 89 #[.string s, .int .i64 1] w fun e w' => e = .returned (.string s) ∧ w' = w := Any.strings_Repeat_one Tryz.lays105 s w
end Go.Proofs
/-
  strings.Repeat of the blank byte, and the choice of a small shape, answered at once.
-/
namespace Go.Proofs.YthnjfgjbgblciaaGreatDoor
open Go Go.Am Go.RowKit

theorem repeatL_one (b : UInt8) : ∀ c : Nat, Go.Lib.repeatL [b] c = List.replicate c b
  | 0 => rfl
  | c + 1 => by rw [List.replicate_succ, ← repeatL_one b c]; rfl

theorem repeat_calls (c : Nat) (hc : c ≤ 1000000) (w : World) : Calls Tryz.prog 89 #[.string ⟨#[255]⟩, .int .i64 (Int.ofNat c)] w fun e w' => e = .returned (.string ⟨⟨List.replicate c 255⟩⟩) ∧ Below w.heap.size w w' := by
  match c, hc with
  | 0, _ => exact (Tryz.strings_Repeat_zero ⟨#[255]⟩ w).mono fun e w' ⟨he, hw⟩ => ⟨he, by rw [hw]; exact Below.refl _ _⟩
  | 1, _ => exact (Tryz.strings_Repeat_one ⟨#[255]⟩ w).mono fun e w' ⟨he, hw⟩ => ⟨he, by rw [hw]; exact Below.refl _ _⟩
  | c + 2, hc =>
    refine (Tryz.strings_Repeat_main ⟨#[255]⟩ (c + 2) w (by omega) (by omega) (by show 1 * (c + 2) ≤ _; omega) (by decide)).mono fun e w' ⟨he, hb⟩ => ⟨?_, hb⟩
    rw [he]
    show Ending.returned (.string ⟨(Go.Lib.repeatL [255] (c + 2)).toArray⟩) = _
    rw [repeatL_one]

/-- The blank byte, so many times. -/
noncomputable def blankN (args : List Value) : Option Nat := match args with | [.string ⟨⟨[b]⟩⟩, .int .i64 (.ofNat c)] => bif Nat.beq b.toNat 255 && Nat.ble c 1000000 then some c else none | _ => none
theorem blankN_some {args : List Value} {c : Nat} (h : blankN args = some c) : args = [.string ⟨#[255]⟩, .int .i64 (Int.ofNat c)] ∧ c ≤ 1000000 := by
  unfold blankN at h
  split at h
  · rename_i b c'
    cases hb : (Nat.beq b.toNat 255 && Nat.ble c' 1000000) with
    | false => rw [hb] at h; cases h
    | true =>
      rw [hb] at h
      cases h
      simp only [Bool.and_eq_true] at hb
      have h1 := Nat.eq_of_beq_eq_true hb.1
      have h2 : b = 255 := UInt8.toNat_inj.1 h1
      subst h2
      exact ⟨rfl, Nat.le_of_ble_eq_true hb.2⟩
  · cases h

noncomputable def prim3 (f : FuncId) (args : List Value) (m : Mem) : Option (Value × Mem) :=
  bif Nat.beq f 89 then (match blankN args with | some c => some (.string ⟨⟨List.replicate c 255⟩⟩, m) | none => none)
  else bif Nat.beq f 20 then (match geo3 args with | some (a, b, c) => some (.agg #[.int .i64 (32 + a % 33), .int .i64 (3 + b % 4), .int .i64 (4 + c % 4)], m) | none => none)
  else prim2 f args m
noncomputable def cfg3 : Cfg := { cfg with prim := prim3 }

theorem primOk3 : PrimOk Tryz.prog cfg3 := by
  intro f args m v m' h r w args' hm hr
  replace h : prim3 f args m = some (v, m') := h
  unfold prim3 at h
  cases h1 : Nat.beq f 89 with
  | true =>
    rw [h1, cond_true] at h
    cases hg : blankN args with
    | none => rw [hg] at h; cases h
    | some c =>
      rw [hg] at h
      cases h
      obtain ⟨ha, hc⟩ := blankN_some hg
      subst ha
      have hf := Nat.eq_of_beq_eq_true h1
      subst hf
      rw [plains_same (l := [.string ⟨#[255]⟩, .int .i64 (Int.ofNat c)]) rfl hr]
      refine (repeat_calls c hc w).mono fun e w' ⟨he, hb⟩ => ?_
      subst he
      exact ⟨r, hm.below hb, Evo.below hb, .string _⟩
  | false =>
    rw [h1, cond_false] at h
    cases h2 : Nat.beq f 20 with
    | true =>
      rw [h2, cond_true] at h
      cases hg : geo3 args with
      | none => rw [hg] at h; cases h
      | some p =>
        obtain ⟨a, b, c⟩ := p
        rw [hg] at h
        cases h
        have ha := geo3_some hg
        subst ha
        have hf := Nat.eq_of_beq_eq_true h2
        subst hf
        obtain ⟨m1, k1⟩ := geom_run a b c
        exact pure_call pgood flatOk2 primOk2 plans2 gsize0 k1 rfl rfl hm hr
    | false =>
      rw [h2, cond_false] at h
      exact primOk2 f args m v m' h r w args' hm hr
theorem plans3 : AllPlans Tryz.prog cfg3 := allPlans_congr (C := cfg0) rfl (allPlans_of plansB_ok)
theorem flatOk3 : ∀ t, cfg3.flats.contains t = true → FlatOk Tryz.prog t := flatOk0
end Go.Proofs.YthnjfgjbgblciaaGreatDoor
