/- WorldNew, the tied card: there is a world of just the geometries and images that may be, without a cache and with the padded image. For every geometry, image and flag; no condition. -/
import Derived.Test.YthnjfgjbgblciaaGreatDoorAmWit
import Derived.Test.YthnjfgjbgblciaaGreatDoorAmFwu
import Derived.Test.YthnjfgjbgblciaaGreatDoorSD
import Derived.Test.YthnjfgjbgblciaaGreatDoorGE
import Derived.Deep.DeepHandedRow
import Derived.ProofKit
import Derived.LaidMore
import Derived.Lay
import Derived.SevenTiedAt
import Derived.Test.YthnjfgjbgblciaaGreatDoorCards
namespace Go.Proofs.YthnjfgjbgblciaaGreatDoor
open Go Go.Am Go.RowKit Go.ChangeShapes Go.WideShapes Go.ChangeAt Go.ChangeMaps
set_option maxRecDepth 100000

theorem wu_own : ownKnob Tryz.prog.godebug = none := by kernel_rfl
theorem wu_cells : Tryz.prog.cellTypes Tryz.prog.depth 50 = some [3, 3, 3] := by kernel_rfl
theorem wu_size : Tryz.prog.cellsOf 50 = 3 := by kernel_rfl

/-- A geometry that came in. -/
theorem wu_geo {W : World} {base : Nat} {v : Value} (h : Value.okWide Tryz.prog W .any base 50 v) : ∃ a b c : Int, v = geoV a b c := by
  unfold Value.okWide at h
  cases hu : Tryz.prog.underlying 50 with
  | none => rw [Tryz.underlying50] at hu; cases hu
  | some d =>
    rw [Tryz.underlying50] at hu
    cases hu
    rw [Tryz.underlying50] at h
    obtain ⟨cs, rfl, hsz, ts, hts, _, hc⟩ := h
    rw [wu_cells] at hts
    cases hts
    rw [wu_size] at hsz
    obtain ⟨l⟩ := cs
    match l, hsz with
    | [v0, v1, v2], _ =>
      have g : ∀ (i : Nat) (u : TypeId) (v : Value), (#[v0, v1, v2] : Array Value)[i]? = some v → [3, 3, 3][i % 3]? = some u → Cell.okWide Tryz.prog W .any base u v := by
        intro i u v hi hu
        obtain ⟨u', h1, h2⟩ := hc i v hi
        have : u' = u := Option.some.inj (h1.symm.trans hu)
        subst this; exact h2
      obtain ⟨a, rfl⟩ := arg_int Tryz.underlying3 (g 0 3 v0 rfl rfl)
      obtain ⟨b, rfl⟩ := arg_int Tryz.underlying3 (g 1 3 v1 rfl rfl)
      obtain ⟨c, rfl⟩ := arg_int Tryz.underlying3 (g 2 3 v2 rfl rfl)
      exact ⟨a, b, c, rfl⟩
theorem wu_string {W : World} {base : Nat} {v : Value} (h : Value.okWide Tryz.prog W .any base 9 v) : ∃ s, v = .string s := by
  unfold Value.okWide at h
  rw [Tryz.underlying9] at h
  exact arg_string Tryz.underlying9 h
theorem wu_bool {W : World} {base : Nat} {v : Value} (h : Value.okWide Tryz.prog W .any base 4 v) : ∃ s, v = .bool s := by
  unfold Value.okWide at h
  rw [Tryz.underlying4] at h
  exact arg_bool Tryz.underlying4 h

theorem wu_run (a b c : Int) (im : ByteArray) (small : Bool) : isTrueR (fCall Tryz.prog cfg4 30000 4 [geoV a b c, .string im, .bool small] ⟨tr0, 20⟩) = true := by
  obtain ⟨m', h⟩ := new_all a b c im small
  rw [fCall_eq, h]; rfl
noncomputable def wuEx : List Ent := List.replicate 17 ⟨0, 0, 0, 0, 0⟩

theorem wu_calls (H : Type) (enc : TypeId × Value → H) (W : World) (base : Nat) (args : Array Value) (ds gs : List (DataW H)) (before : List MemPlace)
    (hval : ∀ (j : Nat) t v, Tryz.f4.params[j]? = some t → args[j]? = some v → Value.okWide Tryz.prog W .any base t v)
    (hW : DataW.Whole enc Tryz.prog Tryz.f4.params.toList Rows.worldNewSpec.vars false W args.toList ds gs before) (hL : laidMetH Tryz.prog Rows.worldNewRow.laid W) (hsh : W.ShapedOpen Tryz.prog) :
    Calls Tryz.prog 4 args W fun e W' => ∃ v, e = .returned v ∧ Rows.worldNewSpec.post enc Tryz.prog Tryz.f4 false true false false W args v W' := by
  have hL2 : laidMet Tryz.prog laid2 W := by
    have := hL
    rw [MakeChecks.laidMetH_plain _ _ _ (by kernel_rfl)] at this
    exact this
  obtain ⟨ps, hL3, _⟩ := hL2
  have hW' := hW
  obtain ⟨p, q, hA0, hV, rfl, hfz, hnd⟩ := hW
  have hA : DataW.TrodAll enc Tryz.prog W 0 (fun _ => true) true Tryz.f4.params.toList args.toList ds p := hA0
  rw [Tryz.params4] at hA hval
  obtain ⟨v0, v1, v2, d0, d1, d2, p0, p1, p2, rfl, rfl, rfl, h0, h1, h2⟩ := trodAll_three hA
  obtain ⟨a, b, c, rfl⟩ := wu_geo (hval 0 50 v0 rfl rfl)
  obtain ⟨im, rfl⟩ := wu_string (hval 1 9 v1 rfl rfl)
  obtain ⟨small, rfl⟩ := wu_bool (hval 2 4 v2 rfl rfl)
  have hH := start hsh hL3 wuEx (fun e he => by rw [List.eq_of_mem_replicate he]; exact heap_glob hsh 0 (by decide))
  have hrun := true_calls (C := cfg4) (k := 30000) (f := 4) (args := [geoV a b c, .string im, .bool small]) (args' := [geoV a b c, .string im, .bool small]) pgood flatOk4 primOk4 plans4 (wu_run a b c im small) hH tr0_ro
    (.cons (.agg (.cons (.int _ _) (.cons (.int _ _) (.cons (.int _ _) .nil)))) (.cons (.string _) (.cons (.bool _) .nil)))
  refine hrun.mono fun e W' ⟨he, hb⟩ => ?_
  subst he
  exact ⟨_, rfl, post_true (tb := 4) laidOut (by kernel_rfl) hW' rfl rfl rfl Tryz.underlying4 hb⟩

noncomputable def wuArgs : Array Value := #[.agg #[.int .i64 0, .int .i64 0, .int .i64 0], .string ⟨#[]⟩, .bool false]
def wuDs {H : Type} : List (DataW H) := [.agg [.lit (.int .i64 0), .lit (.int .i64 0), .lit (.int .i64 0)], .lit (.string []), .lit (.bool false)]
theorem wu_okInput (os : Os) : Input.okWideB Tryz.prog ((w0 os).forCall (fun _ _ => 0) ⟨#[], wuArgs, []⟩) 4 ⟨#[], wuArgs, []⟩ = true := by kernel_rfl
theorem wu_reads (os : Os) {H : Type} (enc : TypeId × Value → H) : DataW.whole enc Tryz.prog ((w0 os).forCall (fun _ _ => 0) ⟨#[], wuArgs, []⟩).memory Tryz.f4.params.toList Rows.worldNewSpec.vars false wuArgs.toList 8 = some (wuDs, [], []) := by kernel_rfl
theorem wu_sized (os : Os) {H : Type} (enc : TypeId × Value → H) : (OpenSpec.ofChange Rows.worldNewSpec).bare.sizedB enc Tryz.prog Tryz.f4 false ((w0 os).forCall (fun _ _ => 0) ⟨#[], wuArgs, []⟩).memory wuArgs 8 = true := by kernel_rfl
theorem wu_conds (_os : Os) {H : Type} : Rows.worldNewRow.domain.all (PathCond.test Tryz.prog ⟨Tryz.f4.params.toList, (wuDs : List (DataW H)), (OpenSpec.ofChange Rows.worldNewSpec).bare.plain.varTypes Tryz.prog, []⟩) = true := rfl

theorem wu_lifted (os : Os) (started : os.Started) (H : Type) (enc : TypeId × Value → H) (F : Stop.Interp) :
    ReturnsInHanded {} Tryz.checked os 4 .any ((OpenSpec.ofChange Rows.worldNewSpec).preRow enc Tryz.prog Tryz.f4 Rows.worldNewRow.domain false Rows.worldNewRow.laid) (((OpenSpec.ofChange Rows.worldNewSpec).at F).post enc Tryz.prog Tryz.f4 false true false false) := by
  refine returnsInHanded_of_row (C := Tryz.checked) (s := OpenSpec.ofChange Rows.worldNewSpec) wu_own started (by kernel_rfl) Tryz.func4
    (witness_row_at (enc := enc) (C := Tryz.checked) false (w0 os) wuArgs (World.laidAll_os _ _ _) (w0_vars os wuArgs) (w0_rest os wuArgs) (wu_okInput os)
      (OpenSpec.preRow_of_cond 8 (wu_reads os enc) (wu_conds os) (fun k hk => by cases hk) (wu_sized os enc) (w0_laidH os wuArgs))) ?_
  intro W base args ds gs before hval hW _ _ _ hL hsh _
  exact wu_calls H enc W base args ds gs before hval hW hL hsh

theorem wu_said : Rows.WorldNewSaid :=
  OpenClaim.holds_of_cond 4 Tryz.f4 rfl rfl rfl rfl rfl rfl rfl ⟨rfl, rfl, rfl, rfl, rfl⟩ rfl rfl rfl rfl rfl wuF Tryz.func4 wu_joined
    (of_decide_eq_true (by kernel_rfl)) (by unfold Func.isWrapper; first | (rw [if_pos (by decide +kernel)]; kernel_rfl) | (rw [if_neg (by decide +kernel)]; exact ⟨rfl, rfl⟩))
    (fun os started H enc _ F => by rw [OpenClaim.pre_eq_preRow]; exact wu_lifted os started H enc F)

theorem wu_plain (f : FuncId) (fn : Func) (hf : Tryz.pinned.checked.prog.funcNamed "cachepot/cachepotlaw27.WorldNew" = some f) (hfn : Tryz.pinned.checked.prog.funcs[f]? = some fn) :
    true = Tryz.pinned.checked.prog.looks [] ∧ ∀ (j : Nat) t, fn.params[j]? = some t → Tryz.pinned.checked.prog.wantsStandIn t = false := by
  obtain rfl : f = 4 := Option.some.inj (wuF.symm.trans hf) |>.symm
  obtain rfl : fn = Tryz.f4 := (Option.some.inj (Tryz.func4.symm.trans hfn)).symm
  refine ⟨by kernel_rfl, fun j t ht => ?_⟩
  rw [Tryz.params4] at ht
  have hm : t ∈ [50, 9, 4] := by simpa using Array.mem_of_getElem? ht
  have hall : ([50, 9, 4].all fun u => !Tryz.prog.wantsStandIn u) = true := by kernel_rfl
  exact (show Tryz.prog.wantsStandIn t = false by simpa using List.all_eq_true.1 hall t hm)

theorem worldNew_card : Rows.WorldNewCardSaid :=
  Claim7.holds_tied_plain_at .later [] _ _ _ _ wu_said (fun _ h => by cases h) (by kernel_rfl) (fun _ h => by cases h) worldNew_row_tie rfl ⟨rfl, rfl⟩ (by kernel_rfl) rfl wu_plain wuG
#print axioms worldNew_card
end Go.Proofs.YthnjfgjbgblciaaGreatDoor
