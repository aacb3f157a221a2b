/- CacheNone, the tied card: over no device there is no cache (Open answers nil and ErrArg), and none answers nothing. For every session number, key and pattern; no condition. -/
import Derived.Test.YthnjfgjbgblciaaGreatDoorAmWit
import Derived.Test.YthnjfgjbgblciaaGreatDoorAmFcn
import Derived.Test.YthnjfgjbgblciaaGreatDoorAm35
import Derived.Test.YthnjfgjbgblciaaGreatDoorAmL3
import Derived.Deep.DeepHandedRow
import Derived.ProofKit
import Derived.LaidMore
import Derived.Lay
import Derived.SevenTiedAt
import Derived.Test.YthnjfgjbgblciaaGreatDoorCards
namespace Go.Proofs.YthnjfgjbgblciaaGreatDoor
open Go Go.Am Go.RowKit Go.ChangeShapes Go.WideShapes Go.ChangeAt Go.ChangeMaps
set_option maxRecDepth 100000

theorem own : ownKnob Tryz.prog.godebug = none := by kernel_rfl
noncomputable def ex11 : List Ent := List.replicate 17 ⟨0, 0, 0, 0, 0⟩

theorem cn_calls (H : Type) (enc : TypeId × Value → H) (W : World) (base : Nat) (args : Array Value) (ds gs : List (DataW H)) (before : List MemPlace)
    (hval : ∀ (j : Nat) t v, Tryz.f3.params[j]? = some t → args[j]? = some v → Value.okWide Tryz.prog W .any base t v)
    (hW : DataW.Whole enc Tryz.prog Tryz.f3.params.toList Rows.cacheNoneSpec.vars false W args.toList ds gs before) (hL : laidMetH Tryz.prog Rows.cacheNoneRow.laid W) (hsh : W.ShapedOpen Tryz.prog) :
    Calls Tryz.prog 3 args W fun e W' => ∃ v, e = .returned v ∧ Rows.cacheNoneSpec.post enc Tryz.prog Tryz.f3 false true false false W args v W' := by
  have hL2 : laidMet Tryz.prog laid2 W := by
    have := hL
    rw [MakeChecks.laidMetH_plain _ _ _ (by kernel_rfl)] at this
    exact this
  obtain ⟨ps, hL3, _⟩ := hL2
  have hW' := hW
  obtain ⟨p, q, hA0, hV, rfl, hfz, hnd⟩ := hW
  have hA : DataW.TrodAll enc Tryz.prog W 0 (fun _ => true) true Tryz.f3.params.toList args.toList ds p := hA0
  rw [Tryz.params3] at hA hval
  obtain ⟨v0, v1, v2, d0, d1, d2, p0, p1, p2, rfl, rfl, rfl, h0, h1, h2⟩ := trodAll_three hA
  obtain ⟨s, rfl, rfl, rfl, w0⟩ := open_int Tryz.underlying3 (hval 0 3 v0 rfl rfl) h0
  obtain ⟨key, rfl, rfl, rfl, w1⟩ := open_string Tryz.underlying9 (hval 1 9 v1 rfl rfl) h1
  obtain ⟨pat, rfl, rfl, rfl, w2⟩ := open_string Tryz.underlying9 (hval 2 9 v2 rfl rfl) h2
  have hH := start hsh hL3 ex11 (fun e he => by rw [List.eq_of_mem_replicate he]; exact heap_glob hsh 0 (by decide))
  have hrun := true_calls (C := cfg) (k := 3000) (f := 3) (args := [.int .i64 s, .string key, .string pat]) (args' := [.int .i64 s, .string key, .string pat]) pgood flatOk primOk plans (l3 s key pat) hH tr0_ro (.cons (.int _ _) (.cons (.string _) (.cons (.string _) .nil)))
  refine hrun.mono fun e W' ⟨he, hb⟩ => ?_
  subst he
  exact ⟨_, rfl, post_true (tb := 4) laidOut (by kernel_rfl) hW' rfl rfl rfl Tryz.underlying4 hb⟩

noncomputable def cnArgs : Array Value := #[.int .i64 0, .string ⟨#[]⟩, .string ⟨#[]⟩]
theorem cn_okInput (os : Os) : Input.okWideB Tryz.prog ((w0 os).forCall (fun _ _ => 0) ⟨#[], cnArgs, []⟩) 3 ⟨#[], cnArgs, []⟩ = true := by kernel_rfl
theorem cn_reads (os : Os) {H : Type} (enc : TypeId × Value → H) : DataW.whole enc Tryz.prog ((w0 os).forCall (fun _ _ => 0) ⟨#[], cnArgs, []⟩).memory Tryz.f3.params.toList Rows.cacheNoneSpec.vars false cnArgs.toList 8 = some ([.lit (.int .i64 0), .lit (.string []), .lit (.string [])], [], []) := by kernel_rfl
theorem cn_sized (os : Os) {H : Type} (enc : TypeId × Value → H) : (OpenSpec.ofChange Rows.cacheNoneSpec).bare.sizedB enc Tryz.prog Tryz.f3 false ((w0 os).forCall (fun _ _ => 0) ⟨#[], cnArgs, []⟩).memory cnArgs 8 = true := by kernel_rfl
theorem cn_conds (_os : Os) {H : Type} : Rows.cacheNoneRow.domain.all (PathCond.test Tryz.prog ⟨Tryz.f3.params.toList, ([.lit (.int .i64 0), .lit (.string []), .lit (.string [])] : List (DataW H)), (OpenSpec.ofChange Rows.cacheNoneSpec).bare.plain.varTypes Tryz.prog, []⟩) = true := rfl

theorem cn_lifted (os : Os) (started : os.Started) (H : Type) (enc : TypeId × Value → H) (F : Stop.Interp) :
    ReturnsInHanded {} Tryz.checked os 3 .any ((OpenSpec.ofChange Rows.cacheNoneSpec).preRow enc Tryz.prog Tryz.f3 Rows.cacheNoneRow.domain false Rows.cacheNoneRow.laid) (((OpenSpec.ofChange Rows.cacheNoneSpec).at F).post enc Tryz.prog Tryz.f3 false true false false) := by
  refine returnsInHanded_of_row (C := Tryz.checked) (s := OpenSpec.ofChange Rows.cacheNoneSpec) own started (by kernel_rfl) Tryz.func3
    (witness_row_at (enc := enc) (C := Tryz.checked) false (w0 os) cnArgs (World.laidAll_os _ _ _) (w0_vars os cnArgs) (w0_rest os cnArgs) (cn_okInput os)
      (OpenSpec.preRow_of_cond 8 (cn_reads os enc) (cn_conds os) (fun k hk => by cases hk) (cn_sized os enc) (w0_laidH os cnArgs))) ?_
  intro W base args ds gs before hval hW _ _ _ hL hsh _
  exact cn_calls H enc W base args ds gs before hval hW hL hsh

theorem cn_said : Rows.CacheNoneSaid :=
  OpenClaim.holds_of_cond 3 Tryz.f3 rfl rfl rfl rfl rfl rfl rfl ⟨rfl, rfl, rfl, rfl, rfl⟩ rfl rfl rfl rfl rfl cnF Tryz.func3 cn_joined
    (of_decide_eq_true (by kernel_rfl)) (by unfold Func.isWrapper; first | (rw [if_pos (by decide +kernel)]; kernel_rfl) | (rw [if_neg (by decide +kernel)]; exact ⟨rfl, rfl⟩))
    (fun os started H enc _ F => by rw [OpenClaim.pre_eq_preRow]; exact cn_lifted os started H enc F)

theorem cn_plain (f : FuncId) (fn : Func) (hf : Tryz.pinned.checked.prog.funcNamed "cachepot/cachepotlaw24.CacheNone" = some f) (hfn : Tryz.pinned.checked.prog.funcs[f]? = some fn) :
    true = Tryz.pinned.checked.prog.looks [] ∧ ∀ (j : Nat) t, fn.params[j]? = some t → Tryz.pinned.checked.prog.wantsStandIn t = false := by
  obtain rfl : f = 3 := Option.some.inj (cnF.symm.trans hf) |>.symm
  obtain rfl : fn = Tryz.f3 := (Option.some.inj (Tryz.func3.symm.trans hfn)).symm
  refine ⟨by kernel_rfl, fun j t ht => ?_⟩
  rw [Tryz.params3] at ht
  have hm : t ∈ [3, 9, 9] := by simpa using Array.mem_of_getElem? ht
  have hall : ([3, 9, 9].all fun u => !Tryz.prog.wantsStandIn u) = true := by kernel_rfl
  exact (show Tryz.prog.wantsStandIn t = false by simpa using List.all_eq_true.1 hall t hm)

theorem cacheNone_card : Rows.CacheNoneCardSaid :=
  Claim7.holds_tied_plain_at .later [] _ _ _ _ cn_said (fun _ h => by cases h) (by kernel_rfl) (fun _ h => by cases h) cacheNone_row_tie rfl ⟨rfl, rfl⟩ (by kernel_rfl) rfl cn_plain cnG
#print axioms cacheNone_card
end Go.Proofs.YthnjfgjbgblciaaGreatDoor
