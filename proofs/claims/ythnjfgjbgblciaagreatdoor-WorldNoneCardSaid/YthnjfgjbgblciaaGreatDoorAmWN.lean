/- WorldNone, the tied card: no world plays nothing, whatever the step is. For every step; no condition. -/
import Derived.Test.YthnjfgjbgblciaaGreatDoorAmWit
import Derived.Test.YthnjfgjbgblciaaGreatDoorAmFwn
import Derived.Test.YthnjfgjbgblciaaGreatDoorAm37
import Derived.Test.YthnjfgjbgblciaaGreatDoorAmL6
import Derived.SevenTiedAt
import Derived.Test.YthnjfgjbgblciaaGreatDoorCards
namespace Go.Proofs.YthnjfgjbgblciaaGreatDoor
open Go Go.Am Go.RowKit Go.ChangeShapes Go.WideShapes Go.ChangeAt
set_option maxRecDepth 100000

theorem wn_own : ownKnob Tryz.prog.godebug = none := by kernel_rfl
theorem wn_cells : Tryz.prog.cellTypes Tryz.prog.depth 64 = some [3, 3, 9, 9, 31, 3, 62, 3, 3, 3] := by kernel_rfl
theorem wn_size : Tryz.prog.cellsOf 64 = 10 := by kernel_rfl

/-- A step that came in, and what the machine calls it. -/
theorem wn_arg {W : World} {base : Nat} {v : Value} (h : Value.okWide Tryz.prog W .any base 64 v) (h0 : 0 < W.heap.size) :
    ∃ (a b n p q x : Int) (key val : ByteArray) (ks ms : Value), v = .agg #[.int .i64 a, .int .i64 b, .string key, .string val, ks, .int .i64 n, ms, .int .i64 p, .int .i64 q, .int .i64 x] ∧
      ((sliceEnt ks).b < W.heap.size ∧ ∀ (r : Ren) (i : Nat), r i = some (sliceEnt ks) → VRel r (sliceAs i ks) ks) ∧ ((sliceEnt ms).b < W.heap.size ∧ ∀ (r : Ren) (i : Nat), r i = some (sliceEnt ms) → VRel r (sliceAs i ms) ms) := by
  unfold Value.okWide at h
  cases hu : Tryz.prog.underlying 64 with
  | none => rw [Tryz.underlying64] at hu; cases hu
  | some d =>
    rw [Tryz.underlying64] at hu
    cases hu
    rw [Tryz.underlying64] at h
    obtain ⟨cs, rfl, hsz, ts, hts, _, hc⟩ := h
    rw [wn_cells] at hts
    cases hts
    rw [wn_size] at hsz
    obtain ⟨l⟩ := cs
    match l, hsz with
    | [v0, v1, v2, v3, v4, v5, v6, v7, v8, v9], _ =>
      have g : ∀ (i : Nat) (u : TypeId) (v : Value), (#[v0, v1, v2, v3, v4, v5, v6, v7, v8, v9] : Array Value)[i]? = some v → [3, 3, 9, 9, 31, 3, 62, 3, 3, 3][i % 10]? = some u → Cell.okWide Tryz.prog W .any base u v := by
        intro i u v hi hu
        obtain ⟨u', h1, h2⟩ := hc i v hi
        have : u' = u := Option.some.inj (h1.symm.trans hu)
        subst this; exact h2
      obtain ⟨a, rfl⟩ := arg_int Tryz.underlying3 (g 0 3 v0 rfl rfl)
      obtain ⟨b, rfl⟩ := arg_int Tryz.underlying3 (g 1 3 v1 rfl rfl)
      obtain ⟨key, rfl⟩ := arg_string Tryz.underlying9 (g 2 9 v2 rfl rfl)
      obtain ⟨val, rfl⟩ := arg_string Tryz.underlying9 (g 3 9 v3 rfl rfl)
      have s1 := arg_slice Tryz.underlying31 (g 4 31 v4 rfl rfl) h0
      obtain ⟨n, rfl⟩ := arg_int Tryz.underlying3 (g 5 3 v5 rfl rfl)
      have s2 := arg_slice Tryz.underlying62 (g 6 62 v6 rfl rfl) h0
      obtain ⟨p, rfl⟩ := arg_int Tryz.underlying3 (g 7 3 v7 rfl rfl)
      obtain ⟨q, rfl⟩ := arg_int Tryz.underlying3 (g 8 3 v8 rfl rfl)
      obtain ⟨x, rfl⟩ := arg_int Tryz.underlying3 (g 9 3 v9 rfl rfl)
      exact ⟨a, b, n, p, q, x, key, val, v4, v6, rfl, s1, s2⟩

theorem wn_calls (H : Type) (enc : TypeId × Value → H) (W : World) (base : Nat) (args : Array Value) (ds gs : List (DataW H)) (before : List MemPlace)
    (hval : ∀ (j : Nat) t v, Tryz.f5.params[j]? = some t → args[j]? = some v → Value.okWide Tryz.prog W .any base t v)
    (hW : DataW.Whole enc Tryz.prog Tryz.f5.params.toList Rows.worldNoneSpec.vars false W args.toList ds gs before) (hL : laidMetH Tryz.prog Rows.worldNoneRow.laid W) (hsh : W.ShapedOpen Tryz.prog) :
    Calls Tryz.prog 5 args W fun e W' => ∃ v, e = .returned v ∧ Rows.worldNoneSpec.post enc Tryz.prog Tryz.f5 false true false false W args v W' := by
  have hL2 : laidMet Tryz.prog laid2 W := by
    have := hL
    rw [MakeChecks.laidMetH_plain _ _ _ (by kernel_rfl)] at this
    exact this
  obtain ⟨ps, hL3, _⟩ := hL2
  have hW' := hW
  obtain ⟨p, q, hA0, hV, rfl, hfz, hnd⟩ := hW
  have hA : DataW.TrodAll enc Tryz.prog W 0 (fun _ => true) true Tryz.f5.params.toList args.toList ds p := hA0
  rw [Tryz.params5] at hA hval
  obtain ⟨v0, d0, rfl, rfl, h0⟩ := trodAll_one hA
  have hh0 := heap_glob hsh 0 (by decide)
  obtain ⟨a, b, n, pg, at_, x, key, val, ks, ms, rfl, ⟨k1, k2⟩, ⟨m1, m2⟩⟩ := wn_arg (hval 0 64 v0 rfl rfl) hh0
  have hH := start hsh hL3 (sliceEnt ks :: sliceEnt ms :: List.replicate 15 ⟨0, 0, 0, 0, 0⟩) (fun e he => by
    rcases List.mem_cons.1 he with rfl | he
    · exact k1
    · rcases List.mem_cons.1 he with rfl | he
      · exact m1
      · rw [List.eq_of_mem_replicate he]; exact hh0)
  have hrun := true_calls (C := cfg) (k := 3000) (f := 5) (args := [.agg #[.int .i64 a, .int .i64 b, .string key, .string val, sliceAs 3 ks, .int .i64 n, sliceAs 4 ms, .int .i64 pg, .int .i64 at_, .int .i64 x]])
    (args' := [.agg #[.int .i64 a, .int .i64 b, .string key, .string val, ks, .int .i64 n, ms, .int .i64 pg, .int .i64 at_, .int .i64 x]]) pgood flatOk primOk plans (l6 a b n pg at_ x key val (sliceAs 3 ks) (sliceAs 4 ms)) hH tr0_ro
    (.cons (.agg (.cons (.int _ _) (.cons (.int _ _) (.cons (.string _) (.cons (.string _) (.cons (k2 _ 3 rfl) (.cons (.int _ _) (.cons (m2 _ 4 rfl) (.cons (.int _ _) (.cons (.int _ _) (.cons (.int _ _) .nil))))))))))) .nil)
  refine hrun.mono fun e W' ⟨he, hb⟩ => ?_
  subst he
  exact ⟨_, rfl, post_true (tb := 4) laidOut (by kernel_rfl) hW' rfl rfl rfl Tryz.underlying4 hb⟩

noncomputable def wnArgs : Array Value := #[.agg #[.int .i64 0, .int .i64 0, .string ⟨#[]⟩, .string ⟨#[]⟩, .slice none 0 0, .int .i64 0, .slice none 0 0, .int .i64 0, .int .i64 0, .int .i64 0]]
def wnDs {H : Type} : List (DataW H) := [.agg [.lit (.int .i64 0), .lit (.int .i64 0), .lit (.string []), .lit (.string []), .nil, .lit (.int .i64 0), .nil, .lit (.int .i64 0), .lit (.int .i64 0), .lit (.int .i64 0)]]
theorem wn_okInput (os : Os) : Input.okWideB Tryz.prog ((w0 os).forCall (fun _ _ => 0) ⟨#[], wnArgs, []⟩) 5 ⟨#[], wnArgs, []⟩ = true := by kernel_rfl
theorem wn_reads (os : Os) {H : Type} (enc : TypeId × Value → H) : DataW.whole enc Tryz.prog ((w0 os).forCall (fun _ _ => 0) ⟨#[], wnArgs, []⟩).memory Tryz.f5.params.toList Rows.worldNoneSpec.vars false wnArgs.toList 8 = some (wnDs, [], []) := by kernel_rfl
theorem wn_sized (os : Os) {H : Type} (enc : TypeId × Value → H) : (OpenSpec.ofChange Rows.worldNoneSpec).bare.sizedB enc Tryz.prog Tryz.f5 false ((w0 os).forCall (fun _ _ => 0) ⟨#[], wnArgs, []⟩).memory wnArgs 8 = true := by kernel_rfl
theorem wn_conds (_os : Os) {H : Type} : Rows.worldNoneRow.domain.all (PathCond.test Tryz.prog ⟨Tryz.f5.params.toList, (wnDs : List (DataW H)), (OpenSpec.ofChange Rows.worldNoneSpec).bare.plain.varTypes Tryz.prog, []⟩) = true := rfl

theorem wn_lifted (os : Os) (started : os.Started) (H : Type) (enc : TypeId × Value → H) (F : Stop.Interp) :
    ReturnsInHanded {} Tryz.checked os 5 .any ((OpenSpec.ofChange Rows.worldNoneSpec).preRow enc Tryz.prog Tryz.f5 Rows.worldNoneRow.domain false Rows.worldNoneRow.laid) (((OpenSpec.ofChange Rows.worldNoneSpec).at F).post enc Tryz.prog Tryz.f5 false true false false) := by
  refine returnsInHanded_of_row (C := Tryz.checked) (s := OpenSpec.ofChange Rows.worldNoneSpec) wn_own started (by kernel_rfl) Tryz.func5
    (witness_row_at (enc := enc) (C := Tryz.checked) false (w0 os) wnArgs (World.laidAll_os _ _ _) (w0_vars os wnArgs) (w0_rest os wnArgs) (wn_okInput os)
      (OpenSpec.preRow_of_cond 8 (wn_reads os enc) (wn_conds os) (fun k hk => by cases hk) (wn_sized os enc) (w0_laidH os wnArgs))) ?_
  intro W base args ds gs before hval hW _ _ _ hL hsh _
  exact wn_calls H enc W base args ds gs before hval hW hL hsh

theorem wn_said : Rows.WorldNoneSaid :=
  OpenClaim.holds_of_cond 5 Tryz.f5 rfl rfl rfl rfl rfl rfl rfl ⟨rfl, rfl, rfl, rfl, rfl⟩ rfl rfl rfl rfl rfl wnF Tryz.func5 wn_joined
    (of_decide_eq_true (by kernel_rfl)) (by unfold Func.isWrapper; first | (rw [if_pos (by decide +kernel)]; kernel_rfl) | (rw [if_neg (by decide +kernel)]; exact ⟨rfl, rfl⟩))
    (fun os started H enc _ F => by rw [OpenClaim.pre_eq_preRow]; exact wn_lifted os started H enc F)

theorem wn_plain (f : FuncId) (fn : Func) (hf : Tryz.pinned.checked.prog.funcNamed "cachepot/cachepotlaw27.WorldNone" = some f) (hfn : Tryz.pinned.checked.prog.funcs[f]? = some fn) :
    true = Tryz.pinned.checked.prog.looks [] ∧ ∀ (j : Nat) t, fn.params[j]? = some t → Tryz.pinned.checked.prog.wantsStandIn t = false := by
  obtain rfl : f = 5 := Option.some.inj (wnF.symm.trans hf) |>.symm
  obtain rfl : fn = Tryz.f5 := (Option.some.inj (Tryz.func5.symm.trans hfn)).symm
  refine ⟨by kernel_rfl, fun j t ht => ?_⟩
  rw [Tryz.params5] at ht
  have hm : t ∈ [64] := by simpa using Array.mem_of_getElem? ht
  have hall : ([64].all fun u => !Tryz.prog.wantsStandIn u) = true := by kernel_rfl
  exact (show Tryz.prog.wantsStandIn t = false by simpa using List.all_eq_true.1 hall t hm)

theorem worldNone_card : Rows.WorldNoneCardSaid :=
  Claim7.holds_tied_plain_at .later [] _ _ _ _ wn_said (fun _ h => by cases h) (by kernel_rfl) (fun _ h => by cases h) worldNone_row_tie rfl ⟨rfl, rfl⟩ (by kernel_rfl) rfl wn_plain wnG
#print axioms worldNone_card
end Go.Proofs.YthnjfgjbgblciaaGreatDoor
