import Derived.Test.YthnjfgjbgblciaaGreatDoorAm25
/-
  THE ABSTRACT MACHINE, 26: control; calls.
-/
namespace Go.Am

/-- Where a piece of code comes out. -/
def toExit : AExit → Exit
  | .normal => .normal
  | .exit i => .exit i
  | .ret => .ret

/-- It comes out as the abstract machine said. -/
def QPost (P : Program) (r0 : Ren) (m0 : Mem) (w0 : World) (e : AExit) (s : St) (x : Exit) (a : Act) (w : World) : Prop := x = toExit e ∧ Post P r0 m0 w0 s a w

/-- Every region of the code that draws its order has a good plan. -/
def PlansOk (P : Program) (C : Cfg) (f : FuncId) : Code → Prop
  | .region id ops true => ∀ plan ps, C.plan f id = some (plan, ps) → ∃ ord, PlanOk P ops (planOps ops plan) ord ps
  | .seq a b | .cond _ a b => PlansOk P C f a ∧ PlansOk P C f b
  | .block _ a | .loop a => PlansOk P C f a
  | _ => True

section
variable {P : Program} {C : Cfg} {call : CallFn} {r0 : Ren} {m0 : Mem} {w0 : World} {f : FuncId}

theorem toExit_inj_normal {e : AExit} (h : Exit.normal = toExit e) : e = .normal := by cases e <;> simp [toExit] at h ⊢

/-- A round of a loop, and the rest. -/
def LoopWp (P : Program) (c : Code) (Q : Exit → Act → World → Prop) (a : Act) (w : World) : Prop :=
  ∀ (b : Frame) (k : List Item) (cs : List Frame), ∃ e a' w', Q e a' w' ∧ Arrives P (lone (b.at a (.code c :: .inLoop c :: k)) cs w) b k cs e a' w'

theorem loop_of {c : Code} {Q : Exit → Act → World → Prop} {a : Act} {w : World} (h : LoopWp P c Q a w) : (Code.loop c).wp P Q a w := by
  intro b k cs
  obtain ⟨e, a', w', hq, harr⟩ := h b k cs
  exact ⟨e, a', w', hq, .of_steps (.one step_loop) harr⟩

theorem loopWp_step {c : Code} {Q : Exit → Act → World → Prop} {a : Act} {w : World} (h : c.wp P (Exit.then (LoopWp P c Q) Q) a w) : LoopWp P c Q a w := by
  intro b k cs
  obtain ⟨e, a₁, w₁, hq, harr⟩ := h b (.inLoop c :: k) cs
  cases e with
  | normal =>
    obtain ⟨e₂, a₂, w₂, hq₂, harr₂⟩ := hq b k cs
    exact ⟨e₂, a₂, w₂, hq₂, .of_steps (Steps.trans harr (.one step_inLoop)) harr₂⟩
  | exit id => exact ⟨_, a₁, w₁, hq, .pass (x := .inLoop c) rfl (fun _ _ => .inl (by simp)) harr⟩
  | goto l => exact ⟨_, a₁, w₁, hq, .pass (x := .inLoop c) rfl (fun _ _ => .inl (by simp)) harr⟩
  | ret => exact ⟨_, a₁, w₁, hq, .pass (x := .inLoop c) rfl (fun _ _ => .inl (by simp)) harr⟩
  | panic ch => exact ⟨_, a₁, w₁, hq, .pass (x := .inLoop c) rfl (fun _ _ => .inl (by simp)) harr⟩
  | outgrown => exact ⟨_, a₁, w₁, hq, .pass (x := .inLoop c) rfl (fun _ _ => .inl (by simp)) harr⟩

/-- What the abstract run of a piece says, holds. -/
def RunOk (P : Program) (c : Code) (run : Run) : Prop :=
  ∀ (r0 : Ren) (m0 : Mem) (w0 : World) (s : St) (e : AExit) (s' : St) (a : Act) (w : World), run s = some (e, s') → Post P r0 m0 w0 s a w → c.wp P (QPost P r0 m0 w0 e s') a w

theorem loop_sound {c : Code} {run : Run} (h : RunOk P c run) : ∀ (k : Nat) (s : St) (e : AExit) (s' : St) (a : Act) (w : World), aLoop run k s = some (e, s') → Post P r0 m0 w0 s a w → LoopWp P c (QPost P r0 m0 w0 e s') a w
  | 0, s, e, s', a, w, hl, hp => by cases hl
  | k + 1, s, e, s', a, w, hl, hp => by
    replace hl : thenR (aLoop run k) (run s) = some (e, s') := hl
    cases hr : run s with
    | none => rw [hr] at hl; cases hl
    | some es =>
      obtain ⟨e1, s1⟩ := es
      refine loopWp_step (wp_mono (h r0 m0 w0 s e1 s1 a w hr hp) fun x a1 w1 hq => ?_)
      rw [hr] at hl
      obtain ⟨rfl, hq⟩ := hq
      · cases e1 with
        | normal => exact loop_sound h k s1 e s' a1 w1 hl hq
        | exit i => cases hl; exact ⟨rfl, hq⟩
        | ret => cases hl; exact ⟨rfl, hq⟩

theorem filterMap_range {α : Type} : ∀ l : List α, (List.range l.length).filterMap (fun i => l[i]?) = l
  | [] => rfl
  | x :: l => by
    rw [List.length_cons, List.range_succ_eq_map, List.filterMap_cons]
    simp only [List.getElem?_cons_zero, List.filterMap_map]
    congr 1
    have := filterMap_range l
    simpa [Function.comp_def] using this

theorem code_sound (hP : PGood P) (hfl : ∀ t, C.flats.contains t = true → FlatOk P t) (hcall : CallOk P call) (k : Nat) : ∀ c : Code, PlansOk P C f c → RunOk P c (aCode P C call (fun body s => aLoop body k s) f c)
  | .skip, _ => fun r0 m0 w0 s e s' a w h hp => by cases h; exact wp_skip ⟨rfl, hp⟩
  | .ret, _ => fun r0 m0 w0 s e s' a w h hp => by cases h; exact wp_ret ⟨rfl, hp⟩
  | .exit id, _ => fun r0 m0 w0 s e s' a w h hp => by cases h; exact wp_exit ⟨rfl, hp⟩
  | .region id ops draw, hpl => fun r0 m0 w0 s e s' a w h hp => by
    replace h : aRegion P C call f id ops draw s = some (e, s') := h
    unfold aRegion at h
    cases draw with
    | false =>
      simp only [cond_false] at h
      cases hr : aOps P C call ops ops.toList s with
      | none => rw [hr] at h; cases h
      | some s1 =>
        rw [hr] at h; cases h
        refine wp_region (ops_sound hP hfl hcall (fun a w h => ⟨rfl, h⟩) ops.toList (List.range ops.size) s a w ?_ ?_ hr hp)
        · have := filterMap_range ops.toList
          simpa using this
        · intro i hi
          have : i < ops.size := by simpa using hi
          simp [this]
    | true =>
      simp only [cond_true] at h
      cases hr : aDrawn P C call f id ops s with
      | none => rw [hr] at h; cases h
      | some s1 =>
        rw [hr] at h; cases h
        have hpl : ∀ plan ps, C.plan f id = some (plan, ps) → ∃ ord, PlanOk P ops (planOps ops plan) ord ps := hpl
        cases hplan : C.plan f id with
        | none => unfold aDrawn at hr; rw [hplan] at hr; cases hr
        | some pp =>
          obtain ⟨plan, ps⟩ := pp
          obtain ⟨ord, hok⟩ := hpl plan ps hplan
          exact drawn_sound hP hfl hcall hplan hok hr (fun a w h => ⟨rfl, h⟩) hp
  | .seq x y, hpl => fun r0 m0 w0 s e s' a w h hp => by
    have ihx := code_sound hP hfl hcall k x hpl.1
    have ihy := code_sound hP hfl hcall k y hpl.2
    replace h : thenR (aCode P C call (fun body s => aLoop body k s) f y) (aCode P C call (fun body s => aLoop body k s) f x s) = some (e, s') := h
    cases hr : aCode P C call (fun body s => aLoop body k s) f x s with
    | none => rw [hr] at h; cases h
    | some es =>
      obtain ⟨e1, s1⟩ := es
      refine wp_seq (wp_mono (ihx r0 m0 w0 s e1 s1 a w hr hp) fun q a1 w1 hq => ?_)
      rw [hr] at h
      obtain ⟨rfl, hq⟩ := hq
      · cases e1 with
        | normal => exact ihy r0 m0 w0 s1 e s' a1 w1 h hq
        | exit i => cases h; exact ⟨rfl, hq⟩
        | ret => cases h; exact ⟨rfl, hq⟩
  | .cond c x y, hpl => fun r0 m0 w0 s e s' a w h hp => by
    have ihx := code_sound hP hfl hcall k x hpl.1
    have ihy := code_sound hP hfl hcall k y hpl.2
    replace h : condR P c (aCode P C call (fun body s => aLoop body k s) f x) (aCode P C call (fun body s => aLoop body k s) f y) s = some (e, s') := h
    obtain ⟨r, hm, he, hr, hd⟩ := hp
    have hc := eval_rel (P := P) (a := a) hm hr c
    unfold condR at h
    split at h
    · rename_i hv
      rw [hv] at hc
      generalize hcv : a.eval c = vc at hc
      cases hc
      exact wp_cond_true hcv (ihx r0 m0 w0 s e s' a w h ⟨r, hm, he, hr, hd⟩)
    · rename_i hv
      rw [hv] at hc
      generalize hcv : a.eval c = vc at hc
      cases hc
      exact wp_cond_false hcv (ihy r0 m0 w0 s e s' a w h ⟨r, hm, he, hr, hd⟩)
    · cases h
  | .block id x, hpl => fun r0 m0 w0 s e s' a w h hp => by
    have ihx := code_sound hP hfl hcall k x hpl
    replace h : blockR id (aCode P C call (fun body s => aLoop body k s) f x s) = some (e, s') := h
    cases hr : aCode P C call (fun body s => aLoop body k s) f x s with
    | none => rw [hr] at h; cases h
    | some es =>
      obtain ⟨e1, s1⟩ := es
      refine wp_block (wp_mono (ihx r0 m0 w0 s e1 s1 a w hr hp) fun q a1 w1 hq => ?_)
      rw [hr] at h
      obtain ⟨rfl, hq⟩ := hq
      · cases e1 with
        | normal => cases h; exact ⟨rfl, hq⟩
        | ret => cases h; exact ⟨rfl, hq⟩
        | exit i =>
          simp only [blockR] at h
          show if i = id then _ else _
          cases hb : Nat.beq i id with
          | true =>
            rw [if_pos (Nat.eq_of_beq_eq_true hb)]
            rw [hb] at h; cases h
            exact ⟨rfl, hq⟩
          | false =>
            rw [if_neg (fun hh => by subst hh; simp at hb)]
            rw [hb] at h; cases h
            exact ⟨rfl, hq⟩
  | .loop x, hpl => fun r0 m0 w0 s e s' a w h hp => by
    have ihx := code_sound hP hfl hcall k x hpl
    exact loop_of (loop_sound ihx k s e s' a w h hp)
  | .rangeFunc _ _ _ _, _ => fun _ _ _ _ _ _ _ _ h _ => by cases h
  | .scope _, _ => fun _ _ _ _ _ _ _ _ h _ => by cases h
  | .goto _, _ => fun _ _ _ _ _ _ _ _ h _ => by cases h
  | .label _, _ => fun _ _ _ _ _ _ _ _ h _ => by cases h
  | .refuse _, _ => fun _ _ _ _ _ _ _ _ h _ => by cases h

theorem startF_get : ∀ (l : List Value) (i : Nat) (rs : Rs) (d : Nat), (startF i l rs).get d = if i ≤ d ∧ d < i + l.length then l[d - i]? else rs.get d
  | [], i, rs, d => by rw [if_neg (by simp)]; rfl
  | v :: l, i, rs, d => by
    show (startF (i + 1) l (rs.set i (some v))).get d = _
    rw [startF_get l (i + 1) _ d, Tri.get_set]
    by_cases h1 : d = i
    · subst h1
      rw [if_neg (by omega), if_pos rfl, if_pos (by simp)]
      simp
    · rw [if_neg h1]
      by_cases h2 : i + 1 ≤ d ∧ d < i + 1 + l.length
      · rw [if_pos h2, if_pos (by simp; omega)]
        obtain ⟨k, hk⟩ : ∃ k, d - i = k + 1 := ⟨d - i - 1, by omega⟩
        rw [hk, List.getElem?_cons_succ]; congr 1; omega
      · rw [if_neg h2, if_neg (by simp; omega)]

theorem start_rel {r : Ren} {args args' : List Value} (h : VRelL r args args') (n : Nat) : RRel r (max n args.length) (startF 0 args .nil) ((⟨args'⟩ : Array Value) ++ Array.replicate (n - (⟨args'⟩ : Array Value).size) undef) := by
  have hl := h.length
  refine ⟨by simp [← hl]; omega, fun d => ?_⟩
  rw [startF_get, Array.getD_eq_getD_getElem?, Array.getElem?_append]
  by_cases hd : d < args.length
  · rw [if_pos (by omega), if_pos (by simpa [← hl] using hd), Nat.sub_zero]
    obtain ⟨v', h1, h2⟩ := h.get (List.getElem?_eq_getElem hd)
    have : (⟨args'⟩ : Array Value)[d]? = some v' := by simpa using h1
    rw [this, List.getElem?_eq_getElem hd]
    exact h2
  · rw [if_neg (by omega), if_neg (by simpa [← hl] using hd), Tri.get_nil, Array.getElem?_replicate]
    split <;> exact VRel.undef r

/-- One result. -/
def resOne (tmps : Array Value) : ResultVar → Sem Value
  | .tmp t => pure (tmps.getD t undef)
  | .cell a t => do loadVar t (← asAddr (tmps.getD a undef))

theorem results_list {r : Ren} {m : Mem} {w : World} {n : Nat} {rs : Rs} {tmps : Array Value} (hm : HRel P r m w) (hr : RRel r n rs tmps) : ∀ (l : List ResultVar) (vs : List Value), resultL P m.t rs l = some vs →
    ∃ vs', (l.mapM (resOne tmps)).run P w = .ok vs' w ∧ VRelL r vs vs'
  | [], vs, h => by cases h; exact ⟨[], rfl, .nil⟩
  | .tmp t :: l, vs, h => by
    simp only [resultL, Option.map_eq_some_iff] at h
    obtain ⟨vs1, h1, rfl⟩ := h
    obtain ⟨vs', h2, h3⟩ := results_list hm hr l vs1 h1
    refine ⟨tmps.getD t undef :: vs', ?_, .cons (hr.get t) h3⟩
    have h0 : (resOne tmps (.tmp t)).run P w = .ok (tmps.getD t undef) w := rfl
    simp only [List.mapM_cons, Sem.run_bind, h0, Result.andThen_ok, h2, Sem.run_pure]
  | .cell a t :: l, vs, h => by
    simp only [resultL] at h
    have ha := hr.get a
    split at h
    · rename_i ad had
      rw [had] at ha
      generalize hta : tmps.getD a undef = ta at ha
      split at h <;> cases h
      rename_i v vs1 h1 h2
      cases ha
      rename_i id off e hre
      obtain ⟨v', h3, h4⟩ := run_loadT hm hre h1
      obtain ⟨vs', h5, h6⟩ := results_list hm hr l vs1 h2
      refine ⟨v' :: vs', ?_, .cons h4 h6⟩
      have h0 : (resOne tmps (.cell a t)).run P w = .ok v' w := by
        show (do loadVar t (← asAddr (tmps.getD a undef))).run P w = _
        rw [hta]
        simp only [asAddr, Sem.run_bind, Sem.run_pure, Result.andThen_ok]
        exact h3
      simp only [List.mapM_cons, Sem.run_bind, h0, Result.andThen_ok, h5, Sem.run_pure]
    · cases h

theorem results_rel {r : Ren} {m : Mem} {w : World} {n : Nat} {rs : Rs} {tmps : Array Value} (hm : HRel P r m w) (hr : RRel r n rs tmps) {fn : Func} {v : Value} (h : resultV P m.t rs fn = some v) : ∃ v', (results fn tmps).run P w = .ok v' w ∧ VRel r v v' := by
  unfold resultV at h
  cases hl : resultL P m.t rs fn.results.toList with
  | none => rw [hl] at h; cases h
  | some vs =>
    obtain ⟨vs', h1, h2⟩ := results_list hm hr _ _ hl
    have hdef : results fn tmps = (fn.results.mapM (resOne tmps) >>= fun vs => pure (if h : vs.size = 1 then vs[0] else .tuple vs)) := by
      unfold results
      congr 1
    have hrun : ∀ k : Array Value → Sem Value, (fn.results.mapM (resOne tmps) >>= k).run P w = (k vs'.toArray).run P w := by
      intro k
      rw [Array.mapM_eq_mapM_toList]
      simp only [Sem.run_bind, Sem.run_map, h1, Result.andThen_ok]
    rw [hl] at h
    rw [hdef, hrun]
    cases h2 with
    | nil => cases h; exact ⟨.tuple #[], rfl, .tuple .nil⟩
    | cons hv ht =>
      cases ht with
      | nil => cases h; exact ⟨_, rfl, hv⟩
      | cons hv2 ht2 =>
        cases h
        refine ⟨.tuple ⟨_⟩, ?_, .tuple (.cons hv (.cons hv2 ht2))⟩
        simp

/-- What answers some calls at once is right. -/
def PrimOk (P : Program) (C : Cfg) : Prop := CallOk P fun f args m => C.prim f args m

/-- The plans of a program are good. -/
def AllPlans (P : Program) (C : Cfg) : Prop := ∀ (f : FuncId) (fn : Func) (c : Code), P.funcs[f]? = some fn → fn.body = some c → PlansOk P C f c

theorem call_sound (hP : PGood P) (hfl : ∀ t, C.flats.contains t = true → FlatOk P t) (hprim : PrimOk P C) (hplans : AllPlans P C) : ∀ k : Nat, CallOk P (aCall P C k)
  | 0 => fun f args m v m' h => by cases h
  | k + 1 => fun f args m v m' h r w args' hm hargs => by
    have ih := call_sound hP hfl hprim hplans k
    replace h : (match C.prim f args m with | some r => some r | none => aBody P C (aCall P C k) k f args m) = some (v, m') := h
    cases hpr : C.prim f args m with
    | some q => rw [hpr] at h; cases h; exact hprim f args m v m' hpr r w args' hm hargs
    | none =>
      rw [hpr] at h
      replace h : aBody P C (aCall P C k) k f args m = some (v, m') := h
      unfold aBody at h
      cases hf : P.funcs[f]? with
      | none => rw [hf] at h; cases h
      | some fn =>
        rw [hf] at h
        simp only at h
        cases hb : fn.body with
        | none => rw [hb] at h; cases h
        | some c =>
          rw [hb] at h
          simp only at h
          cases hcode : aCode P C (aCall P C k) (fun body s => aLoop body k s) f c { n := max fn.ntmps args.length, rs := startF 0 args .nil, m } with
          | none => rw [hcode] at h; cases h
          | some es =>
            obtain ⟨e, s1⟩ := es
            rw [hcode] at h
            have hcs := code_sound hP hfl ih k c (hplans f fn c hf hb) r m w _ e s1 { tmps := (⟨args'⟩ : Array Value) ++ Array.replicate (fn.ntmps - (⟨args'⟩ : Array Value).size) undef, defers := [] } w hcode
              ⟨r, hm, Evo.refl _ _ _, start_rel hargs fn.ntmps, rfl⟩
            refine calls_of_wp hf hb (wp_mono hcs fun x a1 w1 hq => ?_)
            have fin : (resultV P s1.m.t s1.rs fn).map (fun v => (v, s1.m)) = some (v, m') → Post P r m w s1 a1 w1 → a1.defers = [] ∧ ∃ v', (results fn a1.tmps).run P w1 = .ok v' w1 ∧ CallPost P r m w v m' (.returned v') w1 := by
              rintro h2 ⟨r1, hm1, he1, hr1, hd1⟩
              cases hrv : resultV P s1.m.t s1.rs fn with
              | none => rw [hrv] at h2; cases h2
              | some u =>
                rw [hrv] at h2; cases h2
                obtain ⟨v', h3, h4⟩ := results_rel hm1 hr1 hrv
                exact ⟨hd1, v', h3, r1, hm1, he1, h4⟩
            obtain ⟨rfl, hq⟩ := hq
            · cases e with
              | normal => exact fin h hq
              | ret => exact fin h hq
              | exit i => cases h

end
end Go.Am
