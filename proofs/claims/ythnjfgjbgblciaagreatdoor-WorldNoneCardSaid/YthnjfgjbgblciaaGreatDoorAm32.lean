import Derived.Test.YthnjfgjbgblciaaGreatDoorAm31
/-
  THE ABSTRACT MACHINE, 32: the machine, every branch a closed term; it is the same machine.
-/
namespace Go.Am

noncomputable def isLen (b : Builtin) : Bool := match b with | .len => true | _ => false
noncomputable def enterOk (P : Program) (f : FuncId) : Bool :=
  match P.funcs[f]? with
  | none => false
  | some fn => fn.body.isSome && !decide (fn.name = "runtime.NumGoroutine")

noncomputable def callF (P : Program) (f : FuncId) (args : List Value) : Option OpR :=
  Bool.rec (motive := fun _ => Program → FuncId → List Value → Option OpR) (fun P f args => callR P f args) (fun _ f args => some (.enter f args)) (enterOk P f) P f args

theorem callF_eq (P : Program) (f : FuncId) (args : List Value) : callF P f args = callR P f args := by
  unfold callF
  cases he : enterOk P f with
  | false => rfl
  | true =>
    dsimp only
    unfold enterOk at he
    unfold callR
    cases hf : P.funcs[f]? with
    | none => rw [hf] at he; cases he
    | some fn =>
      rw [hf] at he
      dsimp only at he ⊢
      simp only [Bool.and_eq_true, Bool.not_eq_true', decide_eq_false_iff_not] at he
      rw [if_neg (by intro hn; rw [Option.isNone_iff_eq_none] at hn; rw [hn] at he; cases he.1), if_neg he.2]

noncomputable def lenF (P : Program) (ts : Array TypeId) (v : Value) (slow : Option OpR) : Option OpR :=
  Nat.rec (motive := fun _ => Value → Option OpR → Option OpR) (fun _ slow => slow)
    (fun n _ v slow => Nat.rec (motive := fun _ => Value → Option OpR → Option OpR)
      (fun v slow => Option.rec (motive := fun _ => Option OpR) slow (fun l => some (.val (.int .i64 (Int.ofNat l.length)))) (vStr v))
      (fun _ _ v slow => Option.rec (motive := fun _ => Option OpR) slow (fun p => some (.val (.int .i64 (Int.ofNat p.2)))) (vSlice v)) n v slow)
    (lenKind P ts) v slow

noncomputable def headO (l : List Value) : Value := List.rec (motive := fun _ => Value) (.bool false) (fun v _ _ => v) l

section
variable (P : Program) (fl : List TypeId) (h : Tr) (rs : Rs)

noncomputable def callOpF (ty : TypeId) (c : Call) : Option OpR :=
  Callee.rec (motive := fun _ => Program → Tr → Rs → TypeId → Call → Option OpR)
    (fun f P h rs ty c => Operand.rec (motive := fun _ => Program → Tr → Rs → TypeId → Call → Option OpR)
      (fun _ P h rs ty c => callOpR P h rs ty c) (fun _ P h rs ty c => callOpR P h rs ty c) (fun _ P h rs ty c => callOpR P h rs ty c)
      (fun g P _ rs _ c => callF P g (c.args.toList.map (evalF P rs))) f P h rs ty c)
    (fun _ _ P h rs ty c => callOpR P h rs ty c)
    (fun b P h rs ty c => Bool.rec (motive := fun _ => Program → Tr → Rs → TypeId → Call → Option OpR) (fun P h rs ty c => callOpR P h rs ty c)
      (fun P h rs ty c => lenF P c.argTypes (headO (c.args.toList.map (evalF P rs))) (callOpR P h rs ty c)) (isLen b) P h rs ty c)
    c.callee P h rs ty c

theorem evalF_fun : evalF P rs = eval P rs := funext (evalF_eq P rs)

theorem lenF_eq {ts : Array TypeId} {ty : TypeId} {args : List Value} (hd : args.length ≠ 0) : lenF P ts (headO args) (builtinR P h .len ts ty args) = builtinR P h .len ts ty args := by
  cases args with
  | nil => exact absurd rfl hd
  | cons v l =>
    have hh : headO (v :: l) = v := rfl
    rw [hh]
    unfold lenF
    generalize hk : lenKind P ts = k
    match k with
    | 0 => rfl
    | 1 =>
      show Option.rec (motive := fun _ => Option OpR) _ (fun l => some (.val (.int .i64 (Int.ofNat l.length)))) (vStr v) = _
      cases hs : vStr v with
      | none => rfl
      | some b =>
        obtain ⟨s, rfl, e⟩ := vStr_some hs
        dsimp only
        unfold lenKind at hk
        simp only [builtinR, List.getElem?_cons_zero]
        split at hk <;> try (cases hk; done)
        rename_i hu
        rw [hu]
        dsimp only
        rw [← e]
        have : s.size = s.data.toList.length := (Array.length_toList (xs := s.data)).symm
        rw [this]; rfl
    | n + 2 =>
      show Option.rec (motive := fun _ => Option OpR) _ (fun p => some (.val (.int .i64 (Int.ofNat p.2)))) (vSlice v) = _
      cases hs : vSlice v with
      | none => rfl
      | some p =>
        obtain ⟨c, rfl⟩ := vSlice_some hs
        dsimp only
        unfold lenKind at hk
        simp only [builtinR, List.getElem?_cons_zero]
        split at hk <;> try (cases hk; done)
        rename_i e hu
        rw [hu]
        rfl

theorem callOpF_eq (ty : TypeId) (c : Call) : callOpF P h rs ty c = callOpR P h rs ty c := by
  obtain ⟨callee, args, ts⟩ := c
  unfold callOpF
  cases callee with
  | value f =>
    cases f with
    | func g =>
      dsimp only
      rw [callF_eq, evalF_fun]
      simp [callOpR, eval]
    | _ => rfl
  | invoke r name => rfl
  | builtin b =>
    dsimp only
    cases hb : isLen b with
    | false => rfl
    | true =>
      have : b = .len := by cases b <;> first | rfl | cases hb
      subst this
      dsimp only
      have hc : callOpR P h rs ty { callee := .builtin .len, args, argTypes := ts } = builtinR P h .len ts ty (args.toList.map (eval P rs)) := rfl
      rw [hc, evalF_fun]
      by_cases hl : (args.toList.map (eval P rs)).length = 0
      · have hn := List.eq_nil_of_length_eq_zero hl
        rw [hn]
        have h0 : builtinR P h .len ts ty [] = none := by
          simp only [builtinR, List.getElem?_nil]
          cases (ts[0]?).bind (under P) with
          | none => rfl
          | some d => cases d <;> rfl
        rw [h0]
        unfold lenF
        generalize lenKind P ts = k
        match k with
        | 0 => rfl
        | 1 => rfl
        | n + 2 => rfl
      · exact lenF_eq P h hl

noncomputable def opF (o : Oper) : Option OpR :=
  Op.rec (motive := fun _ => Program → List TypeId → Tr → Rs → Oper → Option OpR)
    (fun x P _ _ rs _ => some (.val (evalF P rs x)))
    (fun x P _ _ rs _ => some (.val (evalF P rs x)))
    (fun c a b P _ _ rs _ => pickR P rs c a b)
    (fun e P _ _ _ _ => allocR P e)
    (fun e x P _ _ rs _ => boxR P rs e x)
    (fun t ps P _ _ rs _ => buildR P rs t ps)
    (fun t n ps P _ _ rs _ => buildSliceR P rs t n ps)
    (fun t m k x P _ h rs _ => mapUpdateR P h rs t m k x)
    (fun t a P _ h rs _ => loadF P h rs t a)
    (fun t a x P _ h rs _ => storeF P h rs t a x)
    (fun _ _ _ _ _ _ => none)
    (fun _ _ _ _ _ _ => none)
    (fun x P _ _ rs _ => nilCheckR P rs x)
    (fun op t x y _ P fl _ rs _ => binF P fl rs op t x y)
    (fun op _ x P _ _ rs _ => unOpR P rs op x)
    (fun src dst x P _ h rs _ => convF P h rs src dst x)
    (fun _ _ _ _ _ _ _ => none)
    (fun t x P _ _ rs _ => makeInterfaceR P rs t x)
    (fun fn first cap P fl h rs o => opR P fl h rs { o with op := .makeFunc fn first cap })
    (fun t r P fl h rs o => opR P fl h rs { o with op := .makeMap t r })
    (fun _ _ _ _ _ _ _ => none)
    (fun t l c P _ _ rs _ => makeSliceR P rs t l c)
    (fun t x lo hi mx P _ h rs _ => sliceR P h rs t x lo hi mx)
    (fun s x f P _ _ rs _ => fieldAddrF P rs s x f)
    (fun t x f P _ _ rs _ => fieldR P rs t x f)
    (fun t x ix P _ _ rs _ => indexAddrF P rs t x ix)
    (fun t x ix P _ _ rs _ => indexF P rs t x ix)
    (fun t m k ok P _ h rs _ => lookupR P h rs t m k ok)
    (fun t m k x P _ h rs _ => mapUpdateR P h rs t m k x)
    (fun _ _ _ _ _ _ _ _ => none)
    (fun _ _ _ _ _ _ _ _ _ => none)
    (fun t x P _ h rs _ => rangeR P h rs t x)
    (fun it s P _ h rs _ => nextR P h rs it s)
    (fun it P _ h rs _ => entryR P h rs it)
    (fun x _ t ok P _ _ rs _ => typeAssertR P rs x t ok)
    (fun x i P _ _ rs _ => extractR P rs x i)
    (fun c P _ h rs o => callOpF P h rs o.type c)
    (fun _ _ _ _ _ _ => none)
    (fun _ _ _ _ _ _ => none)
    (fun _ _ _ _ _ _ => none)
    (fun _ _ _ _ _ _ _ => none)
    (fun _ _ _ _ _ _ _ _ => none)
    (fun _ _ _ _ _ _ _ => none)
    o.op P fl h rs o

theorem opF_eq (o : Oper) : opF P fl h rs o = opR P fl h rs o := by
  obtain ⟨dst, op, ty, pos, after, guard⟩ := o
  cases op <;> first
    | rfl
    | (show some (OpR.val (evalF P rs _)) = _; rw [evalF_eq]; rfl)
    | exact loadF_eq P h rs _ _
    | exact storeF_eq P h rs _ _ _
    | exact binF_eq P fl rs _ _ _ _
    | exact convF_eq P h rs _ _ _
    | exact fieldAddrF_eq P rs _ _ _
    | exact indexAddrF_eq P rs _ _ _
    | exact indexF_eq P rs _ _ _
    | exact callOpF_eq P h rs _ _
end

/-! the machine -/

noncomputable def putF (n : Nat) (rs : Rs) (dst : Option Tmp) (v : Value) : Rs :=
  Option.rec (motive := fun _ => Nat → Rs → Value → Rs) (fun _ rs _ => rs) (fun d n rs v => bif Nat.blt d n then rs.set d (some v) else rs) dst n rs v
theorem putF_eq (n : Nat) (rs : Rs) (dst : Option Tmp) (v : Value) : putF n rs dst v = put n rs dst v := by cases dst <;> rfl

noncomputable def fOper (P : Program) (C : Cfg) (call : CallFn) (m : Mem) (rs : Rs) (o : Oper) : Option (Value × Mem) :=
  Option.rec (motive := fun _ => CallFn → Mem → Option (Value × Mem)) (fun _ _ => none)
    (fun r call m => OpR.rec (motive := fun _ => CallFn → Mem → Option (Value × Mem))
      (fun v _ m => some (v, m))
      (fun x v _ m => Mem.rec (motive := fun _ => AObj → Value → Option (Value × Mem)) (fun t n x v => some (numbered n v, ⟨t.set n (some x), Nat.succ n⟩)) m x v)
      (fun v t _ m => Mem.rec (motive := fun _ => Value → Tr → Option (Value × Mem)) (fun _ n v t => some (v, ⟨t, n⟩)) m v t)
      (fun v t x _ m => Mem.rec (motive := fun _ => Value → Tr → AObj → Option (Value × Mem)) (fun _ n v t x => some (numbered n v, ⟨t.set n (some x), Nat.succ n⟩)) m v t x)
      (fun f args call m => call f args m) r call m)
    (opF P C.flats m.t rs o) call m

theorem fOper_eq (P : Program) (C : Cfg) (call : CallFn) (m : Mem) (rs : Rs) (o : Oper) : fOper P C call m rs o = aOper P C call m rs o := by
  unfold fOper aOper
  rw [opF_eq]
  cases opR P C.flats m.t rs o with
  | none => rfl
  | some r => cases r <;> rfl

noncomputable def fRun (P : Program) (C : Cfg) (call : CallFn) (o : Oper) (go : St → Option St) (n : Nat) (rs : Rs) (m : Mem) : Option St :=
  Option.rec (motive := fun _ => Oper → (St → Option St) → Nat → Rs → Option St) (fun _ _ _ _ => none)
    (fun p o go n rs => Prod.rec (motive := fun _ => Oper → (St → Option St) → Nat → Rs → Option St) (fun v m o go n rs => go ⟨n, putF n rs o.dst v, m⟩) p o go n rs)
    (fOper P C call m rs o) o go n rs

noncomputable def fOps (P : Program) (C : Cfg) (call : CallFn) (ops : Array Oper) (l : List Oper) : St → Option St :=
  List.rec (motive := fun _ => Program → Cfg → CallFn → Array Oper → St → Option St) (fun _ _ _ _ s => some s)
    (fun o _ go P C call ops s => St.rec (motive := fun _ => Oper → (St → Option St) → Program → Cfg → CallFn → Array Oper → Option St)
      (fun n rs m o go P C call ops => Option.rec (motive := fun _ => Oper → (St → Option St) → Program → Cfg → CallFn → Array Oper → Nat → Rs → Mem → Option St)
        (fun o go P C call _ n rs m => fRun P C call o go n rs m)
        (fun _ o go P C call ops n rs m => aOps1 P C call ops o go ⟨n, rs, m⟩) o.guard o go P C call ops n rs m) s o (go P C call ops) P C call ops) l P C call ops

theorem fOps_eq (P : Program) (C : Cfg) (call : CallFn) (ops : Array Oper) : ∀ (l : List Oper) (s : St), fOps P C call ops l s = aOps P C call ops l s
  | [], s => rfl
  | o :: l, s => by
    have ih : fOps P C call ops l = aOps P C call ops l := funext (fOps_eq P C call ops l)
    rw [aOps_cons, ← ih]
    obtain ⟨n, rs, m⟩ := s
    show Option.rec (motive := fun _ => Oper → (St → Option St) → Program → Cfg → CallFn → Array Oper → Nat → Rs → Mem → Option St) _ _ o.guard o (fOps P C call ops l) P C call ops n rs m = _
    cases hg : o.guard with
    | some g => rfl
    | none =>
      dsimp only
      have hw : wantA ops rs o = some true := by unfold wantA; rw [hg]
      unfold aOps1 fRun
      dsimp only
      rw [hw, fOper_eq]
      dsimp only
      cases aOper P C call m rs o with
      | none => rfl
      | some p =>
        obtain ⟨v, m'⟩ := p
        dsimp only
        rw [putF_eq]

noncomputable def fDrawn (P : Program) (C : Cfg) (call : CallFn) (f : FuncId) (id : Nat) (ops : Array Oper) (s : St) : Option St :=
  match C.plan f id with
  | some (ord, []) => fOps P C call ops (planOps ops ord) s
  | some (ord, ps) =>
    match aTrace P C call ops (planOps ops ord) [] s with
    | some (tr, s') => if allL (pairOk P C (planOps ops ord) tr.reverse s'.m.t) ps then some s' else none
    | none => none
  | none => none

theorem fDrawn_eq (P : Program) (C : Cfg) (call : CallFn) (f : FuncId) (id : Nat) (ops : Array Oper) (s : St) : fDrawn P C call f id ops s = aDrawn P C call f id ops s := by
  unfold fDrawn aDrawn
  cases C.plan f id with
  | none => rfl
  | some p =>
    obtain ⟨ord, ps⟩ := p
    cases ps with
    | nil => exact fOps_eq P C call ops _ s
    | cons x l => rfl

noncomputable def thenF (b : Run) (r : Option (AExit × St)) : Option (AExit × St) :=
  Option.rec (motive := fun _ => Run → Option (AExit × St)) (fun _ => none)
    (fun p b => Prod.rec (motive := fun _ => Run → Option (AExit × St)) (fun e s b => AExit.rec (motive := fun _ => Run → St → Option (AExit × St)) (fun b s => b s) (fun i _ s => some (.exit i, s)) (fun _ s => some (.ret, s)) e b s) p b) r b
theorem thenF_eq (b : Run) (r : Option (AExit × St)) : thenF b r = thenR b r := by
  cases r with
  | none => rfl
  | some p => obtain ⟨e, s⟩ := p; cases e <;> rfl

noncomputable def condF (P : Program) (c : Operand) (a b : Run) (s : St) : Option (AExit × St) :=
  Option.rec (motive := fun _ => Run → Run → St → Option (AExit × St)) (fun _ _ _ => none)
    (fun t a b s => Bool.rec (motive := fun _ => Run → Run → St → Option (AExit × St)) (fun _ b s => b s) (fun a _ s => a s) t a b s) (vBool (evalF P s.rs c)) a b s
theorem condF_eq (P : Program) (c : Operand) (a b : Run) (s : St) : condF P c a b s = condR P c a b s := by
  unfold condF condR
  rw [evalF_eq]
  generalize eval P s.rs c = v
  cases v <;> first | rfl | skip
  rename_i t; cases t <;> rfl

noncomputable def fRegion (P : Program) (C : Cfg) (call : CallFn) (f : FuncId) (id : Nat) (ops : Array Oper) (draw : Bool) (s : St) : Option (AExit × St) :=
  Option.rec (motive := fun _ => Option (AExit × St)) none (fun s => some (.normal, s))
    (Bool.rec (motive := fun _ => Program → Cfg → CallFn → FuncId → Nat → Array Oper → St → Option St) (fun P C call _ _ ops s => fOps P C call ops ops.toList s) (fun P C call f id ops s => fDrawn P C call f id ops s) draw P C call f id ops s)
theorem fRegion_eq (P : Program) (C : Cfg) (call : CallFn) (f : FuncId) (id : Nat) (ops : Array Oper) (draw : Bool) (s : St) : fRegion P C call f id ops draw s = aRegion P C call f id ops draw s := by
  unfold fRegion aRegion
  cases draw with
  | false =>
    dsimp only [cond_false]
    rw [fOps_eq]
    cases aOps P C call ops ops.toList s <;> rfl
  | true =>
    dsimp only [cond_true]
    rw [fDrawn_eq]
    cases aDrawn P C call f id ops s <;> rfl

noncomputable def fCode (P : Program) (C : Cfg) (call : CallFn) (loops : Run → Run) (f : FuncId) (c : Code) : Run :=
  Code.rec (motive := fun _ => Program → Cfg → CallFn → (Run → Run) → FuncId → Run)
    (fun _ _ _ _ _ s => some (.normal, s))
    (fun id ops draw P C call _ f s => fRegion P C call f id ops draw s)
    (fun _ _ a b P C call loops f s => thenF (b P C call loops f) (a P C call loops f s))
    (fun c _ _ a b P C call loops f s => condF P c (a P C call loops f) (b P C call loops f) s)
    (fun id _ a P C call loops f s => blockR id (a P C call loops f s))
    (fun _ a P C call loops f s => loops (a P C call loops f) s)
    (fun _ _ _ _ _ _ _ _ _ _ _ _ => none)
    (fun id _ _ _ _ _ s => some (.exit id, s))
    (fun _ _ _ _ _ _ _ _ => none)
    (fun _ _ _ _ _ _ _ => none)
    (fun _ _ _ _ _ _ _ => none)
    (fun _ _ _ _ _ s => some (.ret, s))
    (fun _ _ _ _ _ _ _ => none) c P C call loops f

theorem fCode_eq (P : Program) (C : Cfg) (call : CallFn) (loops : Run → Run) (f : FuncId) : ∀ c : Code, fCode P C call loops f c = aCode P C call loops f c
  | .skip => rfl
  | .region id ops draw => funext fun s => fRegion_eq P C call f id ops draw s
  | .seq a b => funext fun s => by
    show thenF (fCode P C call loops f b) (fCode P C call loops f a s) = thenR (aCode P C call loops f b) (aCode P C call loops f a s)
    rw [thenF_eq, fCode_eq P C call loops f a, fCode_eq P C call loops f b]
  | .cond c a b => funext fun s => by
    show condF P c (fCode P C call loops f a) (fCode P C call loops f b) s = condR P c (aCode P C call loops f a) (aCode P C call loops f b) s
    rw [condF_eq, fCode_eq P C call loops f a, fCode_eq P C call loops f b]
  | .block id a => funext fun s => by
    show blockR id (fCode P C call loops f a s) = blockR id (aCode P C call loops f a s)
    rw [fCode_eq P C call loops f a]
  | .loop a => funext fun s => by
    show loops (fCode P C call loops f a) s = loops (aCode P C call loops f a) s
    rw [fCode_eq P C call loops f a]
  | .ret => rfl
  | .exit _ => rfl
  | .rangeFunc _ _ _ _ => rfl
  | .scope _ => rfl
  | .goto _ => rfl
  | .label _ => rfl
  | .refuse _ => rfl

noncomputable def fLoop (body : Run) (k : Nat) : Run :=
  Nat.rec (motive := fun _ => Run → Run) (fun _ _ => none) (fun _ ih body s => thenF (ih body) (body s)) k body
theorem fLoop_eq (body : Run) : ∀ k, fLoop body k = aLoop body k
  | 0 => rfl
  | k + 1 => funext fun s => by
    show thenF (fLoop body k) (body s) = thenR (aLoop body k) (body s)
    rw [thenF_eq, fLoop_eq body k]

noncomputable def fBody (P : Program) (C : Cfg) (ih : CallFn) (k : Nat) (f : FuncId) (args : List Value) (m : Mem) : Option (Value × Mem) :=
  match P.funcs[f]? with
  | none => none
  | some fn =>
    match fn.body with
    | none => none
    | some c => callEnd P fn (fCode P C ih (fun body s => fLoop body k s) f c { n := max fn.ntmps args.length, rs := startF 0 args .nil, m })

theorem fBody_eq (P : Program) (C : Cfg) (ih : CallFn) (k : Nat) (f : FuncId) (args : List Value) (m : Mem) : fBody P C ih k f args m = aBody P C ih k f args m := by
  unfold fBody aBody
  have hl : (fun (body : Run) (s : St) => fLoop body k s) = fun body s => aLoop body k s := funext fun body => funext fun s => by rw [fLoop_eq]
  simp only [fCode_eq, hl]
  rfl

noncomputable def fCall (P : Program) (C : Cfg) (k : Nat) : CallFn :=
  Nat.rec (motive := fun _ => CallFn) (fun _ _ _ => none)
    (fun k ih f args m => Option.rec (motive := fun _ => Option (Value × Mem)) (fBody P C ih k f args m) (fun r => some r) (C.prim f args m)) k

theorem fCall_eq (P : Program) (C : Cfg) : ∀ k, fCall P C k = aCall P C k
  | 0 => rfl
  | k + 1 => funext fun f => funext fun args => funext fun m => by
    show Option.rec (motive := fun _ => Option (Value × Mem)) (fBody P C (fCall P C k) k f args m) (fun r => some r) (C.prim f args m) = (match C.prim f args m with | some r => some r | none => aBody P C (aCall P C k) k f args m)
    rw [fBody_eq, fCall_eq P C k]
    cases C.prim f args m <;> rfl

end Go.Am
