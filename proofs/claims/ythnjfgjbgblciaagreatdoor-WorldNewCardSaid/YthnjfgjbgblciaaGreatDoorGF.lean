import Derived.Test.YthnjfgjbgblciaaGreatDoorGE
/-
  THE ABSTRACT MACHINE, 40: a run that is told how it goes where it cannot see; what it was told is kept as a premise.
-/
namespace Go.Am

/-- What is told of an event: a test's answer; what a call answers, whatever memory holds; an operator's answer; a text out of bytes; what an operation does; how a loop comes out. -/
inductive Ora where
  | bit (b : Bool)
  | all (v : Value)
  | bin (v : Value)
  | str (bs : List UInt8)
  | idx
  | sto (cs : List Value)
  | opr (r : OpR)
  | lop (e : AExit) (rs : Rs) (m : Mem)

/-- So many events go by themselves; then the first one is told, and so on. -/
structure Qs where
  gap : Nat
  ls : List (Ora × Nat)

structure SO where
  n : Nat
  rs : Rs
  m : Mem
  q : Qs
  p : Prop

noncomputable def nextQ (q : Qs) : Option Ora × Qs :=
  match q.gap with
  | g + 1 => (none, ⟨g, q.ls⟩)
  | 0 =>
    match q.ls with
    | [] => (none, ⟨0, []⟩)
    | (o, g) :: r => (some o, ⟨g, r⟩)

abbrev CallO := FuncId → List Value → Mem → Qs → Prop → Option (Value × Mem × Qs × Prop)
abbrev RunO := SO → Option (AExit × SO)

noncomputable def strT (P : Program) (src dst : TypeId) : Bool :=
  match under P src, under P dst with
  | some (.slice e), some .string => (match under P e with | some (.int .u8) => true | _ => false)
  | _, _ => false

section
variable (P : Program) (C : Cfg)

noncomputable def oOper (real : CallFn) (call : CallO) (m : Mem) (rs : Rs) (o : Oper) (q : Qs) (p : Prop) : Option (Value × Mem × Qs × Prop) :=
  match nextQ q with
  | (none, q) =>
    match opF P C.flats m.t rs o with
    | some (.val v) => some (v, m, q, p)
    | some (.alloc x v) => some (numbered m.n v, ⟨m.t.set m.n (some x), m.n + 1⟩, q, p)
    | some (.step v t) => some (v, ⟨t, m.n⟩, q, p)
    | some (.stepNew v t x) => some (numbered m.n v, ⟨t.set m.n (some x), m.n + 1⟩, q, p)
    | some (.enter f args) => call f args m q p
    | none => none
  | (some (.all v), q) =>
    match opF P C.flats m.t rs o with
    | some (.enter f args) => some (v, m, q, p ∧ ∀ m0, real f args m0 = some (v, m0))
    | _ => none
  | (some (.bin v), q) =>
    match o.op with
    | .binOp op t x y _ => some (v, m, q, p ∧ binR P C.flats op t (evalF P rs x) (evalF P rs y) = some v)
    | _ => none
  | (some (.str bs), q) =>
    match o.op with
    | .convert src dst x =>
      bif strT P src dst then
        match vSlice (evalF P rs x) with
        | some (a, len) =>
          match m.t.get a.block with
          | some (.row cs _ _) => some (.string ⟨⟨bs⟩⟩, m, q, p ∧ (a.off + len ≤ cs.length ∧ bytesOfCells ((cs.drop a.off).take len) = some bs))
          | _ => none
        | none => none
      else none
    | _ => none
  | (some .idx, q) =>
    match o.op with
    | .indexAddr t x ix =>
      match vSlice (evalF P rs x), vInt (evalF P rs ix), elSize P t with
      | some (a, len), some (_, z), some es =>
        match zOf z with
        | some i => some (.pointer (some ⟨a.block, Nat.add a.off (Nat.mul i es), none⟩), m, q, p ∧ i < len)
        | none => none
      | _, _, _ => none
    | _ => none
  | (some (.sto cs'), q) =>
    match o.op with
    | .store t a x =>
      match vPtr (evalF P rs a), (oneF (evalF P rs x) && size1 P t) with
      | some ad, true =>
        match m.t.get ad.block with
        | some (.row cs e fz) => some (undef, ⟨m.t.set ad.block (some (.row cs' e fz)), m.n⟩, q, p ∧ (setO (evalF P rs x) cs ad.off = some cs' ∧ fz / 2 ≤ ad.off))
        | _ => none
      | _, _ => none
    | _ => none
  | (some (.opr r), q) =>
    match r with
    | .val v => some (v, m, q, p ∧ opF P C.flats m.t rs o = some (.val v))
    | .alloc x v => some (numbered m.n v, ⟨m.t.set m.n (some x), m.n + 1⟩, q, p ∧ opF P C.flats m.t rs o = some (.alloc x v))
    | .step v t => some (v, ⟨t, m.n⟩, q, p ∧ opF P C.flats m.t rs o = some (.step v t))
    | .stepNew v t x => some (numbered m.n v, ⟨t.set m.n (some x), m.n + 1⟩, q, p ∧ opF P C.flats m.t rs o = some (.stepNew v t x))
    | .enter _ _ => none
  | (some (.lop _ _ _), _) => none
  | (some (.bit _), _) => none

noncomputable def oWant (ops : Array Oper) (rs : Rs) (o : Oper) (q : Qs) (p : Prop) : Option (Bool × Qs × Prop) :=
  match o.guard with
  | none => some (true, q, p)
  | some _ =>
    match nextQ q with
    | (none, q) => (wantA ops rs o).map fun b => (b, q, p)
    | (some (.bit b), q) => some (b, q, p ∧ wantA ops rs o = some b)
    | _ => none

noncomputable def oOps (real : CallFn) (call : CallO) (ops : Array Oper) (l : List Oper) : SO → Option SO :=
  List.rec (motive := fun _ => SO → Option SO) some
    (fun o _ go s =>
      match oWant ops s.rs o s.q s.p with
      | some (true, q, p) =>
        match oOper P C real call s.m s.rs o q p with
        | some (v, m, q, p) => go ⟨s.n, put s.n s.rs o.dst v, m, q, p⟩
        | none => none
      | some (false, q, p) => go ⟨s.n, put s.n s.rs o.dst undef, s.m, q, p⟩
      | none => none) l

noncomputable def oTrace (real : CallFn) (call : CallO) (ops : Array Oper) (l : List Oper) : List TE → SO → Option (List TE × SO) :=
  List.rec (motive := fun _ => List TE → SO → Option (List TE × SO)) (fun tr s => some (tr, s))
    (fun o _ go tr s =>
      match oWant ops s.rs o s.q s.p with
      | some (true, q, p) =>
        match oOper P C real call s.m s.rs o q p with
        | some (v, m, q, p) => go (⟨s.m.t, s.rs, true, v⟩ :: tr) ⟨s.n, put s.n s.rs o.dst v, m, q, p⟩
        | none => none
      | some (false, q, p) => go (⟨s.m.t, s.rs, false, undef⟩ :: tr) ⟨s.n, put s.n s.rs o.dst undef, s.m, q, p⟩
      | none => none) l

noncomputable def oDrawn (real : CallFn) (call : CallO) (f : FuncId) (id : Nat) (ops : Array Oper) (s : SO) : Option SO :=
  match C.plan f id with
  | some (ord, []) => oOps P C real call ops (planOps ops ord) s
  | some (ord, ps) =>
    match oTrace P C real call ops (planOps ops ord) [] s with
    | some (tr, s') =>
      match nextQ s'.q with
      | (none, q) => if allL (pairOk P C (planOps ops ord) tr.reverse s'.m.t) ps then some { s' with q := q } else none
      | (some (.bit true), q) => some { s' with q := q, p := s'.p ∧ allL (pairOk P C (planOps ops ord) tr.reverse s'.m.t) ps = true }
      | _ => none
    | none => none
  | none => none

noncomputable def oRegion (real : CallFn) (call : CallO) (f : FuncId) (id : Nat) (ops : Array Oper) (draw : Bool) (s : SO) : Option (AExit × SO) :=
  (bif draw then oDrawn P C real call f id ops s else oOps P C real call ops ops.toList s).map fun s => (.normal, s)

noncomputable def oThen (b : RunO) : Option (AExit × SO) → Option (AExit × SO)
  | some (.normal, s) => b s
  | r => r

noncomputable def oCond (c : Operand) (a b : RunO) (s : SO) : Option (AExit × SO) :=
  match nextQ s.q with
  | (none, q) => (match vBool (evalF P s.rs c) with | some true => a { s with q := q } | some false => b { s with q := q } | none => none)
  | (some (.bit true), q) => a { s with q := q, p := s.p ∧ vBool (evalF P s.rs c) = some true }
  | (some (.bit false), q) => b { s with q := q, p := s.p ∧ vBool (evalF P s.rs c) = some false }
  | _ => none

noncomputable def oBlock (id : Nat) : Option (AExit × SO) → Option (AExit × SO)
  | some (.exit i, s) => bif Nat.beq i id then some (.normal, s) else some (.exit i, s)
  | r => r

/-- A loop that may be told. -/
noncomputable def oLoopT (loops : RunO → RunO) (loopsA : Run → Run) (a : RunO) (aA : Run) (s : SO) : Option (AExit × SO) :=
  match s.q.gap, s.q.ls with
  | 0, (.lop e rs m, g) :: r => some (e, { n := s.n, rs := rs, m := m, q := ⟨g, r⟩, p := s.p ∧ loopsA aA ⟨s.n, s.rs, s.m⟩ = some (e, ⟨s.n, rs, m⟩) })
  | _, _ => loops a s

noncomputable def oCode (real : CallFn) (call : CallO) (loops : RunO → RunO) (loopsA : Run → Run) (f : FuncId) (c : Code) : RunO :=
  Code.rec (motive := fun _ => RunO)
    (fun s => some (.normal, s))
    (fun id ops draw s => oRegion P C real call f id ops draw s)
    (fun _ _ a b s => oThen b (a s))
    (fun c _ _ a b s => oCond P c a b s)
    (fun id _ a s => oBlock id (a s))
    (fun body a s => oLoopT loops loopsA a (aCode P C real loopsA f body) s)
    (fun _ _ _ _ _ _ _ => none)
    (fun id s => some (.exit id, s))
    (fun _ _ _ => none)
    (fun _ _ => none)
    (fun _ _ => none)
    (fun s => some (.ret, s))
    (fun _ _ => none) c

noncomputable def oLoop (body : RunO) (k : Nat) : RunO := Nat.rec (motive := fun _ => RunO) (fun _ => none) (fun _ ih s => oThen ih (body s)) k

noncomputable def oEnd (fn : Func) : Option (AExit × SO) → Option (Value × Mem × Qs × Prop)
  | some (.normal, s) | some (.ret, s) => (resultV P s.m.t s.rs fn).map fun v => (v, s.m, s.q, s.p)
  | _ => none

noncomputable def oBody (real : CallFn) (ih : CallO) (k : Nat) (f : FuncId) (args : List Value) (m : Mem) (q : Qs) (p : Prop) : Option (Value × Mem × Qs × Prop) :=
  match P.funcs[f]? with
  | none => none
  | some fn =>
    match fn.body with
    | none => none
    | some c => oEnd P fn (oCode P C real ih (fun body s => oLoop body k s) (fun body s => aLoop body k s) f c { n := max fn.ntmps args.length, rs := startF 0 args .nil, m := m, q := q, p := p })

noncomputable def oCall (k : Nat) : CallO :=
  Nat.rec (motive := fun _ => CallO) (fun _ _ _ _ _ => none)
    (fun k ih f args m q p =>
      match C.prim f args m with
      | some (v, m') => some (v, m', q, p)
      | none => oBody P C (aCall P C k) ih k f args m q p) k
end

/-! it is right -/

section
variable {P : Program} {C : Cfg} {real : CallFn} {call : CallO}

def CallOkO (real : CallFn) (call : CallO) : Prop := ∀ f args m q p v m' q' p', call f args m q p = some (v, m', q', p') → p' → p ∧ real f args m = some (v, m')

theorem nilIface_bin {fl : List TypeId} {op : BinOp} {t : TypeId} : binR P fl op t .nilIface .nilIface = none := by
  have h : eqR P fl t .nilIface .nilIface = none := by
    show eqAddr P t .nilIface .nilIface = none
    unfold eqAddr
    split <;> simp_all
  cases op <;> simp [binR, h]

theorem binOpR_of {fl : List TypeId} {rs : Rs} {op : BinOp} {t : TypeId} {x y : Operand} {v : Value} (h : binR P fl op t (eval P rs x) (eval P rs y) = some v) : binOpR P fl rs op t x y = some (.val v) := by
  unfold binOpR
  dsimp only
  split
  · rename_i h1 h2
    rw [h1, h2, nilIface_bin] at h
    cases h
  · rw [h]; rfl

theorem strT_conv {src dst : TypeId} {h : Tr} {rs : Rs} {x : Operand} {a : Addr} {len c : Nat} {cs : List Value} {e : TypeId} {fz : Nat} {bs : List UInt8} (ht : strT P src dst = true) (hx : eval P rs x = .slice (some a) len c) (hg : h.get a.block = some (.row cs e fz))
    (h1 : a.off + len ≤ cs.length) (h2 : bytesOfCells ((cs.drop a.off).take len) = some bs) : convertR P h rs src dst x = some (.val (.string ⟨⟨bs⟩⟩)) := by
  unfold strT at ht
  split at ht
  · rename_i el hs hd
    split at ht
    · rename_i he
      unfold convertR
      simp only [hs, hd, hx, he, cellsAt, rowAt, hg, if_pos h1, Option.bind_some, h2, Option.map_some, if_true]
    · cases ht
  · cases ht

theorem idx_of {rs : Rs} {t : TypeId} {x ix : Operand} {a : Addr} {len : Nat} {k : IntKind} {z : Int} {es i : Nat} (h1 : vSlice (evalF P rs x) = some (a, len)) (h2 : vInt (evalF P rs ix) = some (k, z)) (h3 : elSize P t = some es) (h4 : zOf z = some i) (hi : i < len) :
    indexAddrR P rs t x ix = some (.val (.pointer (some ⟨a.block, Nat.add a.off (Nat.mul i es), none⟩))) := by
  rw [← indexAddrF_eq]
  obtain ⟨b, o, sp⟩ := a
  have hb : Nat.blt i len = true := by simpa [Nat.blt_eq] using hi
  unfold indexAddrF
  rw [h1]
  simp only [h2, h3, h4, hb, cond_true]

theorem sto_of {h : Tr} {rs : Rs} {t : TypeId} {a x : Operand} {ad : Addr} {cs cs' : List Value} {e : TypeId} {fz : Nat} (h1 : vPtr (evalF P rs a) = some ad) (h2 : (oneF (evalF P rs x) && size1 P t) = true) (h3 : h.get ad.block = some (.row cs e fz))
    (h4 : setO (evalF P rs x) cs ad.off = some cs') (h5 : fz / 2 ≤ ad.off) : storeR P h rs t a x = some (.step undef (h.set ad.block (some (.row cs' e fz)))) := by
  rw [← storeF_eq]
  unfold storeF
  rw [h1]
  simp only [h2, h3, h4, Nat.ble_eq_true_of_le h5, cond_true]

theorem oOper_sound (hc : CallOkO real call) {m : Mem} {rs : Rs} {o : Oper} {q : Qs} {p : Prop} {v : Value} {m' : Mem} {q' : Qs} {p' : Prop} (h : oOper P C real call m rs o q p = some (v, m', q', p')) (hp : p') : p ∧ aOper P C real m rs o = some (v, m') := by
  unfold oOper at h
  unfold aOper
  rw [opF_eq] at h
  split at h
  · split at h
    · rename_i hr; cases h; rw [hr]; exact ⟨hp, rfl⟩
    · rename_i hr; cases h; rw [hr]; exact ⟨hp, rfl⟩
    · rename_i hr; cases h; rw [hr]; exact ⟨hp, rfl⟩
    · rename_i hr; cases h; rw [hr]; exact ⟨hp, rfl⟩
    · rename_i hr; rw [hr]; exact hc _ _ _ _ _ _ _ _ _ h hp
    · cases h
  · split at h
    · rename_i hr; cases h; rw [hr]; exact ⟨hp.1, hp.2 _⟩
    · cases h
  · split at h
    · rename_i op t x y yt ho
      cases h
      have h2 := hp.2
      rw [evalF_eq, evalF_eq] at h2
      refine ⟨hp.1, ?_⟩
      have : opR P C.flats m.t rs o = some (.val v) := by
        unfold opR
        simp only [ho]
        exact binOpR_of h2
      rw [this]
    · cases h
  · split at h
    · rename_i src dst x ho
      cases ht : strT P src dst with
      | false => rw [ht] at h; cases h
      | true =>
        rw [ht] at h
        simp only [cond_true] at h
        split at h
        · rename_i a len hv
          split at h
          · rename_i cs e fz hg
            cases h
            obtain ⟨c, hx⟩ := vSlice_some hv
            rw [evalF_eq] at hx
            refine ⟨hp.1, ?_⟩
            have h3 := strT_conv ht hx hg hp.2.1 hp.2.2
            unfold opR
            simp only [ho, h3]
          · cases h
        · cases h
    · cases h
  · split at h
    · rename_i t x ix ho
      split at h
      · rename_i a len k z es h1 h2 h3
        split at h
        · rename_i i h4
          cases h
          have h5 := idx_of (P := P) h1 h2 h3 h4 hp.2
          refine ⟨hp.1, ?_⟩
          unfold opR
          simp only [ho, h5]
        · cases h
      · cases h
    · cases h
  · split at h
    · rename_i t a x ho
      split at h
      · rename_i ad h1 h2
        split at h
        · rename_i cs e fz h3
          cases h
          have h5 := sto_of (P := P) h1 h2 h3 hp.2.1 hp.2.2
          refine ⟨hp.1, ?_⟩
          unfold opR
          simp only [ho, h5]
        · cases h
      · cases h
    · cases h
  · split at h
    · cases h; rw [hp.2]; exact ⟨hp.1, rfl⟩
    · cases h; rw [hp.2]; exact ⟨hp.1, rfl⟩
    · cases h; rw [hp.2]; exact ⟨hp.1, rfl⟩
    · cases h; rw [hp.2]; exact ⟨hp.1, rfl⟩
    · cases h
  · cases h
  · cases h

theorem oWant_sound {ops : Array Oper} {rs : Rs} {o : Oper} {q : Qs} {p : Prop} {b : Bool} {q' : Qs} {p' : Prop} (h : oWant ops rs o q p = some (b, q', p')) (hp : p') : p ∧ wantA ops rs o = some b := by
  unfold oWant at h
  cases hg : o.guard with
  | none =>
    rw [hg] at h
    cases h
    exact ⟨hp, by unfold wantA; rw [hg]⟩
  | some g =>
    rw [hg] at h
    simp only at h
    split at h
    · cases hw : wantA ops rs o with
      | none => rw [hw] at h; cases h
      | some b' => rw [hw] at h; cases h; exact ⟨hp, rfl⟩
    · cases h; exact hp
    · cases h

theorem oOps_sound (hc : CallOkO real call) {ops : Array Oper} : ∀ (l : List Oper) (s s' : SO), oOps P C real call ops l s = some s' → s'.p → s.p ∧ aOps P C real ops l ⟨s.n, s.rs, s.m⟩ = some ⟨s'.n, s'.rs, s'.m⟩
  | [], s, s', h, hp => by cases h; exact ⟨hp, rfl⟩
  | o :: l, s, s', h, hp => by
    rw [aOps_cons]
    unfold aOps1
    replace h : (match oWant ops s.rs o s.q s.p with
      | some (true, q, p) =>
        match oOper P C real call s.m s.rs o q p with
        | some (v, m, q, p) => oOps P C real call ops l ⟨s.n, put s.n s.rs o.dst v, m, q, p⟩
        | none => none
      | some (false, q, p) => oOps P C real call ops l ⟨s.n, put s.n s.rs o.dst undef, s.m, q, p⟩
      | none => none) = some s' := h
    split at h
    · rename_i q p hw
      split at h
      · rename_i v m q2 p2 ho
        obtain ⟨k1, k2⟩ := oOps_sound hc l _ _ h hp
        obtain ⟨k3, k4⟩ := oOper_sound hc ho k1
        obtain ⟨k5, k6⟩ := oWant_sound hw k3
        refine ⟨k5, ?_⟩
        dsimp only
        rw [k6]; dsimp only; rw [k4]; exact k2
      · cases h
    · rename_i q p hw
      obtain ⟨k1, k2⟩ := oOps_sound hc l _ _ h hp
      obtain ⟨k5, k6⟩ := oWant_sound hw k1
      refine ⟨k5, ?_⟩
      dsimp only
      rw [k6]; exact k2
    · cases h

theorem oTrace_sound (hc : CallOkO real call) {ops : Array Oper} : ∀ (l : List Oper) (tr : List TE) (s : SO) (tr' : List TE) (s' : SO), oTrace P C real call ops l tr s = some (tr', s') → s'.p → s.p ∧ aTrace P C real ops l tr ⟨s.n, s.rs, s.m⟩ = some (tr', ⟨s'.n, s'.rs, s'.m⟩)
  | [], tr, s, tr', s', h, hp => by cases h; exact ⟨hp, rfl⟩
  | o :: l, tr, s, tr', s', h, hp => by
    show s.p ∧ aTrace1 P C real ops o (aTrace P C real ops l) tr ⟨s.n, s.rs, s.m⟩ = _
    unfold aTrace1
    replace h : (match oWant ops s.rs o s.q s.p with
      | some (true, q, p) =>
        match oOper P C real call s.m s.rs o q p with
        | some (v, m, q, p) => oTrace P C real call ops l (⟨s.m.t, s.rs, true, v⟩ :: tr) ⟨s.n, put s.n s.rs o.dst v, m, q, p⟩
        | none => none
      | some (false, q, p) => oTrace P C real call ops l (⟨s.m.t, s.rs, false, undef⟩ :: tr) ⟨s.n, put s.n s.rs o.dst undef, s.m, q, p⟩
      | none => none) = some (tr', s') := h
    split at h
    · rename_i q p hw
      split at h
      · rename_i v m q2 p2 ho
        obtain ⟨k1, k2⟩ := oTrace_sound hc l _ _ _ _ h hp
        obtain ⟨k3, k4⟩ := oOper_sound hc ho k1
        obtain ⟨k5, k6⟩ := oWant_sound hw k3
        refine ⟨k5, ?_⟩
        dsimp only
        rw [k6]; dsimp only; rw [k4]; exact k2
      · cases h
    · rename_i q p hw
      obtain ⟨k1, k2⟩ := oTrace_sound hc l _ _ _ _ h hp
      obtain ⟨k5, k6⟩ := oWant_sound hw k1
      refine ⟨k5, ?_⟩
      dsimp only
      rw [k6]; exact k2
    · cases h

theorem oDrawn_sound (hc : CallOkO real call) {f : FuncId} {id : Nat} {ops : Array Oper} {s s' : SO} (h : oDrawn P C real call f id ops s = some s') (hp : s'.p) : s.p ∧ aDrawn P C real f id ops ⟨s.n, s.rs, s.m⟩ = some ⟨s'.n, s'.rs, s'.m⟩ := by
  unfold oDrawn at h
  unfold aDrawn
  cases hpl : C.plan f id with
  | none => rw [hpl] at h; cases h
  | some pp =>
    obtain ⟨ord, ps⟩ := pp
    rw [hpl] at h
    cases ps with
    | nil => exact oOps_sound hc _ _ _ h hp
    | cons x ps =>
      simp only at h ⊢
      cases ht : oTrace P C real call ops (planOps ops ord) [] s with
      | none => rw [ht] at h; cases h
      | some q =>
        obtain ⟨tr, s1⟩ := q
        rw [ht] at h
        simp only at h
        split at h
        · split at h
          · rename_i hall
            cases h
            obtain ⟨k1, k2⟩ := oTrace_sound hc _ _ _ _ _ ht hp
            rw [k2]
            exact ⟨k1, by simp only; rw [if_pos hall]⟩
          · cases h
        · cases h
          obtain ⟨k1, k2⟩ := oTrace_sound hc _ _ _ _ _ ht hp.1
          rw [k2]
          exact ⟨k1, by simp only; rw [if_pos hp.2]⟩
        · cases h

def RunOkO (run : Run) (runO : RunO) : Prop := ∀ s e s', runO s = some (e, s') → s'.p → s.p ∧ run ⟨s.n, s.rs, s.m⟩ = some (e, ⟨s'.n, s'.rs, s'.m⟩)

theorem oLoop_sound {body : Run} {bodyO : RunO} (h : RunOkO body bodyO) : ∀ k, RunOkO (aLoop body k) (oLoop bodyO k)
  | 0 => fun s e s' hr _ => by cases hr
  | k + 1 => fun s e s' hr hp => by
    replace hr : oThen (oLoop bodyO k) (bodyO s) = some (e, s') := hr
    show s.p ∧ thenR (aLoop body k) (body ⟨s.n, s.rs, s.m⟩) = _
    cases hb : bodyO s with
    | none => rw [hb] at hr; cases hr
    | some es =>
      obtain ⟨e1, s1⟩ := es
      rw [hb] at hr
      cases e1 with
      | normal =>
        obtain ⟨k1, k2⟩ := oLoop_sound h k s1 e s' hr hp
        obtain ⟨k3, k4⟩ := h s _ s1 hb k1
        rw [k4]; exact ⟨k3, k2⟩
      | exit i => cases hr; obtain ⟨k3, k4⟩ := h s _ _ hb hp; rw [k4]; exact ⟨k3, rfl⟩
      | ret => cases hr; obtain ⟨k3, k4⟩ := h s _ _ hb hp; rw [k4]; exact ⟨k3, rfl⟩

theorem condR_of {c : Operand} {a b : Run} {s : St} {t : Bool} (h : vBool (evalF P s.rs c) = some t) : condR P c a b s = if t then a s else b s := by
  have := vBool_some h
  rw [evalF_eq] at this
  unfold condR
  rw [this]
  cases t <;> rfl

theorem oCode_sound (hc : CallOkO real call) (k : Nat) (f : FuncId) : ∀ c : Code, RunOkO (aCode P C real (fun body s => aLoop body k s) f c) (oCode P C real call (fun body s => oLoop body k s) (fun body s => aLoop body k s) f c)
  | .skip => fun s e s' h hp => by cases h; exact ⟨hp, rfl⟩
  | .ret => fun s e s' h hp => by cases h; exact ⟨hp, rfl⟩
  | .exit id => fun s e s' h hp => by cases h; exact ⟨hp, rfl⟩
  | .region id ops draw => fun s e s' h hp => by
    replace h : oRegion P C real call f id ops draw s = some (e, s') := h
    show s.p ∧ aRegion P C real f id ops draw ⟨s.n, s.rs, s.m⟩ = _
    unfold oRegion at h
    unfold aRegion
    cases draw with
    | false =>
      simp only [cond_false] at h ⊢
      obtain ⟨s1, h1, h2⟩ := Option.map_eq_some_iff.1 h
      cases h2
      obtain ⟨k1, k2⟩ := oOps_sound hc _ _ _ h1 hp
      rw [k2]; exact ⟨k1, rfl⟩
    | true =>
      simp only [cond_true] at h ⊢
      obtain ⟨s1, h1, h2⟩ := Option.map_eq_some_iff.1 h
      cases h2
      obtain ⟨k1, k2⟩ := oDrawn_sound hc h1 hp
      rw [k2]; exact ⟨k1, rfl⟩
  | .seq a b => fun s e s' h hp => by
    have iha := oCode_sound hc k f a
    have ihb := oCode_sound hc k f b
    replace h : oThen (oCode P C real call (fun body s => oLoop body k s) (fun body s => aLoop body k s) f b) (oCode P C real call (fun body s => oLoop body k s) (fun body s => aLoop body k s) f a s) = some (e, s') := h
    show s.p ∧ thenR (aCode P C real (fun body s => aLoop body k s) f b) (aCode P C real (fun body s => aLoop body k s) f a ⟨s.n, s.rs, s.m⟩) = _
    cases hb : oCode P C real call (fun body s => oLoop body k s) (fun body s => aLoop body k s) f a s with
    | none => rw [hb] at h; cases h
    | some es =>
      obtain ⟨e1, s1⟩ := es
      rw [hb] at h
      cases e1 with
      | normal =>
        obtain ⟨k1, k2⟩ := ihb s1 e s' h hp
        obtain ⟨k3, k4⟩ := iha s _ s1 hb k1
        rw [k4]; exact ⟨k3, k2⟩
      | exit i => cases h; obtain ⟨k3, k4⟩ := iha s _ _ hb hp; rw [k4]; exact ⟨k3, rfl⟩
      | ret => cases h; obtain ⟨k3, k4⟩ := iha s _ _ hb hp; rw [k4]; exact ⟨k3, rfl⟩
  | .cond c a b => fun s e s' h hp => by
    have iha := oCode_sound hc k f a
    have ihb := oCode_sound hc k f b
    replace h : oCond P c (oCode P C real call (fun body s => oLoop body k s) (fun body s => aLoop body k s) f a) (oCode P C real call (fun body s => oLoop body k s) (fun body s => aLoop body k s) f b) s = some (e, s') := h
    show s.p ∧ condR P c (aCode P C real (fun body s => aLoop body k s) f a) (aCode P C real (fun body s => aLoop body k s) f b) ⟨s.n, s.rs, s.m⟩ = _
    unfold oCond at h
    split at h
    · split at h
      · rename_i hv
        obtain ⟨k1, k2⟩ := iha _ e s' h hp
        rw [condR_of hv, if_pos rfl]; exact ⟨k1, k2⟩
      · rename_i hv
        obtain ⟨k1, k2⟩ := ihb _ e s' h hp
        rw [condR_of hv, if_neg (by simp)]; exact ⟨k1, k2⟩
      · cases h
    · obtain ⟨k1, k2⟩ := iha _ e s' h hp
      rw [condR_of k1.2, if_pos rfl]; exact ⟨k1.1, k2⟩
    · obtain ⟨k1, k2⟩ := ihb _ e s' h hp
      rw [condR_of k1.2, if_neg (by simp)]; exact ⟨k1.1, k2⟩
    · cases h
  | .block id a => fun s e s' h hp => by
    have iha := oCode_sound hc k f a
    replace h : oBlock id (oCode P C real call (fun body s => oLoop body k s) (fun body s => aLoop body k s) f a s) = some (e, s') := h
    show s.p ∧ blockR id (aCode P C real (fun body s => aLoop body k s) f a ⟨s.n, s.rs, s.m⟩) = _
    cases hb : oCode P C real call (fun body s => oLoop body k s) (fun body s => aLoop body k s) f a s with
    | none => rw [hb] at h; cases h
    | some es =>
      obtain ⟨e1, s1⟩ := es
      rw [hb] at h
      cases e1 with
      | normal => cases h; obtain ⟨k3, k4⟩ := iha s _ _ hb hp; rw [k4]; exact ⟨k3, rfl⟩
      | ret => cases h; obtain ⟨k3, k4⟩ := iha s _ _ hb hp; rw [k4]; exact ⟨k3, rfl⟩
      | exit i =>
        simp only [oBlock] at h
        cases hi : Nat.beq i id with
        | true => rw [hi] at h; cases h; obtain ⟨k3, k4⟩ := iha s _ _ hb hp; rw [k4]; exact ⟨k3, by simp only [blockR, hi]; rfl⟩
        | false => rw [hi] at h; cases h; obtain ⟨k3, k4⟩ := iha s _ _ hb hp; rw [k4]; exact ⟨k3, by simp only [blockR, hi]; rfl⟩
  | .loop a => fun s e s' h hp => by
    replace h : oLoopT (fun body s => oLoop body k s) (fun body s => aLoop body k s) (oCode P C real call (fun body s => oLoop body k s) (fun body s => aLoop body k s) f a) (aCode P C real (fun body s => aLoop body k s) f a) s = some (e, s') := h
    unfold oLoopT at h
    split at h
    · cases h; exact hp
    · exact oLoop_sound (oCode_sound hc k f a) k s e s' h hp
  | .rangeFunc _ _ _ _ => fun _ _ _ h _ => by cases h
  | .scope _ => fun _ _ _ h _ => by cases h
  | .goto _ => fun _ _ _ h _ => by cases h
  | .label _ => fun _ _ _ h _ => by cases h
  | .refuse _ => fun _ _ _ h _ => by cases h

theorem oCall_sound (P : Program) (C : Cfg) : ∀ k, CallOkO (aCall P C k) (oCall P C k)
  | 0 => fun _ _ _ _ _ _ _ _ _ h _ => by cases h
  | k + 1 => fun f args m q p v m' q' p' h hp => by
    have ih := oCall_sound P C k
    replace h : (match C.prim f args m with | some (v, m') => some (v, m', q, p) | none => oBody P C (aCall P C k) (oCall P C k) k f args m q p) = some (v, m', q', p') := h
    show p ∧ (match C.prim f args m with | some r => some r | none => aBody P C (aCall P C k) k f args m) = some (v, m')
    cases hpr : C.prim f args m with
    | some r => rw [hpr] at h; cases h; exact ⟨hp, rfl⟩
    | none =>
      rw [hpr] at h
      simp only at h ⊢
      unfold oBody at h
      unfold aBody
      cases hf : P.funcs[f]? with
      | none => rw [hf] at h; cases h
      | some fn =>
        rw [hf] at h
        simp only at h ⊢
        cases hb : fn.body with
        | none => rw [hb] at h; cases h
        | some c =>
          rw [hb] at h
          simp only at h ⊢
          cases hr : oCode P C (aCall P C k) (oCall P C k) (fun body s => oLoop body k s) (fun body s => aLoop body k s) f c { n := max fn.ntmps args.length, rs := startF 0 args .nil, m := m, q := q, p := p } with
          | none => rw [hr] at h; cases h
          | some es =>
            obtain ⟨e, s1⟩ := es
            rw [hr] at h
            have fin : (resultV P s1.m.t s1.rs fn).map (fun v => (v, s1.m, s1.q, s1.p)) = some (v, m', q', p') → s1.p ∧ (resultV P s1.m.t s1.rs fn).map (fun v => (v, s1.m)) = some (v, m') := by
              intro h2
              obtain ⟨u, h3, h4⟩ := Option.map_eq_some_iff.1 h2
              cases h4
              rw [h3]; exact ⟨hp, rfl⟩
            cases e with
            | normal =>
              obtain ⟨k1, k2⟩ := fin h
              obtain ⟨k3, k4⟩ := oCode_sound ih k f c _ _ _ hr k1
              rw [k4]; exact ⟨k3, k2⟩
            | ret =>
              obtain ⟨k1, k2⟩ := fin h
              obtain ⟨k3, k4⟩ := oCode_sound ih k f c _ _ _ hr k1
              rw [k4]; exact ⟨k3, k2⟩
            | exit i => cases h

/-- What a told run says: it answers v, if p. -/
noncomputable def saidO (r : Option (Value × Mem × Qs × Prop)) : Option (Value × Prop) := r.map fun x => (x.1, x.2.2.2)

theorem told_call {k : Nat} {f : FuncId} {args : List Value} {m : Mem} {q : Qs} {v : Value} {p : Prop} (h : saidO (oCall P C k f args m q True) = some (v, p)) (hp : p) : ∃ m', aCall P C k f args m = some (v, m') := by
  unfold saidO at h
  obtain ⟨⟨u, m', q', p'⟩, h1, h2⟩ := Option.map_eq_some_iff.1 h
  cases h2
  exact ⟨m', (oCall_sound P C k f args m q True _ _ _ _ h1 hp).2⟩
end
end Go.Am
/-
  THE ABSTRACT MACHINE, 41: a call over plain values, run with next to no memory, serves every memory; what it made is forgotten.
-/
namespace Go.Am
open Go.RowKit

/-- No address stands in it. -/
noncomputable def plainV : Value → Bool
  | .agg cs => allL constOk cs.toList
  | .tuple cs => allL (fun v => match v with | .agg l => allL constOk l.toList | v => constOk v) cs.toList
  | v => constOk v

theorem const_same {r : Ren} {v v' : Value} (h : constOk v = true) (hv : VRel r v v') : v' = v := by
  cases hv <;> first | rfl | (simp [constOk] at h; done)

theorem consts_same {r : Ren} : ∀ {l l' : List Value}, allL constOk l = true → VRelL r l l' → l' = l
  | [], _, _, .nil => rfl
  | v :: l, _, h, .cons hv ht => by
    simp only [allL, Bool.and_eq_true] at h
    rw [const_same h.1 hv, consts_same h.2 ht]

theorem agg_same {r : Ren} {a a' : Array Value} (h : allL constOk a.toList = true) (hv : VRelL r a.toList a'.toList) : a' = a := by
  have := consts_same h hv
  cases a; cases a'; simpa using this

noncomputable def plain1 (v : Value) : Bool := match v with | .agg l => allL constOk l.toList | v => constOk v

theorem plain1_same {r : Ren} {v v' : Value} (h : plain1 v = true) (hv : VRel r v v') : v' = v := by
  unfold plain1 at h
  split at h
  · cases hv with
    | agg hl => rw [agg_same h hl]
  · exact const_same h hv

theorem plain1_rel {r : Ren} {v : Value} (h : plain1 v = true) : VRel r v v := by
  unfold plain1 at h
  split at h
  · exact .agg (allL_rel h)
  · exact VRel.const h

theorem plains_same {r : Ren} : ∀ {l l' : List Value}, allL plain1 l = true → VRelL r l l' → l' = l
  | [], _, _, .nil => rfl
  | v :: l, _, h, .cons hv ht => by
    simp only [allL, Bool.and_eq_true] at h
    rw [plain1_same h.1 hv, plains_same h.2 ht]

theorem plains_rel {r : Ren} : ∀ {l : List Value}, allL plain1 l = true → VRelL r l l
  | [], _ => .nil
  | v :: l, h => by
    simp only [allL, Bool.and_eq_true] at h
    exact .cons (plain1_rel h.1) (plains_rel h.2)

theorem plainV_same {r : Ren} {v v' : Value} (h : plainV v = true) (hv : VRel r v v') : v' = v := by
  unfold plainV at h
  split at h
  · cases hv with
    | agg hl => rw [agg_same h hl]
  · cases hv with
    | tuple hl =>
      rename_i a' 
      have := plains_same (l := _) h hl
      rename_i a
      cases a; cases a'; simp only at this; rw [this]
  · exact const_same h hv

theorem plainV_rel {r : Ren} {v : Value} (h : plainV v = true) : VRel r v v := by
  unfold plainV at h
  split at h
  · exact .agg (allL_rel h)
  · exact .tuple (plains_rel h)
  · exact VRel.const h

/-- Of what is known nothing has turned. -/
theorem HRel.below {P : Program} {r : Ren} {m : Mem} {w w' : World} (h : HRel P r m w) (hb : Below w.heap.size w w') : HRel P r m w' := by
  refine ⟨fun id e o hr ho => ?_, h.inj, fun id e hr => Nat.lt_of_lt_of_le (h.lt id e hr) hb.size, h.fresh, h.none_, h.glob⟩
  rw [hb.block e.b (h.lt id e hr)]
  exact h.obj id e o hr ho

theorem Evo.below {r : Ren} {m : Mem} {w w' : World} (hb : Below w.heap.size w w') : Evo r m w r m w' :=
  ⟨Ext.refl r, Nat.le_refl _, hb.os, hb.tape, hb.output, hb.size, fun b h _ => hb.block b h, fun _ h => .inr h, fun _ _ h => ⟨h, rfl⟩⟩

/-- The variables alone. -/
noncomputable def globEnts (P : Program) : List Ent := (List.range P.globals.size).map fun g => ⟨g, 0, 0, 0, 0⟩

theorem HRel.bare {P : Program} {r : Ren} {m : Mem} {w : World} (h : HRel P r m w) : HRel P (renOf (globEnts P)) ⟨.nil, (globEnts P).length⟩ w := by
  refine StartOk.rel ⟨?_, ?_, ?_⟩ (by simp [globEnts])
  · intro e he
    simp only [globEnts, List.mem_map, List.mem_range] at he
    obtain ⟨g, hg, rfl⟩ := he
    obtain ⟨e', h1, h2, _⟩ := h.glob g hg
    have := h.lt g e' h1
    simp only
    omega
  · intro g hg
    exact ⟨⟨g, 0, 0, 0, 0⟩, by simp [globEnts, hg], rfl, rfl⟩
  · intro i o hi
    rw [Tri.get_nil] at hi
    cases hi

/-- A call over plain values. -/
theorem pure_call {P : Program} {C : Cfg} (hP : PGood P) (hfl : ∀ t, C.flats.contains t = true → FlatOk P t) (hprim : PrimOk P C) (hplans : AllPlans P C) {k : Nat} {f : FuncId} {args : List Value} {v : Value} {m' : Mem} {n : Nat} (hn : n = P.globals.size)
    (h : aCall P C k f args ⟨.nil, n⟩ = some (v, m')) (ha : allL plain1 args = true) (hv : plainV v = true) {r : Ren} {m : Mem} {w : World} {args' : List Value} (hm : HRel P r m w) (hr : VRelL r args args') : Calls P f ⟨args'⟩ w (CallPost P r m w v m) := by
  rw [plains_same ha hr]
  have hlen : (globEnts P).length = n := by rw [hn]; simp [globEnts]
  have hb := hm.bare
  rw [hlen] at hb
  refine (call_sound hP hfl hprim hplans k f args _ v m' h _ w args hb (plains_rel ha)).mono fun e w' he => ?_
  cases e with
  | returned v' =>
    obtain ⟨r', h1, h2, h3⟩ := he
    have e3 := plainV_same hv h3
    subst e3
    have hbe : Below w.heap.size w w' := by
      refine ⟨h2.os, h2.tape, h2.output, h2.size, fun b hb => h2.frame b hb ?_⟩
      rintro ⟨id, e, o, _, h5, _, _⟩
      rw [show (⟨.nil, n⟩ : Mem).t = Tri.nil from rfl, Tri.get_nil] at h5
      cases h5
    exact ⟨r, hm.below hbe, Evo.below hbe, plainV_rel hv⟩
  | panicked c => exact he.elim
  | outgrown => exact he.elim

end Go.Am
/-
  THE ABSTRACT MACHINE, 42: a call without arguments that answers true over rows that are never written, at any memory where these rows stand.
-/
namespace Go.Am
open Go.RowKit

noncomputable def byteEq (a b : Value) : Bool := match a, b with
  | .int .u8 (.ofNat i), .int .u8 (.ofNat j) => Nat.beq i j
  | _, _ => false
theorem byteEq_ok {a b : Value} (h : byteEq a b = true) : a = b := by
  unfold byteEq at h
  split at h
  · rw [Nat.eq_of_beq_eq_true h]
  · cases h
noncomputable def bytesEq : List Value → List Value → Bool
  | [], [] => true
  | a :: l, b :: m => byteEq a b && bytesEq l m
  | _, _ => false
theorem bytesEq_ok : ∀ {l m : List Value}, bytesEq l m = true → l = m
  | [], [], _ => rfl
  | a :: l, b :: m, h => by
    simp only [bytesEq, Bool.and_eq_true] at h
    rw [byteEq_ok h.1, bytesEq_ok h.2]
  | [], _ :: _, h => by cases h
  | _ :: _, [], h => by cases h
noncomputable def rowIs (o : Option AObj) (cs : List Value) (t fz : Nat) : Bool := match o with
  | some (.row c u z) => Nat.beq u t && (Nat.beq z fz && bytesEq c cs)
  | _ => false
theorem rowIs_ok {o : Option AObj} {cs : List Value} {t fz : Nat} (h : rowIs o cs t fz = true) : o = some (.row cs t fz) := by
  unfold rowIs at h
  split at h
  · simp only [Bool.and_eq_true] at h
    rw [Nat.eq_of_beq_eq_true h.1, Nat.eq_of_beq_eq_true h.2.1, bytesEq_ok h.2.2]
  · cases h

theorem HRel.narrow {P : Program} {r : Ren} {m : Mem} {w : World} {t0 : Tr} {n0 : Nat} (hm : HRel P r m w) (hn : P.globals.size ≤ n0)
    (hc : ∀ i o, t0.get i = some o → i < P.globals.size ∧ ∃ cs t fz, o = .row cs t fz ∧ allL constOk cs = true) (ht : ∀ i o, t0.get i = some o → m.t.get i = some o) :
    HRel P (fun i => if i < P.globals.size then r i else none) ⟨t0, n0⟩ w := by
  refine ⟨?_, ?_, ?_, ?_, ?_, ?_⟩
  · intro id e o hr ho
    obtain ⟨hlt, cs, t, fz, rfl, hco⟩ := hc id o ho
    simp only [if_pos hlt] at hr
    obtain ⟨c, n, h, h1, h2, h3, h4, h5⟩ := hm.obj id e _ hr (ht id _ ho)
    refine ⟨c, n, h, h1, h2, h3, ?_, h5⟩
    rw [consts_same hco h4]
    exact allL_rel hco
  · intro i j e e' o o' hij hi hj ho ho'
    have h1 := (hc i o ho).1
    have h2 := (hc j o' ho').1
    simp only [if_pos h1] at hi
    simp only [if_pos h2] at hj
    exact hm.inj i j e e' o o' hij hi hj (ht _ _ ho) (ht _ _ ho')
  · intro id e hr
    split at hr
    · exact hm.lt id e hr
    · cases hr
  · intro id hid
    simp only at hid ⊢
    rw [if_neg (by omega)]
  · intro id hid
    simp only at hid ⊢
    cases ho : t0.get id with
    | none => rfl
    | some o => have := (hc id o ho).1; omega
  · intro g hg
    obtain ⟨e, h1, h2⟩ := hm.glob g hg
    exact ⟨e, by simp only [if_pos hg]; exact h1, h2⟩

theorem true_pure {P : Program} {C : Cfg} (hP : PGood P) (hfl : ∀ t, C.flats.contains t = true → FlatOk P t) (hprim : PrimOk P C) (hplans : AllPlans P C) {k : Nat} {f : FuncId} {t0 : Tr} {n0 : Nat}
    (hE : isTrueR (fCall P C k f [] ⟨t0, n0⟩) = true) (hro : AllRo t0) (hn : P.globals.size ≤ n0)
    (hc : ∀ i o, t0.get i = some o → i < P.globals.size ∧ ∃ cs t fz, o = .row cs t fz ∧ allL constOk cs = true)
    {r : Ren} {m : Mem} {w : World} (hm : HRel P r m w) (ht : ∀ i o, t0.get i = some o → m.t.get i = some o) {args' : List Value} (ha : VRelL r [] args') : Calls P f ⟨args'⟩ w (CallPost P r m w (.bool true) m) := by
  cases ha
  refine (true_calls hP hfl hprim hplans hE (hm.narrow hn hc ht) hro .nil).mono fun e w' ⟨he, hb⟩ => ?_
  subst he
  exact ⟨r, hm.below hb, Evo.below hb, .bool _⟩
end Go.Am
