import Derived.Test.YthnjfgjbgblciaaGreatDoorAm17
/-
  THE ABSTRACT MACHINE, 18: the operation that calls.
-/
namespace Go.Am

section
variable {P : Program} {r : Ren} {m : Mem} {w : World} {rs : Rs} {a : Act} {o : Oper} {A : Prop} {res : OpR}

/-- In a row of one-cell elements, n of them lie side by side from anywhere on. -/
theorem fits_many {t : TypeId} {cells off n : Nat} (hs : sizeT P t = some 1) (hn : off + n ≤ cells) : liesAt P P.depth t (cells / P.cellsOf t) off t n = true := by
  have hc : P.cellsOf t = 1 := by
    unfold sizeT at hs
    unfold Program.cellsOf
    rw [hs]; rfl
  obtain ⟨d, hd⟩ : ∃ d, P.depth = d + 1 := ⟨_, rfl⟩
  unfold liesAt
  rw [hd]
  simp only [Bool.or_eq_true]
  left
  unfold Go.rowAt
  rw [hc]
  have hsl : sameLayout P (d + 1) t t = true := by
    unfold sameLayout
    simp
  simp [hsl, Nat.mod_one, hn]

theorem sim_unsafeSliceData {ts : Array TypeId} {ty : TypeId} {l l' : List Value} (hl : VRelL r l l') (h : builtinR P m.t .unsafeSliceData ts ty l = some res) : BSim P r m w (Builtin.unsafeSliceData_ ts ty ⟨l'⟩) A res := by
  simp only [builtinR] at h
  cases hl with
  | nil => cases h
  | cons hx ht =>
    cases ht with
    | cons _ _ => split at h <;> simp_all
    | nil =>
      cases hx <;> try (cases h; done)
      case snil =>
        cases h
        exact BSim.val .pnil (by rfl)
      case slice id off off' len cap cap' sp e hr hoff hc hle hsx hrm hb47 ha =>
        simp only at h
        split at h
        · rename_i hne
          cases h
          have : 0 < cap := by omega
          refine BSim.val (v' := .pointer (some ⟨e.b, off', none⟩)) ?_ (Lib.run_unsafeSliceData_row (P := P) w ts ty _ len cap' (by omega))
          rw [hoff this]
          exact .ptr hr
        · cases h

theorem run_loadBytesI : ∀ (l : List Int) (a : Addr) (acc : ByteArray), (∀ j x, l[j]? = some x → w.cell? (a.add j) = some (.int .u8 x)) →
    (loadBytes a acc l.length).run P w = .ok ⟨acc.data ++ (l.map fun n => UInt8.ofNat n.toNat).toArray⟩ w
  | [], a, acc, _ => by simp [loadBytes]
  | x :: l, a, acc, h => by
    have h0 : w.cell? a = some (.int .u8 x) := by
      have := h 0 x rfl
      simpa [Addr.add] using this
    have ih := run_loadBytesI l (a.add 1) (acc.push (UInt8.ofNat x.toNat)) (fun j y hy => by
      have := h (j + 1) y (by simpa using hy)
      have e : (a.add 1).add j = a.add (j + 1) := by
        unfold Addr.add
        by_cases hj : j = 0
        · subst hj; simp
        · simp [hj]; omega
      rw [e]; exact this)
    have hx : (x.toNat).toUInt8 = UInt8.ofNat x.toNat := rfl
    simp only [List.length_cons, loadBytes, Sem.run_bind, run_load, h0, Result.andThen, hx]
    rw [ih]
    congr 1
    apply ByteArray.ext
    simp [ByteArray.push]

theorem run_unsafeString_at {ts : Array TypeId} {pt ty e : TypeId} (ht0 : ts[0]? = some pt) {k : IntKind} (hp : under P pt = some (.pointer e)) (hc : sizeT P e = some 1) {g off cells : Nat} (hsh : w.shape? g = some (e, cells)) (l : List Int) (h0 : l.length ≠ 0) (hn : off + l.length ≤ cells) (h63 : l.length ≤ 9223372036854775807)
    (hcell : ∀ j x, l[j]? = some x → w.cell? ((⟨g, off, none⟩ : Addr).add j) = some (.int .u8 x)) :
    (Builtin.unsafeString_ ts ty #[.pointer (some ⟨g, off, none⟩), .int k l.length]).run P w = .ok (.string ⟨⟨l.map fun n => UInt8.ofNat n.toNat⟩⟩) (w.freeze ⟨g, off, none⟩ l.length) := by
  have hp : P.underlying pt = some (.pointer e) := hp
  have hlb := run_loadBytesI (P := P) l ⟨g, off, none⟩ .empty hcell
  have hlies := fits_many (P := P) (cells := cells) (off := off) hc hn
  have h63' : ¬ (9223372036854775807 : Int) < (l.length : Int) := by omega
  conv in Builtin.unsafeString_ _ _ _ => whnf
  have hmax : IntKind.i64.max = 9223372036854775807 := rfl
  have hneg : ¬ (l.length : Int) < 0 := by omega
  have h0' : l ≠ [] := by intro h; subst h; exact h0 rfl
  simp [hmax, ht0, h63', hneg, h0', variablesAt, hsh, elemOf, run_underlying hp, hlies, hlb]

theorem run_unsafeString_zero {ts : Array TypeId} {pt : TypeId} (h0 : ts[0]? = some pt) {ty : TypeId} {k : IntKind} {p : Option Addr} : (Builtin.unsafeString_ ts ty #[.pointer p, .int k 0]).run P w = .ok (.string .empty) w := by
  have hmax : IntKind.i64.max = 9223372036854775807 := rfl
  conv in Builtin.unsafeString_ _ _ _ => whnf
  cases p <;> simp [hmax, h0]

theorem sim_unsafeString (hm : HRel P r m w) {ts : Array TypeId} {ty : TypeId} {l l' : List Value} (hl : VRelL r l l') (h : builtinR P m.t .unsafeString ts ty l = some res) :
    BSim P r m w (Builtin.unsafeString_ ts ty ⟨l'⟩) A res := by
  simp only [builtinR] at h
  cases hpt : ts[0]? with
  | none => simp [hpt] at h
  | some pt =>
  simp only [hpt, Option.bind_some] at h
  split at h
  · cases hl with
    | cons hx ht =>
      cases ht with
      | cons hy ht =>
        cases ht
        cases hx; cases hy
        split at h <;> cases h
        rename_i hn0
        subst hn0
        exact BSim.val (.string _) (run_unsafeString_zero hpt)
  · rename_i aa k n u hu
    cases hl with
    | cons hx ht =>
      cases ht with
      | cons hy ht =>
        cases ht
        cases hx; cases hy
        rename_i id off e hr
        split at h
        · cases h
        rename_i hn
        split at h
        · rename_i hn0; subst hn0; cases h
          exact BSim.val (.string _) (run_unsafeString_zero hpt)
        rename_i hn0
        split at h
        · rename_i cs e2 fz hrow
          split at h
          · rename_i hc
            obtain ⟨rfl, hc2, hc3, hc4, hc5⟩ := hc
            split at h <;> cases h
            rename_i bs hbs
            obtain ⟨ns, h1, h2⟩ := bytesOfCells_ints hbs
            subst h2
            have hget := rowAt_get hrow
            obtain ⟨c, lo, hi, o1, o2, o3, o4, o5, o6, o7, o8⟩ := hm.obj _ _ _ hr hget
            have hsh := shape_of hm hr hrow
            simp only at hc3 hc4 hc5 h1
            have hnl : ns.length = n.toNat := by
              have := congrArg List.length h1
              simp at this; omega
            have hnn : n = (ns.length : Int) := by omega
            have hcells : ∀ j x, ns[j]? = some x → w.cell? ((⟨e.b, e.d + off, none⟩ : Addr).add j) = some (.int .u8 x) := by
              intro j x hj
              have hlt : j < ns.length := by
                rcases Nat.lt_or_ge j ns.length with h' | h'
                · exact h'
                · rw [List.getElem?_eq_none h'] at hj; cases hj
              have hv : cs[off + j]? = some (.int .u8 x) := by
                have : ((cs.drop off).take n.toNat)[j]? = some (.int .u8 x) := by rw [h1]; simp [hj]
                rw [List.getElem?_take, if_pos (by omega), List.getElem?_drop] at this
                exact this
              obtain ⟨v', hv1, hv2⟩ := cell_of hm hr hrow hv
              cases hv2
              rw [add_none]
              rw [← Nat.add_assoc] at hv1
              exact hv1
            have hrun := run_unsafeString_at (P := P) (w := w) (ty := ty) (k := k) hpt hu hc2 hsh.1 ns (by omega) (by omega) (by omega) hcells
            rw [← hnn] at hrun
            have hzero : ns.length ≠ 0 := by omega
            have hheap : (w.freeze ⟨e.b, e.d + off, none⟩ ns.length).heap = w.heap.modify e.b fun
                | .cells c elem (lo, hi) => .cells c elem (if lo == hi then (e.d + off, e.d + off + ns.length) else (min lo (e.d + off), max hi (e.d + off + ns.length)))
                | o => o := by
              unfold World.freeze
              rw [if_neg hzero]
              dsimp only
              congr 1
            have hw := hm.write (x := .row cs e2 (2 * max (fz / 2) (off + n.toNat))) (w' := w.freeze ⟨e.b, e.d + off, none⟩ ns.length) hr hget
              (by simp only [ro]; cases hb : Nat.blt cs.length (fz / 2) with | false => rfl | true => (have := Nat.le_of_ble_eq_true hb; omega))
              (by simp [World.freeze, hzero]) (by simp [World.freeze, hzero]) (by simp [World.freeze, hzero]) (by rw [hheap]; simp) (fun b hb => by rw [hheap, Array.getElem?_modify, if_neg (Ne.symm hb)]) (by
                have he5 := o5.even hc5
                refine ⟨c, (if lo == hi then (e.d + off, e.d + off + ns.length) else (min lo (e.d + off), max hi (e.d + off + ns.length))).1, (if lo == hi then (e.d + off, e.d + off + ns.length) else (min lo (e.d + off), max hi (e.d + off + ns.length))).2, ?_, o2, o3, o4, ⟨?_, ?_⟩, o6, o7, o8⟩
                · rw [hheap, Array.getElem?_modify, if_pos rfl, o1]; rfl
                · intro x hx hx2
                  by_cases hlh : lo = hi
                  · simp only [hlh, beq_self_eq_true, if_true]; omega
                  · have : (lo == hi) = false := by simpa using hlh
                    simp only [this, Bool.false_eq_true, if_false]; omega
                · intro _
                  right
                  by_cases hlh : lo = hi
                  · simp only [hlh, beq_self_eq_true, if_true]; omega
                  · have : (lo == hi) = false := by simpa using hlh
                    simp only [this, Bool.false_eq_true, if_false]; omega)
            exact BSim.step hrun hw (.string _)
          · cases h
        · cases h
  · cases h

theorem VRelL.evals (ev : ∀ x, VRel r (eval P rs x) (a.eval x)) (l : List Operand) : VRelL r (l.map (eval P rs)) (l.map a.eval) := VRelL.map _ _ ev l

theorem sim_builtin (hP : PGood P) (hm : HRel P r m w) (ev : ∀ x, VRel r (eval P rs x) (a.eval x)) {c : Call} {b : Builtin} (ho : o.op = .call c) (hc : c.callee = .builtin b)
    (h : builtinR P m.t b c.argTypes o.type (c.args.toList.map (eval P rs)) = some res) : OpSim P r m w (execOp a.eval o) False res := by
  obtain ⟨consts, hex⟩ := exec_builtin (a := a) ho hc
  have hl := VRelL.evals ev c.args.toList
  cases b <;> try (cases h; done)
  case append =>
    have h0 := h
    simp only [builtinR] at h
    split at h
    · rename_i t tx s x hq1 hq2
      obtain ⟨callee, args, argTypes⟩ := c
      obtain ⟨args⟩ := args
      obtain ⟨argTypes⟩ := argTypes
      simp only at hc hq1 hq2 h0 hex hl ⊢
      subst hc hq1
      match args, hq2 with
      | [u, v], hq2 =>
        simp only [List.map_cons, List.map_nil, List.cons.injEq, and_true] at hq2
        obtain ⟨rfl, rfl⟩ := hq2
        rw [hex]
        exact sim_append hP hm (ev u) (ev v) h0
    · cases h
  all_goals rw [hex]
  case cap => exact sim_cap hl h
  case clear => exact sim_clear hP hm hl h
  case copy => exact sim_copy hm hl h
  case delete => exact sim_delete hm hl h
  case len => exact sim_len hm hl h
  case max => exact sim_max hl h
  case min => exact sim_min hl h
  case unsafeSliceData => exact sim_unsafeSliceData hl h
  case unsafeString => exact sim_unsafeString hm hl h

theorem run_method {t : TypeId} {v : Value} {name : String} {mt : Go.Method} {f : FuncId} {b : Bool} {d : TypeDesc} (k : Nat) (hi : ((P.info? t).bind fun i => i.methods.toList.find? (·.name == name)) = some mt) (hd : under P t = some d) (hp : mt.path.toList = [])
    (hf : mt.func = some (f, b)) (hb : (b = true ∧ ∃ u, d = .pointer u) ∨ (b = false ∧ ∀ u, d ≠ .pointer u)) : (method (k + 1) t v name).run P w = .ok (f, v) w := by
  cases hi' : P.info? t with
  | none => simp [hi'] at hi
  | some i =>
    simp only [hi', Option.bind_some] at hi
    have hfind : i.methods.find? (·.name == name) = some mt := by rw [← hi]; simp
    unfold method
    rcases hb with ⟨rfl, u, rfl⟩ | ⟨rfl, hb⟩
    · simp [typeInfo, hi', hfind, hp, follow, hf, receiverAt, run_under hd, Place.get]
    · cases d <;> first | exact absurd rfl (hb _) | simp [typeInfo, hi', hfind, hp, follow, hf, receiverAt, run_under hd, Place.get]

theorem sim_callOp (hP : PGood P) (hm : HRel P r m w) (ev : ∀ x, VRel r (eval P rs x) (a.eval x)) {c : Call} (ho : o.op = .call c) (h : callOpR P m.t rs o.type c = some res) : OpSim P r m w (execOp a.eval o) False res := by
  unfold callOpR at h
  simp only at h
  have hl := VRelL.evals ev c.args.toList
  have hargs : c.args.map a.eval = ⟨c.args.toList.map a.eval⟩ := by apply Array.ext'; simp
  split at h
  · rename_i b hc
    exact sim_builtin hP hm ev ho hc h
  · rename_i f hc
    have hv := ev f
    split at h
    · rename_i fid first captured hf
      rw [hf] at hv
      generalize hcv : a.eval f = vf at hv
      cases hv with
      | func fn h1 h2 =>
        rename_i a' b'
        have hex : execOp a.eval o = callFunc fid ⟨a'.toList ++ c.args.toList.map a.eval ++ b'.toList⟩ := by
          have : (a' ++ (⟨c.args.toList.map a.eval⟩ : Array Value)) ++ b' = ⟨a'.toList ++ c.args.toList.map a.eval ++ b'.toList⟩ := by apply Array.ext'; simp
          simp only [execOp, ho, resolve, hc, hcv, hargs]
          rw [← this]
          rfl
        rw [hex]
        exact sim_callFunc hP hm ((h1.append hl).append h2) h
    · cases h
  · rename_i rv name hc
    have hv := ev rv
    split at h
    · rename_i t v hr
      rw [hr] at hv
      generalize hcv : a.eval rv = vr at hv
      cases hv with
      | iface _ hv =>
        rename_i v'
        split at h
        · rename_i mt d hmt hd
          have fin : ∀ {f : FuncId} {b : Bool}, mt.path.toList = [] → mt.func = some (f, b) → ((b = true ∧ ∃ u, d = .pointer u) ∨ (b = false ∧ ∀ u, d ≠ .pointer u)) → callR P f (v :: c.args.toList.map (eval P rs)) = some res →
              OpSim P r m w (execOp a.eval o) False res := by
            intro f b hp hf hb hcall
            have hs := sim_callFunc (A := False) hP hm (.cons hv hl) hcall
            have hx : ∀ w', (execOp a.eval o).run P w' = (callFunc f ⟨v' :: c.args.toList.map a.eval⟩).run P w' := by
              intro w'
              obtain ⟨k, hk⟩ : ∃ k, P.types.size + Made.depth = k + 1 := ⟨_, rfl⟩
              have hrm := run_method (P := P) (w := w') (v := v') k hmt hd hp hf hb
              have e1 : (#[Value.iface t v'] ++ (⟨c.args.toList.map a.eval⟩ : Array Value)).extract 1 (#[Value.iface t v'] ++ (⟨c.args.toList.map a.eval⟩ : Array Value)).size = ⟨c.args.toList.map a.eval⟩ := by
                apply Array.ext'; simp; exact List.take_of_length_le (by simp)
              have e2 : (#[v'] ++ (⟨c.args.toList.map a.eval⟩ : Array Value)) = ⟨v' :: c.args.toList.map a.eval⟩ := by apply Array.ext'; simp
              have hex : execOp a.eval o = callMethod (.iface t v') name ⟨c.args.toList.map a.eval⟩ := by
                simp only [execOp, ho, resolve, hc, hcv, hargs]
                show invoke (.fn (.method name) #[]) (#[Value.iface t v'] ++ ⟨c.args.toList.map a.eval⟩) = _
                unfold invoke
                have e0 : (#[Value.iface t v'] ++ (⟨c.args.toList.map a.eval⟩ : Array Value))[0]? = some (.iface t v') := by simp
                simp only [e0, e1]
              rw [hex]
              unfold callMethod
              simp only [Sem.run_bind]
              show ((Result.ok P w').andThen _) = _
              simp only [Result.andThen_ok, hk, hrm, e2]
            cases res <;> simp only [OpSim, hx] at hs ⊢ <;> exact hs
          split at h
          · rename_i f hp hf; exact fin hp hf (.inl ⟨rfl, _, rfl⟩) h
          · cases h
          · rename_i f hp hf hnp
            refine fin hp hf (.inr ⟨rfl, fun u hu => ?_⟩) h
            first | exact hnp _ hu | exact hnp _ rfl | (subst hu; exact hnp _ rfl)
          · cases h
        · cases h
    · cases h

end
end Go.Am
